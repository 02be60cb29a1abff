/- Put together: The document's small calls of layer 5: digit, digits, hex, four, escape; The document's escape of layer 5. -/
import Derived.Test.YtdlkdecigpaaaaaGreatDoorMg4
import Derived.Test.YtdlkdecigpaaaaaGreatDoorMg5
namespace Go.Proofs.YtdlkdecigpaaaaaGreatDoor
set_option linter.unusedVariables false
set_option linter.unusedSimpArgs false
open Go.RowKit
set_option maxHeartbeats 400000 in
theorem is5_any (s : ByteArray) (i c : Int) (w : World) (h0 : 0 ≤ i) :
    Calls Tryz.prog 56 #[.string s, .int .i64 i, .int .u8 c] w fun e w' => e = .returned (.bool (isAt s i c)) ∧ w = w' := by
  by_cases h : i < s.size
  · have hb := bt_at s i
    have hr : isAt s i c = (bt s i == c) := by simp [isAt, h]
    rw [hr]
    go_enter Tryz.func56, Tryz.ntmps56
    go_wp2
    go_ret
    exact ⟨rfl, rfl⟩
  · have hr : isAt s i c = false := by simp [isAt]; omega
    rw [hr]
    go_enter Tryz.func56, Tryz.ntmps56
    go_wp2
    go_ret
    exact ⟨rfl, rfl⟩
set_option maxHeartbeats 400000 in
theorem digit5_any (s : ByteArray) (i : Int) (w : World) (h0 : 0 ≤ i) :
    Calls Tryz.prog 125 #[.string s, .int .i64 i] w fun e w' => e = .returned (.bool (digitAt s i)) ∧ w = w' := by
  have hb := bt_at s i
  have Hr : Hid (digitAt s i = (decide (i < s.size) && digitB (bt s i))) := Lib.hid rfl
  generalize digitAt s i = r at *
  by_cases h : i < s.size
  · go_enter Tryz.func125, Tryz.ntmps125
    go_wp2
    all_goals
      go_ret
      exact ⟨ret_bool (by rw [Hr.out, Bool.eq_iff_iff]; simp [digitB]; omega), rfl⟩
  · go_enter Tryz.func125, Tryz.ntmps125
    go_wp2
    go_ret
    exact ⟨ret_bool (by rw [Hr.out, Bool.eq_iff_iff]; simp [digitB]; omega), rfl⟩
set_option maxHeartbeats 400000 in
theorem digits5_any (s : ByteArray) (i : Int) (w : World) (h0 : 0 ≤ i) (hs : s.size ≤ 4611686018427387904) (hd : digitAt s i = true) :
    Calls Tryz.prog 147 #[.string s, .int .i64 i] w fun e w' => e = .returned (.int .i64 (digitsEnd s i)) ∧ w = w' := by
  have hdd := digit5_any s i w h0
  rw [hd] at hdd
  have HD := Lib.hid hdd
  have hl := digitAt_lt hd
  clear hdd hd
  go_enter Tryz.func147, Tryz.ntmps147
  go_wp2_with (go_at_call 125; refine HD.out.mono ?_; rintro e w' ⟨rfl, rfl⟩)
  go_loop [1] (fun t => ∃ j : Int, 0 ≤ j ∧ j ≤ s.size ∧ t = .int .i64 j ∧ Hid (digitsEnd s i = digitsEnd s j)) (fun t => s.size - (intOf t).toNat)
  case atStart => exact ⟨i, h0, by omega, rfl, Lib.hid rfl⟩
  case round =>
    obtain ⟨j, hj, hjs, rfl, H⟩ := hrel
    have h := digit5_any s j w hj
    cases hb : digitAt s j
    · rw [hb] at h
      have HH := Lib.hid h
      have HE := Lib.hid (H.out.trans (upTo_stop hb))
      clear h hb
      go_wp2_with (go_at_call 125; refine HH.out.mono ?_; rintro e w' ⟨rfl, rfl⟩)
      go_ret
      exact ⟨ret_i64 HE.out.symm, rfl⟩
    · rw [hb] at h
      have HH := Lib.hid h
      have hlt := digitAt_lt hb
      have HE := Lib.hid (H.out.trans (upTo_step hj hb hlt))
      clear h hb
      go_wp2_with (go_at_call 125; refine HH.out.mono ?_; rintro e w' ⟨rfl, rfl⟩)
      go_round
      case rel => exact ⟨j + 1, by omega, by omega, rfl, HE⟩
      case measure => simp [intOf]; omega
def smallS : ByteArray := ⟨#[48, 49, 50, 51, 52, 53, 54, 55, 56, 57, 97, 98, 99, 100, 101, 102]⟩
def greatS : ByteArray := ⟨#[48, 49, 50, 51, 52, 53, 54, 55, 56, 57, 65, 66, 67, 68, 69, 70]⟩
theorem small_bt : ∀ p : Nat, p < 16 → bt smallS p = if p < 10 then 48 + (p : Int) else 87 + p := by decide +kernel
theorem great_bt : ∀ p : Nat, p < 16 → bt greatS p = if p < 10 then 48 + (p : Int) else 55 + p := by decide +kernel
theorem hex_step {s : ByteArray} {i : Int} {p : Nat} (hp : p < 16) (H : hexAt s i = -1 ∨ (p : Int) ≤ hexAt s i) :
    (isAt s i (bt smallS p) = true ∨ isAt s i (bt greatS p) = true → hexAt s i = p) ∧ (isAt s i (bt smallS p) = false → isAt s i (bt greatS p) = false → hexAt s i = -1 ∨ ((p + 1 : Nat) : Int) ≤ hexAt s i) := by
  rw [small_bt p hp, great_bt p hp]
  have hb := bt_range s i
  unfold hexAt isAt at *
  by_cases h : i < s.size
  · simp only [h, if_true, decide_true, Bool.true_and, beq_iff_eq, beq_eq_false_iff_ne] at *
    generalize bt s i = c at *
    unfold hexV at *
    constructor
    · rintro (h1 | h1)
      · split at h1
        · rw [if_pos (by omega)]; omega
        · rw [if_neg (by omega), if_pos (by omega)]; omega
      · split at h1
        · rw [if_pos (by omega)]; omega
        · rw [if_neg (by omega), if_neg (by omega), if_pos (by omega)]; omega
    · intro h1 h2
      by_cases c1 : 48 ≤ c ∧ c ≤ 57
      · rw [if_pos c1] at H ⊢
        split at h1 <;> omega
      · rw [if_neg c1] at H ⊢
        by_cases c2 : 97 ≤ c ∧ c ≤ 102
        · rw [if_pos c2] at H ⊢
          split at h1 <;> omega
        · rw [if_neg c2] at H ⊢
          by_cases c3 : 65 ≤ c ∧ c ≤ 70
          · rw [if_pos c3] at H ⊢
            split at h2 <;> omega
          · rw [if_neg c3] at H ⊢; exact .inl rfl
  · simp [h]
set_option maxRecDepth 20000 in
set_option maxHeartbeats 1000000 in
theorem hex5_any (s : ByteArray) (i : Int) (w : World) (h0 : 0 ≤ i) :
    Calls Tryz.prog 167 #[.string s, .int .i64 i] w fun e w' => e = .returned (.int .i64 (hexAt s i)) ∧ w = w' := by
  have HR := Lib.hid (hexAt_range s i)
  go_enter Tryz.func167, Tryz.ntmps167
  go_wp2
  go_loop [7] (fun t => ∃ p : Nat, p ≤ 16 ∧ t = .int .i64 p ∧ Hid (hexAt s i = -1 ∨ (p : Int) ≤ hexAt s i)) (fun t => 16 - (intOf t).toNat)
  case atStart => exact ⟨0, by omega, rfl, Lib.hid (by have := HR.out; omega)⟩
  case round =>
    obtain ⟨p, hp, rfl, H⟩ := hrel
    by_cases hlt : p < 16
    · have hs1 := bt_nat smallS p
      have hs2 := bt_nat greatS p
      unfold smallS at hs1
      unfold greatS at hs2
      have hI : (p : Int) < 16 := by omega
      have HT := Lib.hid (hex_step hlt H.out)
      have hc1 := is5_any s i (bt smallS p) w h0
      have hc2 := is5_any s i (bt greatS p) w h0
      unfold smallS at hc1
      unfold greatS at hc2
      generalize hq1 : bt ⟨#[48, 49, 50, 51, 52, 53, 54, 55, 56, 57, 97, 98, 99, 100, 101, 102]⟩ (p : Int) = q1 at *
      generalize hq2 : bt ⟨#[48, 49, 50, 51, 52, 53, 54, 55, 56, 57, 65, 66, 67, 68, 69, 70]⟩ (p : Int) = q2 at *
      have HT2 : Hid ((isAt s i q1 = true ∨ isAt s i q2 = true → hexAt s i = p) ∧ (isAt s i q1 = false → isAt s i q2 = false → hexAt s i = -1 ∨ ((p + 1 : Nat) : Int) ≤ hexAt s i)) := by rw [← hq1, ← hq2]; exact HT
      clear HT hq1 hq2
      cases h1 : isAt s i q1
      · rw [h1] at hc1
        have HC1 := Lib.hid hc1
        cases h2 : isAt s i q2
        · rw [h2] at hc2
          have HC2 := Lib.hid hc2
          have HE := Lib.hid (HT2.out.2 h1 h2)
          clear h1 h2 hc1 hc2 HT2
          go_wp2_with fail
          refine HC1.out.mono ?_
          rintro e w' ⟨rfl, rfl⟩
          go_wp2_with fail
          refine HC2.out.mono ?_
          rintro e w' ⟨rfl, rfl⟩
          go_wp2_with fail
          go_round
          case rel => exact ⟨p + 1, by omega, by go_num, HE⟩
          case measure => simp [intOf]; omega
        · rw [h2] at hc2
          have HC2 := Lib.hid hc2
          have HE := Lib.hid (HT2.out.1 (.inr h2))
          clear h1 h2 hc1 hc2 HT2
          go_wp2_with fail
          refine HC1.out.mono ?_
          rintro e w' ⟨rfl, rfl⟩
          go_wp2_with fail
          refine HC2.out.mono ?_
          rintro e w' ⟨rfl, rfl⟩
          go_wp2_with fail
          go_ret
          exact ⟨ret_i64 HE.out.symm, rfl⟩
      · rw [h1] at hc1
        have HC1 := Lib.hid hc1
        have HE := Lib.hid (HT2.out.1 (.inl h1))
        clear h1 hc1 hc2 HT2
        go_wp2_with fail
        refine HC1.out.mono ?_
        rintro e w' ⟨rfl, rfl⟩
        go_wp2_with fail
        go_ret
        exact ⟨ret_i64 HE.out.symm, rfl⟩
    · obtain rfl : p = 16 := by omega
      have HE : Hid (hexAt s i = -1) := Lib.hid (by have h1 := HR.out; have h2 := H.out; omega)
      go_wp2_with fail
      go_ret
      exact ⟨ret_i64 HE.out.symm, rfl⟩
set_option maxRecDepth 20000 in
set_option maxHeartbeats 1000000 in
theorem four5_any (s : ByteArray) (i : Int) (w : World) (h0 : 0 ≤ i) (h1 : i ≤ 4611686018427388000) :
    Calls Tryz.prog 156 #[.string s, .int .i64 i] w fun e w' => e = .returned (.tuple #[.int .i64 (four s i).1, .int .i64 (four s i).2]) ∧ w = w' := by
  go_enter Tryz.func156, Tryz.ntmps156
  go_wp2
  go_loop [1, 6, 7] (fun a n t => ∃ (k : Nat) (m : Int), k ≤ 4 ∧ 0 ≤ m ∧ m < 16 ^ k ∧ a = .int .i64 (i + k) ∧ n = .int .i64 m ∧ t = .int .i64 k ∧ Hid (four s i = fourF s (4 - k) m (i + k))) (fun _ _ t => 4 - (intOf t).toNat)
  case atStart => exact ⟨0, 0, by omega, by omega, by omega, by simp, rfl, rfl, Lib.hid (by simp [four])⟩
  case round =>
    obtain ⟨k, m, hk, hm0, hm1, rfl, rfl, rfl, H⟩ := hrel
    have hm2 : m < 65536 := by
      have : (16 : Int) ^ k ≤ 65536 := by
        match k, hk with
        | 0, _ => decide
        | 1, _ => decide
        | 2, _ => decide
        | 3, _ => decide
        | 4, _ => decide
      omega
    have HM := Lib.hid hm1
    clear hm1
    by_cases hlt : k < 4
    · have hI : (k : Int) < 4 := by omega
      have hr := hexAt_range s (i + k)
      have hst : fourF s (4 - k) m (i + k) = if hexAt s (i + k) < 0 then (-1, i + k) else fourF s (4 - (k + 1)) (m * 16 + hexAt s (i + k)) (i + k + 1) := by
        rw [show 4 - k = (4 - (k + 1)) + 1 from by omega]; rfl
      have HS := Lib.hid (H.out.trans hst)
      have HX := Lib.hid (hex5_any s (i + k) w (by omega))
      clear hst
      generalize hexAt s (i + k) = d at *
      by_cases hd : d < 0
      · have HE := Lib.hid (HS.out.trans (if_pos hd))
        go_wp2_with (go_at_call 167; refine HX.out.mono ?_; rintro e w' ⟨rfl, rfl⟩)
        go_ret2
        rw [HE.out]
        exact ⟨rfl, rfl⟩
      · have HE := Lib.hid (HS.out.trans (if_neg hd))
        go_wp2_with (go_at_call 167; refine HX.out.mono ?_; rintro e w' ⟨rfl, rfl⟩)
        go_round
        case rel =>
          refine ⟨k + 1, m * 16 + d, by omega, by omega, ?_, ?_, rfl, by go_num, Lib.hid ?_⟩
          · have := HM.out; rw [Int.pow_succ]; omega
          · exact congrArg (Value.int .i64) (by omega)
          · rw [HE.out, show i + ((k + 1 : Nat) : Int) = i + k + 1 from by omega]
        case measure => simp [intOf]; omega
    · obtain rfl : k = 4 := by omega
      go_wp2
      go_ret2
      rw [H.out]
      exact ⟨rfl, rfl⟩
end Go.Proofs.YtdlkdecigpaaaaaGreatDoor
namespace Go.Proofs.YtdlkdecigpaaaaaGreatDoor
set_option linter.unusedVariables false
set_option linter.unusedSimpArgs false
open Go.RowKit

def lettersS : ByteArray := ⟨#[34, 92, 47, 98, 102, 110, 114, 116]⟩
def pointsS : ByteArray := ⟨#[34, 92, 47, 8, 12, 10, 13, 9]⟩
theorem letters_bt : ∀ p : Nat, p < 8 → bt lettersS p = ([34, 92, 47, 98, 102, 110, 114, 116] : List Int).getD p 0 ∧ bt pointsS p = escV (bt lettersS p) ∧ 0 ≤ bt pointsS p ∧ bt pointsS p ≤ 92 := by decide +kernel
/-- No letter among the first so many. -/
def noneBefore (c : Int) (p : Nat) : Prop := ∀ q, q < p → bt lettersS q ≠ c
theorem esc_none {c : Int} (h : noneBefore c 8) : escV c = -1 := by
  have h0 := h 0 (by omega); have h1 := h 1 (by omega); have h2 := h 2 (by omega); have h3 := h 3 (by omega)
  have h4 := h 4 (by omega); have h5 := h 5 (by omega); have h6 := h 6 (by omega); have h7 := h 7 (by omega)
  rw [(letters_bt _ (by omega)).1] at h0 h1 h2 h3 h4 h5 h6 h7
  simp only [List.getD_cons_zero, List.getD_cons_succ] at h0 h1 h2 h3 h4 h5 h6 h7
  unfold escV
  rw [if_neg (Ne.symm h0), if_neg (Ne.symm h1), if_neg (Ne.symm h2), if_neg (Ne.symm h3), if_neg (Ne.symm h4), if_neg (Ne.symm h5), if_neg (Ne.symm h6), if_neg (Ne.symm h7)]
theorem esc_step {s : ByteArray} {i : Int} {p : Nat} (hp : p < 8) :
    (isAt s (i + 1) (bt lettersS p) = true → escAt s (i + 1) = bt pointsS p ∧ 0 ≤ bt pointsS p) ∧
    (isAt s (i + 1) (bt lettersS p) = false → (i + 1 < s.size → noneBefore (bt s (i + 1)) p) → (i + 1 < s.size → noneBefore (bt s (i + 1)) (p + 1))) := by
  obtain ⟨h1, h2, h3, h4⟩ := letters_bt p hp
  constructor
  · intro h
    simp only [isAt, Bool.and_eq_true, decide_eq_true_eq, beq_iff_eq] at h
    rw [escAt, if_pos h.1, h.2, h2]
    exact ⟨rfl, by rw [← h2]; exact h3⟩
  · intro h H hlt q hq
    by_cases e : q = p
    · subst e
      simp only [isAt, hlt, decide_true, Bool.true_and, beq_eq_false_iff_ne] at h
      exact fun x => h x.symm
    · exact H hlt q (by omega)
theorem esc_end {s : ByteArray} {i : Int} (H : i + 1 < s.size → noneBefore (bt s (i + 1)) 8) : escAt s (i + 1) = -1 := by
  unfold escAt
  split
  · rename_i h; exact esc_none (H h)
  · rfl
theorem escape_def (s : ByteArray) (i : Int) : escape s i =
  if 0 ≤ escAt s (i + 1) then (escAt s (i + 1), i + 2, 0)
  else if isAt s (i + 1) 117 = false then (0, i + 1, 1)
  else if (four s (i + 2)).1 < 0 then (0, (four s (i + 2)).2, 1)
  else if pointB (four s (i + 2)).1 then ((four s (i + 2)).1, (four s (i + 2)).2, 0)
  else if (four s (i + 2)).1 < 56320 ∧ isAt s (four s (i + 2)).2 92 = true ∧ isAt s ((four s (i + 2)).2 + 1) 117 = true ∧ 56320 ≤ (four s ((four s (i + 2)).2 + 2)).1 ∧ (four s ((four s (i + 2)).2 + 2)).1 ≤ 57343 then
    (65536 + ((four s (i + 2)).1 - 55296) * 1024 + (four s ((four s (i + 2)).2 + 2)).1 - 56320, (four s ((four s (i + 2)).2 + 2)).2, 0)
  else (0, i, 3) := rfl
set_option maxRecDepth 20000 in
set_option maxHeartbeats 4000000 in
theorem escape5_any (s : ByteArray) (i : Int) (w : World) (h0 : 0 ≤ i) (hs : s.size ≤ 4611686018427387904) (hi : i < s.size) :
    Calls Tryz.prog 144 #[.string s, .int .i64 i] w fun e w' => e = .returned (.tuple #[.int .i64 (escape s i).1, .int .i64 (escape s i).2.1, .int .i64 (escape s i).2.2]) ∧ w = w' := by
  have HE := Lib.hid (escape_def s i)
  generalize escape s i = r at *
  go_enter Tryz.func144, Tryz.ntmps144
  go_wp2
  go_loop [9] (fun t => ∃ p : Nat, p ≤ 8 ∧ t = .int .i64 p ∧ Hid (i + 1 < s.size → noneBefore (bt s (i + 1)) p)) (fun t => 8 - (intOf t).toNat)
  case atStart => exact ⟨0, by omega, rfl, Lib.hid (fun _ q hq => by omega)⟩
  case round =>
    obtain ⟨p, hp, rfl, H⟩ := hrel
    by_cases hlt : p < 8
    · have hs1 := bt_nat lettersS p
      have hs2 := bt_nat pointsS p
      unfold lettersS at hs1
      unfold pointsS at hs2
      have hI : (p : Int) < 8 := by omega
      have HT := Lib.hid (esc_step (s := s) (i := i) hlt)
      have hpr := (letters_bt p hlt).2.2
      have hc1 := is5_any s (i + 1) (bt lettersS p) w (by omega)
      unfold lettersS at hc1
      unfold pointsS at hpr
      generalize hq1 : bt ⟨#[34, 92, 47, 98, 102, 110, 114, 116]⟩ (p : Int) = q1 at *
      generalize hq2 : bt ⟨#[34, 92, 47, 8, 12, 10, 13, 9]⟩ (p : Int) = q2 at *
      have HT2 : Hid ((isAt s (i + 1) q1 = true → escAt s (i + 1) = q2 ∧ 0 ≤ q2) ∧ (isAt s (i + 1) q1 = false → (i + 1 < s.size → noneBefore (bt s (i + 1)) p) → (i + 1 < s.size → noneBefore (bt s (i + 1)) (p + 1)))) := by rw [← hq1, ← hq2]; exact HT
      clear HT hq1 hq2
      cases h1 : isAt s (i + 1) q1
      · rw [h1] at hc1
        have HC1 := Lib.hid hc1
        have HN := Lib.hid (HT2.out.2 h1 H.out)
        clear h1 hc1 HT2
        go_wp2_with fail
        refine HC1.out.mono ?_
        rintro e w' ⟨rfl, rfl⟩
        go_wp2_with fail
        go_round
        case rel => exact ⟨p + 1, by omega, by go_num, HN⟩
        case measure => simp [intOf]; omega
      · rw [h1] at hc1
        have HC1 := Lib.hid hc1
        have HN := Lib.hid (HT2.out.1 h1)
        clear h1 hc1 HT2
        go_wp2_with fail
        refine HC1.out.mono ?_
        rintro e w' ⟨rfl, rfl⟩
        go_wp2_with fail
        go_ret3
        rw [HE.out, if_pos (by rw [HN.out.1]; exact HN.out.2), HN.out.1]
        exact ⟨rfl, rfl⟩
    · obtain rfl : p = 8 := by omega
      have he := esc_end H.out
      have HE2 := Lib.hid (HE.out.trans (if_neg (by rw [he]; omega)))
      clear HE he H
      have hI : ¬ ((8 : Nat) : Int) < 8 := by omega
      rw [show ((8 : Nat) : Int) = 8 from rfl]
      clear hI
      have hc := is5_any s (i + 1) 117 w (by omega)
      have HF := Lib.hid (four5_any s (i + 2) w (by omega) (by omega))
      have hfr := four_range s (i + 2)
      cases h2 : isAt s (i + 1) 117
      · rw [h2] at hc
        have HC := Lib.hid hc
        have HR := Lib.hid (HE2.out.trans (if_pos h2))
        clear hc h2 HE2
        go_wp2_with (go_at_call 56; refine HC.out.mono ?_; rintro e w' ⟨rfl, rfl⟩)
        go_ret3
        rw [HR.out]
        exact ⟨rfl, rfl⟩
      · rw [h2] at hc
        have HC := Lib.hid hc
        have HE3 := Lib.hid (HE2.out.trans (if_neg (by rw [h2]; simp)))
        clear hc h2 HE2
        generalize four s (i + 2) = f at *
        obtain ⟨n, e1⟩ := f
        simp only at hfr HE3 HF
        obtain ⟨f1, f2, f3, f4⟩ := hfr
        by_cases c3 : n < 0
        · have HR := Lib.hid (HE3.out.trans (if_pos c3))
          go_wp2_with (first | (go_at_call 56; refine HC.out.mono ?_; rintro e w' ⟨rfl, rfl⟩) | (go_at_call 156; refine HF.out.mono ?_; rintro e w' ⟨rfl, rfl⟩))
          go_ret3
          rw [HR.out]
          exact ⟨rfl, rfl⟩
        · have HE4 := Lib.hid (HE3.out.trans (if_neg c3))
          have hri := ris_any n w
          cases c4 : pointB n
          · rw [c4] at hri
            have HI := Lib.hid hri
            have HE5 := Lib.hid (HE4.out.trans (if_neg (by rw [c4]; simp)))
            clear hri c4 HE4 HE3
            have hca := is5_any s e1 92 w (by omega)
            have hcb := is5_any s (e1 + 1) 117 w (by omega)
            have HG := Lib.hid (four5_any s (e1 + 2) w (by omega) (by omega))
            have hgr := four_range s (e1 + 2)
            generalize four s (e1 + 2) = f at *
            obtain ⟨low, e2⟩ := f
            simp only at hgr HE5 HG
            obtain ⟨g1, g2, g3, g4⟩ := hgr
            by_cases d1 : n < 56320
            · cases d2 : isAt s e1 92
              · rw [d2] at hca
                have HCA := Lib.hid hca
                have HR := Lib.hid (HE5.out.trans (if_neg (by rw [d2]; simp)))
                clear hca hcb d2 HE5
                go_wp2_with fail
                refine HC.out.mono ?_; rintro e w' ⟨rfl, rfl⟩
                go_wp2_with fail
                refine HF.out.mono ?_; rintro e w' ⟨rfl, rfl⟩
                go_wp2_with fail
                refine HI.out.mono ?_; rintro e w' ⟨rfl, rfl⟩
                go_wp2_with fail
                refine HCA.out.mono ?_; rintro e w' ⟨rfl, rfl⟩
                go_wp2_with fail
                go_ret3
                rw [HR.out]
                exact ⟨rfl, rfl⟩
              · rw [d2] at hca
                have HCA := Lib.hid hca
                cases d3 : isAt s (e1 + 1) 117
                · rw [d3] at hcb
                  have HCB := Lib.hid hcb
                  have HR := Lib.hid (HE5.out.trans (if_neg (by rw [d3]; simp)))
                  clear hca hcb d2 d3 HE5
                  go_wp2_with fail
                  refine HC.out.mono ?_; rintro e w' ⟨rfl, rfl⟩
                  go_wp2_with fail
                  refine HF.out.mono ?_; rintro e w' ⟨rfl, rfl⟩
                  go_wp2_with fail
                  refine HI.out.mono ?_; rintro e w' ⟨rfl, rfl⟩
                  go_wp2_with fail
                  refine HCA.out.mono ?_; rintro e w' ⟨rfl, rfl⟩
                  go_wp2_with fail
                  refine HCB.out.mono ?_; rintro e w' ⟨rfl, rfl⟩
                  go_wp2_with fail
                  go_ret3
                  rw [HR.out]
                  exact ⟨rfl, rfl⟩
                · rw [d3] at hcb
                  have HCB := Lib.hid hcb
                  by_cases d4 : 56320 ≤ low ∧ low ≤ 57343
                  · have HR := Lib.hid (HE5.out.trans (if_pos ⟨d1, d2, d3, d4.1, d4.2⟩))
                    obtain ⟨d5, d6⟩ := d4
                    clear hca hcb d2 d3 HE5
                    go_wp2_with fail
                    refine HC.out.mono ?_; rintro e w' ⟨rfl, rfl⟩
                    go_wp2_with fail
                    refine HF.out.mono ?_; rintro e w' ⟨rfl, rfl⟩
                    go_wp2_with fail
                    refine HI.out.mono ?_; rintro e w' ⟨rfl, rfl⟩
                    go_wp2_with fail
                    refine HCA.out.mono ?_; rintro e w' ⟨rfl, rfl⟩
                    go_wp2_with fail
                    refine HCB.out.mono ?_; rintro e w' ⟨rfl, rfl⟩
                    go_wp2_with fail
                    refine HG.out.mono ?_; rintro e w' ⟨rfl, rfl⟩
                    go_wp2_with fail
                    go_ret3
                    rw [HR.out]
                    exact ⟨rfl, rfl⟩
                  · have HR := Lib.hid (HE5.out.trans (if_neg (by rintro ⟨_, _, _, x, y⟩; exact d4 ⟨x, y⟩)))
                    clear hca hcb d2 d3 HE5
                    by_cases d5 : 56320 ≤ low
                    all_goals
                      go_wp2_with fail
                      refine HC.out.mono ?_; rintro e w' ⟨rfl, rfl⟩
                      go_wp2_with fail
                      refine HF.out.mono ?_; rintro e w' ⟨rfl, rfl⟩
                      go_wp2_with fail
                      refine HI.out.mono ?_; rintro e w' ⟨rfl, rfl⟩
                      go_wp2_with fail
                      refine HCA.out.mono ?_; rintro e w' ⟨rfl, rfl⟩
                      go_wp2_with fail
                      refine HCB.out.mono ?_; rintro e w' ⟨rfl, rfl⟩
                      go_wp2_with fail
                      refine HG.out.mono ?_; rintro e w' ⟨rfl, rfl⟩
                      have d6 : 56320 ≤ low → 57343 < low := by omega
                      go_wp2_with fail
                      all_goals
                        first
                        | (exfalso; omega)
                        | (go_ret3; rw [HR.out]; exact ⟨rfl, rfl⟩)
            · have HR := Lib.hid (HE5.out.trans (if_neg (by omega)))
              clear hca hcb HE5
              go_wp2_with fail
              refine HC.out.mono ?_; rintro e w' ⟨rfl, rfl⟩
              go_wp2_with fail
              refine HF.out.mono ?_; rintro e w' ⟨rfl, rfl⟩
              go_wp2_with fail
              refine HI.out.mono ?_; rintro e w' ⟨rfl, rfl⟩
              go_wp2_with fail
              go_ret3
              rw [HR.out]
              exact ⟨rfl, rfl⟩
          · rw [c4] at hri
            have HI := Lib.hid hri
            have HR := Lib.hid (HE4.out.trans (if_pos c4))
            clear hri c4 HE4 HE3
            go_wp2_with (first | (go_at_call 56; refine HC.out.mono ?_; rintro e w' ⟨rfl, rfl⟩) | (go_at_call 156; refine HF.out.mono ?_; rintro e w' ⟨rfl, rfl⟩) | (go_at_call 157; refine HI.out.mono ?_; rintro e w' ⟨rfl, rfl⟩))
            go_ret3
            rw [HR.out]
            exact ⟨rfl, rfl⟩
end Go.Proofs.YtdlkdecigpaaaaaGreatDoor
