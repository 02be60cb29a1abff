/- The document's small calls of layer 5: digit, digits, hex, four, escape. -/
import Derived.Test.YtlnmjpacagimnaaDoorTok
import Derived.Test.YtlnmjpacagimnaaDoorFirst
namespace Go.Proofs.YtlnmjpacagimnaaDoor
set_option linter.unusedVariables false
set_option linter.unusedSimpArgs false
open Go.RowKit
set_option maxHeartbeats 400000 in
theorem is5_any (s : ByteArray) (i c : Int) (w : World) (h0 : 0 ≤ i) :
    Calls Tryd.prog 24 #[.string s, .int .i64 i, .int .u8 c] w fun e w' => e = .returned (.bool (isAt s i c)) ∧ w = w' := by
  by_cases h : i < s.size
  · have hb := bt_at s i
    have hr : isAt s i c = (bt s i == c) := by simp [isAt, h]
    rw [hr]
    go_enter Tryd.func24, Tryd.ntmps24
    go_wp2
    go_ret
    exact ⟨rfl, rfl⟩
  · have hr : isAt s i c = false := by simp [isAt]; omega
    rw [hr]
    go_enter Tryd.func24, Tryd.ntmps24
    go_wp2
    go_ret
    exact ⟨rfl, rfl⟩
set_option maxHeartbeats 400000 in
theorem digit5_any (s : ByteArray) (i : Int) (w : World) (h0 : 0 ≤ i) :
    Calls Tryd.prog 34 #[.string s, .int .i64 i] w fun e w' => e = .returned (.bool (digitAt s i)) ∧ w = w' := by
  have hb := bt_at s i
  have Hr : Hid (digitAt s i = (decide (i < s.size) && digitB (bt s i))) := Lib.hid rfl
  generalize digitAt s i = r at *
  by_cases h : i < s.size
  · go_enter Tryd.func34, Tryd.ntmps34
    go_wp2
    all_goals
      go_ret
      exact ⟨ret_bool (by rw [Hr.out, Bool.eq_iff_iff]; simp [digitB]; omega), rfl⟩
  · go_enter Tryd.func34, Tryd.ntmps34
    go_wp2
    go_ret
    exact ⟨ret_bool (by rw [Hr.out, Bool.eq_iff_iff]; simp [digitB]; omega), rfl⟩
set_option maxHeartbeats 400000 in
theorem digits5_any (s : ByteArray) (i : Int) (w : World) (h0 : 0 ≤ i) (hs : s.size ≤ 4611686018427387904) (hd : digitAt s i = true) :
    Calls Tryd.prog 48 #[.string s, .int .i64 i] w fun e w' => e = .returned (.int .i64 (digitsEnd s i)) ∧ w = w' := by
  have hdd := digit5_any s i w h0
  rw [hd] at hdd
  have HD := Lib.hid hdd
  have hl := digitAt_lt hd
  clear hdd hd
  go_enter Tryd.func48, Tryd.ntmps48
  go_wp2_with (go_at_call 34; refine HD.out.mono ?_; rintro e w' ⟨rfl, rfl⟩)
  go_loop [1] (fun t => ∃ j : Int, 0 ≤ j ∧ j ≤ s.size ∧ t = .int .i64 j ∧ Hid (digitsEnd s i = digitsEnd s j)) (fun t => s.size - (intOf t).toNat)
  case atStart => exact ⟨i, h0, by omega, rfl, Lib.hid rfl⟩
  case round =>
    obtain ⟨j, hj, hjs, rfl, H⟩ := hrel
    have h := digit5_any s j w hj
    cases hb : digitAt s j
    · rw [hb] at h
      have HH := Lib.hid h
      have HE := Lib.hid (H.out.trans (upTo_stop hb))
      clear h hb
      go_wp2_with (go_at_call 34; refine HH.out.mono ?_; rintro e w' ⟨rfl, rfl⟩)
      go_ret
      exact ⟨ret_i64 HE.out.symm, rfl⟩
    · rw [hb] at h
      have HH := Lib.hid h
      have hlt := digitAt_lt hb
      have HE := Lib.hid (H.out.trans (upTo_step hj hb hlt))
      clear h hb
      go_wp2_with (go_at_call 34; refine HH.out.mono ?_; rintro e w' ⟨rfl, rfl⟩)
      go_round
      case rel => exact ⟨j + 1, by omega, by omega, rfl, HE⟩
      case measure => simp [intOf]; omega
def smallS : ByteArray := ⟨#[48, 49, 50, 51, 52, 53, 54, 55, 56, 57, 97, 98, 99, 100, 101, 102]⟩
def greatS : ByteArray := ⟨#[48, 49, 50, 51, 52, 53, 54, 55, 56, 57, 65, 66, 67, 68, 69, 70]⟩
theorem small_bt : ∀ p : Nat, p < 16 → bt smallS p = if p < 10 then 48 + (p : Int) else 87 + p := by decide +kernel
theorem great_bt : ∀ p : Nat, p < 16 → bt greatS p = if p < 10 then 48 + (p : Int) else 55 + p := by decide +kernel
theorem hex_step {s : ByteArray} {i : Int} {p : Nat} (hp : p < 16) (H : hexAt s i = -1 ∨ (p : Int) ≤ hexAt s i) :
    (isAt s i (bt smallS p) = true ∨ isAt s i (bt greatS p) = true → hexAt s i = p) ∧ (isAt s i (bt smallS p) = false → isAt s i (bt greatS p) = false → hexAt s i = -1 ∨ ((p + 1 : Nat) : Int) ≤ hexAt s i) := by
  rw [small_bt p hp, great_bt p hp]
  have hb := bt_range s i
  unfold hexAt isAt at *
  by_cases h : i < s.size
  · simp only [h, if_true, decide_true, Bool.true_and, beq_iff_eq, beq_eq_false_iff_ne] at *
    generalize bt s i = c at *
    unfold hexV at *
    constructor
    · rintro (h1 | h1)
      · split at h1
        · rw [if_pos (by omega)]; omega
        · rw [if_neg (by omega), if_pos (by omega)]; omega
      · split at h1
        · rw [if_pos (by omega)]; omega
        · rw [if_neg (by omega), if_neg (by omega), if_pos (by omega)]; omega
    · intro h1 h2
      by_cases c1 : 48 ≤ c ∧ c ≤ 57
      · rw [if_pos c1] at H ⊢
        split at h1 <;> omega
      · rw [if_neg c1] at H ⊢
        by_cases c2 : 97 ≤ c ∧ c ≤ 102
        · rw [if_pos c2] at H ⊢
          split at h1 <;> omega
        · rw [if_neg c2] at H ⊢
          by_cases c3 : 65 ≤ c ∧ c ≤ 70
          · rw [if_pos c3] at H ⊢
            split at h2 <;> omega
          · rw [if_neg c3] at H ⊢; exact .inl rfl
  · simp [h]
set_option maxRecDepth 20000 in
set_option maxHeartbeats 1000000 in
theorem hex5_any (s : ByteArray) (i : Int) (w : World) (h0 : 0 ≤ i) :
    Calls Tryd.prog 73 #[.string s, .int .i64 i] w fun e w' => e = .returned (.int .i64 (hexAt s i)) ∧ w = w' := by
  have HR := Lib.hid (hexAt_range s i)
  go_enter Tryd.func73, Tryd.ntmps73
  go_wp2
  go_loop [7] (fun t => ∃ p : Nat, p ≤ 16 ∧ t = .int .i64 p ∧ Hid (hexAt s i = -1 ∨ (p : Int) ≤ hexAt s i)) (fun t => 16 - (intOf t).toNat)
  case atStart => exact ⟨0, by omega, rfl, Lib.hid (by have := HR.out; omega)⟩
  case round =>
    obtain ⟨p, hp, rfl, H⟩ := hrel
    by_cases hlt : p < 16
    · have hs1 := bt_nat smallS p
      have hs2 := bt_nat greatS p
      unfold smallS at hs1
      unfold greatS at hs2
      have hI : (p : Int) < 16 := by omega
      have HT := Lib.hid (hex_step hlt H.out)
      have hc1 := is5_any s i (bt smallS p) w h0
      have hc2 := is5_any s i (bt greatS p) w h0
      unfold smallS at hc1
      unfold greatS at hc2
      generalize hq1 : bt ⟨#[48, 49, 50, 51, 52, 53, 54, 55, 56, 57, 97, 98, 99, 100, 101, 102]⟩ (p : Int) = q1 at *
      generalize hq2 : bt ⟨#[48, 49, 50, 51, 52, 53, 54, 55, 56, 57, 65, 66, 67, 68, 69, 70]⟩ (p : Int) = q2 at *
      have HT2 : Hid ((isAt s i q1 = true ∨ isAt s i q2 = true → hexAt s i = p) ∧ (isAt s i q1 = false → isAt s i q2 = false → hexAt s i = -1 ∨ ((p + 1 : Nat) : Int) ≤ hexAt s i)) := by rw [← hq1, ← hq2]; exact HT
      clear HT hq1 hq2
      cases h1 : isAt s i q1
      · rw [h1] at hc1
        have HC1 := Lib.hid hc1
        cases h2 : isAt s i q2
        · rw [h2] at hc2
          have HC2 := Lib.hid hc2
          have HE := Lib.hid (HT2.out.2 h1 h2)
          clear h1 h2 hc1 hc2 HT2
          go_wp2_with fail
          refine HC1.out.mono ?_
          rintro e w' ⟨rfl, rfl⟩
          go_wp2_with fail
          refine HC2.out.mono ?_
          rintro e w' ⟨rfl, rfl⟩
          go_wp2_with fail
          go_round
          case rel => exact ⟨p + 1, by omega, by go_num, HE⟩
          case measure => simp [intOf]; omega
        · rw [h2] at hc2
          have HC2 := Lib.hid hc2
          have HE := Lib.hid (HT2.out.1 (.inr h2))
          clear h1 h2 hc1 hc2 HT2
          go_wp2_with fail
          refine HC1.out.mono ?_
          rintro e w' ⟨rfl, rfl⟩
          go_wp2_with fail
          refine HC2.out.mono ?_
          rintro e w' ⟨rfl, rfl⟩
          go_wp2_with fail
          go_ret
          exact ⟨ret_i64 HE.out.symm, rfl⟩
      · rw [h1] at hc1
        have HC1 := Lib.hid hc1
        have HE := Lib.hid (HT2.out.1 (.inl h1))
        clear h1 hc1 hc2 HT2
        go_wp2_with fail
        refine HC1.out.mono ?_
        rintro e w' ⟨rfl, rfl⟩
        go_wp2_with fail
        go_ret
        exact ⟨ret_i64 HE.out.symm, rfl⟩
    · obtain rfl : p = 16 := by omega
      have HE : Hid (hexAt s i = -1) := Lib.hid (by have h1 := HR.out; have h2 := H.out; omega)
      go_wp2_with fail
      go_ret
      exact ⟨ret_i64 HE.out.symm, rfl⟩
set_option maxRecDepth 20000 in
set_option maxHeartbeats 1000000 in
theorem four5_any (s : ByteArray) (i : Int) (w : World) (h0 : 0 ≤ i) (h1 : i ≤ 4611686018427388000) :
    Calls Tryd.prog 62 #[.string s, .int .i64 i] w fun e w' => e = .returned (.tuple #[.int .i64 (four s i).1, .int .i64 (four s i).2]) ∧ w = w' := by
  go_enter Tryd.func62, Tryd.ntmps62
  go_wp2
  go_loop [1, 6, 7] (fun a n t => ∃ (k : Nat) (m : Int), k ≤ 4 ∧ 0 ≤ m ∧ m < 16 ^ k ∧ a = .int .i64 (i + k) ∧ n = .int .i64 m ∧ t = .int .i64 k ∧ Hid (four s i = fourF s (4 - k) m (i + k))) (fun _ _ t => 4 - (intOf t).toNat)
  case atStart => exact ⟨0, 0, by omega, by omega, by omega, by simp, rfl, rfl, Lib.hid (by simp [four])⟩
  case round =>
    obtain ⟨k, m, hk, hm0, hm1, rfl, rfl, rfl, H⟩ := hrel
    have hm2 : m < 65536 := by
      have : (16 : Int) ^ k ≤ 65536 := by
        match k, hk with
        | 0, _ => decide
        | 1, _ => decide
        | 2, _ => decide
        | 3, _ => decide
        | 4, _ => decide
      omega
    have HM := Lib.hid hm1
    clear hm1
    by_cases hlt : k < 4
    · have hI : (k : Int) < 4 := by omega
      have hr := hexAt_range s (i + k)
      have hst : fourF s (4 - k) m (i + k) = if hexAt s (i + k) < 0 then (-1, i + k) else fourF s (4 - (k + 1)) (m * 16 + hexAt s (i + k)) (i + k + 1) := by
        rw [show 4 - k = (4 - (k + 1)) + 1 from by omega]; rfl
      have HS := Lib.hid (H.out.trans hst)
      have HX := Lib.hid (hex5_any s (i + k) w (by omega))
      clear hst
      generalize hexAt s (i + k) = d at *
      by_cases hd : d < 0
      · have HE := Lib.hid (HS.out.trans (if_pos hd))
        go_wp2_with (go_at_call 73; refine HX.out.mono ?_; rintro e w' ⟨rfl, rfl⟩)
        go_ret2
        rw [HE.out]
        exact ⟨rfl, rfl⟩
      · have HE := Lib.hid (HS.out.trans (if_neg hd))
        go_wp2_with (go_at_call 73; refine HX.out.mono ?_; rintro e w' ⟨rfl, rfl⟩)
        go_round
        case rel =>
          refine ⟨k + 1, m * 16 + d, by omega, by omega, ?_, ?_, rfl, by go_num, Lib.hid ?_⟩
          · have := HM.out; rw [Int.pow_succ]; omega
          · exact congrArg (Value.int .i64) (by omega)
          · rw [HE.out, show i + ((k + 1 : Nat) : Int) = i + k + 1 from by omega]
        case measure => simp [intOf]; omega
    · obtain rfl : k = 4 := by omega
      go_wp2
      go_ret2
      rw [H.out]
      exact ⟨rfl, rfl⟩
end Go.Proofs.YtlnmjpacagimnaaDoor
