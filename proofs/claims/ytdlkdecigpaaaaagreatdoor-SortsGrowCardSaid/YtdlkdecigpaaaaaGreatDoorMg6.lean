/- Put together: The document's escape of layer 5; glyph.Decode: the point that bytes begin with; The lexer's escape. -/
import Derived.Test.YtdlkdecigpaaaaaGreatDoorMg4
import Derived.Test.YtdlkdecigpaaaaaGreatDoorMg5
namespace Go.Proofs.YtdlkdecigpaaaaaGreatDoor
set_option linter.unusedVariables false
set_option linter.unusedSimpArgs false
open Go.RowKit

def lettersS : ByteArray := ⟨#[34, 92, 47, 98, 102, 110, 114, 116]⟩
def pointsS : ByteArray := ⟨#[34, 92, 47, 8, 12, 10, 13, 9]⟩
theorem letters_bt : ∀ p : Nat, p < 8 → bt lettersS p = ([34, 92, 47, 98, 102, 110, 114, 116] : List Int).getD p 0 ∧ bt pointsS p = escV (bt lettersS p) ∧ 0 ≤ bt pointsS p ∧ bt pointsS p ≤ 92 := by decide +kernel
/-- No letter among the first so many. -/
def noneBefore (c : Int) (p : Nat) : Prop := ∀ q, q < p → bt lettersS q ≠ c
theorem esc_none {c : Int} (h : noneBefore c 8) : escV c = -1 := by
  have h0 := h 0 (by omega); have h1 := h 1 (by omega); have h2 := h 2 (by omega); have h3 := h 3 (by omega)
  have h4 := h 4 (by omega); have h5 := h 5 (by omega); have h6 := h 6 (by omega); have h7 := h 7 (by omega)
  rw [(letters_bt _ (by omega)).1] at h0 h1 h2 h3 h4 h5 h6 h7
  simp only [List.getD_cons_zero, List.getD_cons_succ] at h0 h1 h2 h3 h4 h5 h6 h7
  unfold escV
  rw [if_neg (Ne.symm h0), if_neg (Ne.symm h1), if_neg (Ne.symm h2), if_neg (Ne.symm h3), if_neg (Ne.symm h4), if_neg (Ne.symm h5), if_neg (Ne.symm h6), if_neg (Ne.symm h7)]
theorem esc_step {s : ByteArray} {i : Int} {p : Nat} (hp : p < 8) :
    (isAt s (i + 1) (bt lettersS p) = true → escAt s (i + 1) = bt pointsS p ∧ 0 ≤ bt pointsS p) ∧
    (isAt s (i + 1) (bt lettersS p) = false → (i + 1 < s.size → noneBefore (bt s (i + 1)) p) → (i + 1 < s.size → noneBefore (bt s (i + 1)) (p + 1))) := by
  obtain ⟨h1, h2, h3, h4⟩ := letters_bt p hp
  constructor
  · intro h
    simp only [isAt, Bool.and_eq_true, decide_eq_true_eq, beq_iff_eq] at h
    rw [escAt, if_pos h.1, h.2, h2]
    exact ⟨rfl, by rw [← h2]; exact h3⟩
  · intro h H hlt q hq
    by_cases e : q = p
    · subst e
      simp only [isAt, hlt, decide_true, Bool.true_and, beq_eq_false_iff_ne] at h
      exact fun x => h x.symm
    · exact H hlt q (by omega)
theorem esc_end {s : ByteArray} {i : Int} (H : i + 1 < s.size → noneBefore (bt s (i + 1)) 8) : escAt s (i + 1) = -1 := by
  unfold escAt
  split
  · rename_i h; exact esc_none (H h)
  · rfl
theorem escape_def (s : ByteArray) (i : Int) : escape s i =
  if 0 ≤ escAt s (i + 1) then (escAt s (i + 1), i + 2, 0)
  else if isAt s (i + 1) 117 = false then (0, i + 1, 1)
  else if (four s (i + 2)).1 < 0 then (0, (four s (i + 2)).2, 1)
  else if pointB (four s (i + 2)).1 then ((four s (i + 2)).1, (four s (i + 2)).2, 0)
  else if (four s (i + 2)).1 < 56320 ∧ isAt s (four s (i + 2)).2 92 = true ∧ isAt s ((four s (i + 2)).2 + 1) 117 = true ∧ 56320 ≤ (four s ((four s (i + 2)).2 + 2)).1 ∧ (four s ((four s (i + 2)).2 + 2)).1 ≤ 57343 then
    (65536 + ((four s (i + 2)).1 - 55296) * 1024 + (four s ((four s (i + 2)).2 + 2)).1 - 56320, (four s ((four s (i + 2)).2 + 2)).2, 0)
  else (0, i, 3) := rfl
set_option maxRecDepth 20000 in
set_option maxHeartbeats 4000000 in
theorem escape5_any (s : ByteArray) (i : Int) (w : World) (h0 : 0 ≤ i) (hs : s.size ≤ 4611686018427387904) (hi : i < s.size) :
    Calls Tryz.prog 144 #[.string s, .int .i64 i] w fun e w' => e = .returned (.tuple #[.int .i64 (escape s i).1, .int .i64 (escape s i).2.1, .int .i64 (escape s i).2.2]) ∧ w = w' := by
  have HE := Lib.hid (escape_def s i)
  generalize escape s i = r at *
  go_enter Tryz.func144, Tryz.ntmps144
  go_wp2
  go_loop [9] (fun t => ∃ p : Nat, p ≤ 8 ∧ t = .int .i64 p ∧ Hid (i + 1 < s.size → noneBefore (bt s (i + 1)) p)) (fun t => 8 - (intOf t).toNat)
  case atStart => exact ⟨0, by omega, rfl, Lib.hid (fun _ q hq => by omega)⟩
  case round =>
    obtain ⟨p, hp, rfl, H⟩ := hrel
    by_cases hlt : p < 8
    · have hs1 := bt_nat lettersS p
      have hs2 := bt_nat pointsS p
      unfold lettersS at hs1
      unfold pointsS at hs2
      have hI : (p : Int) < 8 := by omega
      have HT := Lib.hid (esc_step (s := s) (i := i) hlt)
      have hpr := (letters_bt p hlt).2.2
      have hc1 := is5_any s (i + 1) (bt lettersS p) w (by omega)
      unfold lettersS at hc1
      unfold pointsS at hpr
      generalize hq1 : bt ⟨#[34, 92, 47, 98, 102, 110, 114, 116]⟩ (p : Int) = q1 at *
      generalize hq2 : bt ⟨#[34, 92, 47, 8, 12, 10, 13, 9]⟩ (p : Int) = q2 at *
      have HT2 : Hid ((isAt s (i + 1) q1 = true → escAt s (i + 1) = q2 ∧ 0 ≤ q2) ∧ (isAt s (i + 1) q1 = false → (i + 1 < s.size → noneBefore (bt s (i + 1)) p) → (i + 1 < s.size → noneBefore (bt s (i + 1)) (p + 1)))) := by rw [← hq1, ← hq2]; exact HT
      clear HT hq1 hq2
      cases h1 : isAt s (i + 1) q1
      · rw [h1] at hc1
        have HC1 := Lib.hid hc1
        have HN := Lib.hid (HT2.out.2 h1 H.out)
        clear h1 hc1 HT2
        go_wp2_with fail
        refine HC1.out.mono ?_
        rintro e w' ⟨rfl, rfl⟩
        go_wp2_with fail
        go_round
        case rel => exact ⟨p + 1, by omega, by go_num, HN⟩
        case measure => simp [intOf]; omega
      · rw [h1] at hc1
        have HC1 := Lib.hid hc1
        have HN := Lib.hid (HT2.out.1 h1)
        clear h1 hc1 HT2
        go_wp2_with fail
        refine HC1.out.mono ?_
        rintro e w' ⟨rfl, rfl⟩
        go_wp2_with fail
        go_ret3
        rw [HE.out, if_pos (by rw [HN.out.1]; exact HN.out.2), HN.out.1]
        exact ⟨rfl, rfl⟩
    · obtain rfl : p = 8 := by omega
      have he := esc_end H.out
      have HE2 := Lib.hid (HE.out.trans (if_neg (by rw [he]; omega)))
      clear HE he H
      have hI : ¬ ((8 : Nat) : Int) < 8 := by omega
      rw [show ((8 : Nat) : Int) = 8 from rfl]
      clear hI
      have hc := is5_any s (i + 1) 117 w (by omega)
      have HF := Lib.hid (four5_any s (i + 2) w (by omega) (by omega))
      have hfr := four_range s (i + 2)
      cases h2 : isAt s (i + 1) 117
      · rw [h2] at hc
        have HC := Lib.hid hc
        have HR := Lib.hid (HE2.out.trans (if_pos h2))
        clear hc h2 HE2
        go_wp2_with (go_at_call 56; refine HC.out.mono ?_; rintro e w' ⟨rfl, rfl⟩)
        go_ret3
        rw [HR.out]
        exact ⟨rfl, rfl⟩
      · rw [h2] at hc
        have HC := Lib.hid hc
        have HE3 := Lib.hid (HE2.out.trans (if_neg (by rw [h2]; simp)))
        clear hc h2 HE2
        generalize four s (i + 2) = f at *
        obtain ⟨n, e1⟩ := f
        simp only at hfr HE3 HF
        obtain ⟨f1, f2, f3, f4⟩ := hfr
        by_cases c3 : n < 0
        · have HR := Lib.hid (HE3.out.trans (if_pos c3))
          go_wp2_with (first | (go_at_call 56; refine HC.out.mono ?_; rintro e w' ⟨rfl, rfl⟩) | (go_at_call 156; refine HF.out.mono ?_; rintro e w' ⟨rfl, rfl⟩))
          go_ret3
          rw [HR.out]
          exact ⟨rfl, rfl⟩
        · have HE4 := Lib.hid (HE3.out.trans (if_neg c3))
          have hri := ris_any n w
          cases c4 : pointB n
          · rw [c4] at hri
            have HI := Lib.hid hri
            have HE5 := Lib.hid (HE4.out.trans (if_neg (by rw [c4]; simp)))
            clear hri c4 HE4 HE3
            have hca := is5_any s e1 92 w (by omega)
            have hcb := is5_any s (e1 + 1) 117 w (by omega)
            have HG := Lib.hid (four5_any s (e1 + 2) w (by omega) (by omega))
            have hgr := four_range s (e1 + 2)
            generalize four s (e1 + 2) = f at *
            obtain ⟨low, e2⟩ := f
            simp only at hgr HE5 HG
            obtain ⟨g1, g2, g3, g4⟩ := hgr
            by_cases d1 : n < 56320
            · cases d2 : isAt s e1 92
              · rw [d2] at hca
                have HCA := Lib.hid hca
                have HR := Lib.hid (HE5.out.trans (if_neg (by rw [d2]; simp)))
                clear hca hcb d2 HE5
                go_wp2_with fail
                refine HC.out.mono ?_; rintro e w' ⟨rfl, rfl⟩
                go_wp2_with fail
                refine HF.out.mono ?_; rintro e w' ⟨rfl, rfl⟩
                go_wp2_with fail
                refine HI.out.mono ?_; rintro e w' ⟨rfl, rfl⟩
                go_wp2_with fail
                refine HCA.out.mono ?_; rintro e w' ⟨rfl, rfl⟩
                go_wp2_with fail
                go_ret3
                rw [HR.out]
                exact ⟨rfl, rfl⟩
              · rw [d2] at hca
                have HCA := Lib.hid hca
                cases d3 : isAt s (e1 + 1) 117
                · rw [d3] at hcb
                  have HCB := Lib.hid hcb
                  have HR := Lib.hid (HE5.out.trans (if_neg (by rw [d3]; simp)))
                  clear hca hcb d2 d3 HE5
                  go_wp2_with fail
                  refine HC.out.mono ?_; rintro e w' ⟨rfl, rfl⟩
                  go_wp2_with fail
                  refine HF.out.mono ?_; rintro e w' ⟨rfl, rfl⟩
                  go_wp2_with fail
                  refine HI.out.mono ?_; rintro e w' ⟨rfl, rfl⟩
                  go_wp2_with fail
                  refine HCA.out.mono ?_; rintro e w' ⟨rfl, rfl⟩
                  go_wp2_with fail
                  refine HCB.out.mono ?_; rintro e w' ⟨rfl, rfl⟩
                  go_wp2_with fail
                  go_ret3
                  rw [HR.out]
                  exact ⟨rfl, rfl⟩
                · rw [d3] at hcb
                  have HCB := Lib.hid hcb
                  by_cases d4 : 56320 ≤ low ∧ low ≤ 57343
                  · have HR := Lib.hid (HE5.out.trans (if_pos ⟨d1, d2, d3, d4.1, d4.2⟩))
                    obtain ⟨d5, d6⟩ := d4
                    clear hca hcb d2 d3 HE5
                    go_wp2_with fail
                    refine HC.out.mono ?_; rintro e w' ⟨rfl, rfl⟩
                    go_wp2_with fail
                    refine HF.out.mono ?_; rintro e w' ⟨rfl, rfl⟩
                    go_wp2_with fail
                    refine HI.out.mono ?_; rintro e w' ⟨rfl, rfl⟩
                    go_wp2_with fail
                    refine HCA.out.mono ?_; rintro e w' ⟨rfl, rfl⟩
                    go_wp2_with fail
                    refine HCB.out.mono ?_; rintro e w' ⟨rfl, rfl⟩
                    go_wp2_with fail
                    refine HG.out.mono ?_; rintro e w' ⟨rfl, rfl⟩
                    go_wp2_with fail
                    go_ret3
                    rw [HR.out]
                    exact ⟨rfl, rfl⟩
                  · have HR := Lib.hid (HE5.out.trans (if_neg (by rintro ⟨_, _, _, x, y⟩; exact d4 ⟨x, y⟩)))
                    clear hca hcb d2 d3 HE5
                    by_cases d5 : 56320 ≤ low
                    all_goals
                      go_wp2_with fail
                      refine HC.out.mono ?_; rintro e w' ⟨rfl, rfl⟩
                      go_wp2_with fail
                      refine HF.out.mono ?_; rintro e w' ⟨rfl, rfl⟩
                      go_wp2_with fail
                      refine HI.out.mono ?_; rintro e w' ⟨rfl, rfl⟩
                      go_wp2_with fail
                      refine HCA.out.mono ?_; rintro e w' ⟨rfl, rfl⟩
                      go_wp2_with fail
                      refine HCB.out.mono ?_; rintro e w' ⟨rfl, rfl⟩
                      go_wp2_with fail
                      refine HG.out.mono ?_; rintro e w' ⟨rfl, rfl⟩
                      have d6 : 56320 ≤ low → 57343 < low := by omega
                      go_wp2_with fail
                      all_goals
                        first
                        | (exfalso; omega)
                        | (go_ret3; rw [HR.out]; exact ⟨rfl, rfl⟩)
            · have HR := Lib.hid (HE5.out.trans (if_neg (by omega)))
              clear hca hcb HE5
              go_wp2_with fail
              refine HC.out.mono ?_; rintro e w' ⟨rfl, rfl⟩
              go_wp2_with fail
              refine HF.out.mono ?_; rintro e w' ⟨rfl, rfl⟩
              go_wp2_with fail
              refine HI.out.mono ?_; rintro e w' ⟨rfl, rfl⟩
              go_wp2_with fail
              go_ret3
              rw [HR.out]
              exact ⟨rfl, rfl⟩
          · rw [c4] at hri
            have HI := Lib.hid hri
            have HR := Lib.hid (HE4.out.trans (if_pos c4))
            clear hri c4 HE4 HE3
            go_wp2_with (first | (go_at_call 56; refine HC.out.mono ?_; rintro e w' ⟨rfl, rfl⟩) | (go_at_call 156; refine HF.out.mono ?_; rintro e w' ⟨rfl, rfl⟩) | (go_at_call 157; refine HI.out.mono ?_; rintro e w' ⟨rfl, rfl⟩))
            go_ret3
            rw [HR.out]
            exact ⟨rfl, rfl⟩
end Go.Proofs.YtdlkdecigpaaaaaGreatDoor
namespace Go.Proofs.YtdlkdecigpaaaaaGreatDoor
set_option linter.unusedVariables false
set_option linter.unusedSimpArgs false
open Go.RowKit

def isRep (s : ByteArray) : Bool := Lib.hasPrefix s.data.toList [239, 191, 189]
theorem bt_getD (s : ByteArray) (j : Nat) : bt s j = ((s.data.toList.getD j 0).toNat : Int) := by
  unfold bt
  simp only [Int.toNat_natCast]
  by_cases h : j < s.size
  · rw [dif_pos h]
    have : j < s.data.toList.length := by rw [Array.length_toList]; exact h
    rw [List.getD_eq_getElem?_getD, List.getElem?_eq_getElem this]
    simp
    rfl
  · rw [dif_neg h]
    have : s.data.toList.length ≤ j := by rw [Array.length_toList]; exact Nat.le_of_not_lt h
    rw [List.getD_eq_getElem?_getD, List.getElem?_eq_none this]
    rfl
theorem isRep_iff (s : ByteArray) : isRep s = decide (3 ≤ s.size ∧ bt s 0 = 239 ∧ bt s 1 = 191 ∧ bt s 2 = 189) := by
  have e0 := bt_getD s 0
  have e1 := bt_getD s 1
  have e2 := bt_getD s 2
  simp only [Int.natCast_zero, Int.natCast_one, show ((2 : Nat) : Int) = 2 from rfl] at e0 e1 e2
  rw [e0, e1, e2]
  have hs : s.size = s.data.toList.length := by rw [Array.length_toList]; rfl
  rw [hs, isRep, Lib.hasPrefix, Bool.eq_iff_iff]
  have hb : ∀ (x : UInt8) (k : Nat), k < 256 → ((x.toNat : Int) = k ↔ x = UInt8.ofNat k) := by
    intro x k hk
    constructor
    · intro h
      apply UInt8.toNat_inj.1
      have h2 : x.toNat = k := by omega
      rw [h2]; simp; omega
    · intro h; rw [h]; simp; omega
  match s.data.toList with
  | [] => simp
  | [_] => simp
  | [_, _] => simp
  | a :: b :: c :: r =>
    simp only [List.getD_cons_zero, List.getD_cons_succ, List.length_cons, decide_eq_true_eq]
    have ha := hb a 239 (by omega)
    have hbb := hb b 191 (by omega)
    have hc := hb c 189 (by omega)
    simp only [List.isPrefixOf_cons_cons, List.isPrefixOf_nil_left, Bool.and_true, Bool.and_eq_true, beq_iff_eq]
    have h239 : (a.toNat : Int) = 239 ↔ a = 239 := ha
    have h191 : (b.toNat : Int) = 191 ↔ b = 191 := hbb
    have h189 : (c.toNat : Int) = 189 ↔ c = 189 := hc
    rw [h239, h191, h189]
    constructor
    · rintro ⟨rfl, rfl, rfl⟩; exact ⟨by omega, rfl, rfl, rfl⟩
    · rintro ⟨_, rfl, rfl, rfl⟩; exact ⟨rfl, rfl, rfl⟩
/-- How many bytes the model's decoding says, where it is a point. -/
theorem decode_len (s : ByteArray) (h : 0 < s.size) (hn : (Utf8.decode s 0).1 ≠ 65533 ∨ isRep s = true) : Lib.runeLen ((Utf8.decode s 0).1 : Int) = ((Utf8.decode s 0).2 : Int) := by
  have q0 : (s.get! 0).toNat < 256 := (s.get! 0).toNat_lt
  have q1 : (s.get! 1).toNat < 256 := (s.get! 1).toNat_lt
  have q2 : (s.get! 2).toNat < 256 := (s.get! 2).toNat_lt
  have q3 : (s.get! 3).toNat < 256 := (s.get! 3).toNat_lt
  have b0 : ((s.get! 0).toNat : Int) = bt s 0 := get_bt s 0 h
  have b1 : 1 < s.size → ((s.get! 1).toNat : Int) = bt s 1 := get_bt s 1
  have b2 : 2 < s.size → ((s.get! 2).toNat : Int) = bt s 2 := get_bt s 2
  rw [isRep_iff, decide_eq_true_eq] at hn
  rw [decode_decN] at hn ⊢
  unfold Lib.runeLen
  rw [← b0] at hn
  generalize (s.get! 0).toNat = a at *
  generalize (s.get! 1).toNat = b at *
  generalize (s.get! 2).toNat = c at *
  generalize (s.get! 3).toNat = d at *
  generalize bt s 1 = x1 at *
  generalize bt s 2 = x2 at *
  generalize s.size = n at *
  unfold decN at *
  by_cases h1 : a < 128
  · rw [if_pos h1] at hn ⊢
    simp only at hn ⊢
    rw [if_neg (by omega), if_pos (by omega)]; rfl
  · rw [if_neg h1] at hn ⊢
    by_cases h2 : a / 32 = 6 ∧ (1 < n ∧ b / 64 = 2)
    · rw [if_pos h2] at hn ⊢
      by_cases g : 128 ≤ a % 32 * 64 + b % 64
      · rw [if_pos g] at hn ⊢
        simp only at hn ⊢
        rw [if_neg (by omega), if_neg (by omega), if_pos (by omega)]; rfl
      · rw [if_neg g] at hn; simp only at hn; omega
    · rw [if_neg h2] at hn ⊢
      by_cases h3 : a / 16 = 14 ∧ (1 < n ∧ b / 64 = 2) ∧ (2 < n ∧ c / 64 = 2)
      · rw [if_pos h3] at hn ⊢
        have e1 := b1 h3.2.1.1
        have e2 := b2 h3.2.2.1
        by_cases g : 2048 ≤ a % 16 * 4096 + b % 64 * 64 + c % 64 ∧ (a % 16 * 4096 + b % 64 * 64 + c % 64 < 55296 ∨ 57344 ≤ a % 16 * 4096 + b % 64 * 64 + c % 64)
        · rw [if_pos g] at hn ⊢
          simp only at hn ⊢
          rw [if_neg (by omega), if_neg (by omega), if_neg (by omega), if_neg (by omega), if_pos (by omega)]; rfl
        · rw [if_neg g] at hn; simp only at hn; omega
      · rw [if_neg h3] at hn ⊢
        by_cases h4 : a / 8 = 30 ∧ (1 < n ∧ b / 64 = 2) ∧ (2 < n ∧ c / 64 = 2) ∧ (3 < n ∧ d / 64 = 2)
        · rw [if_pos h4] at hn ⊢
          by_cases g : 65536 ≤ a % 8 * 262144 + b % 64 * 4096 + c % 64 * 64 + d % 64 ∧ a % 8 * 262144 + b % 64 * 4096 + c % 64 * 64 + d % 64 ≤ 1114111
          · rw [if_pos g] at hn ⊢
            simp only at hn ⊢
            rw [if_neg (by omega), if_neg (by omega), if_neg (by omega), if_neg (by omega), if_neg (by omega), if_pos (by omega)]; rfl
          · rw [if_neg g] at hn; simp only at hn; omega
        · rw [if_neg h4] at hn
          simp only at hn
          exfalso
          rcases hn with hn | hn
          · exact hn rfl
          · have e1 := b1 (by omega)
            have e2 := b2 (by omega)
            omega
theorem first_bad {s : ByteArray} (h : 0 < s.size) (h1 : (Utf8.decode s 0).1 = 65533) (h2 : isRep s = false) : first s 0 = (-1, 0) := by
  rw [decode_first s h, if_pos]
  rw [isRep_iff, decide_eq_false_iff_not] at h2
  exact ⟨h1, h2⟩
theorem first_good {s : ByteArray} (h : 0 < s.size) (hn : (Utf8.decode s 0).1 ≠ 65533 ∨ isRep s = true) : first s 0 = (((Utf8.decode s 0).1 : Int), Lib.runeLen ((Utf8.decode s 0).1 : Int)) := by
  rw [decode_len s h hn, decode_first s h, if_neg]
  rw [isRep_iff, decide_eq_true_eq] at hn
  rintro ⟨h1, h2⟩
  rcases hn with hn | hn
  · exact hn h1
  · exact h2 hn
theorem first_nil {s : ByteArray} (h : s.size = 0) : first s 0 = (-1, 0) := by
  unfold first; rw [ok1, ok2, ok3, ok4, h]; simp
theorem decode_lt (s : ByteArray) : (Utf8.decode s 0).1 ≤ 1114111 := by
  have q0 : (s.get! 0).toNat < 256 := (s.get! 0).toNat_lt
  rw [decode_decN]; unfold decN
  repeat' split
  all_goals simp only; omega

set_option maxRecDepth 20000 in
set_option maxHeartbeats 1000000 in
theorem dec_any (s : ByteArray) (w : World) : Calls Tryz.prog 204 #[.string s] w fun e w' => e = .returned (.tuple #[.int .i64 (first s 0).1, .int .i64 (first s 0).2]) ∧ Below w.heap.size w w' := by
  by_cases hz : s.size = 0
  · have HR := Lib.hid (first_nil hz)
    generalize first s 0 = r at *
    have hnx := fun ty => Lib.run_next_end_at (P := Tryz.prog) (w.iter s 0) w.heap.size s 0 ty (World.iter_heap w s 0) (by omega)
    clear hz
    go_enter Tryz.func204, Tryz.ntmps204
    go_wp2
    refine wp_loop_rounds 1 ?_
    rw [rounds_succ]
    go_wp2
    go_ret2
    rw [HR.out]
    exact ⟨rfl, bl_alloc (Below.refl _ _) _⟩
  · have hpos : 0 < s.size := by omega
    have hnx := fun ty => Lib.run_next_any_at (P := Tryz.prog) (w.iter s 0) w.heap.size s 0 ty (World.iter_heap w s 0) hpos
    have hlt := decode_lt s
    have hrl := Tryz.utf8_RuneLen (Utf8.decode s 0).1
    have hhp := Tryz.strings_HasPrefix s ⟨#[239, 191, 189]⟩
    have HK : Hid (Below w.heap.size w ((w.iter s 0).iterAt w.heap.size s ((Utf8.decode s 0).2))) := Lib.hid (Lib.below_iterAt (bl_alloc (Below.refl _ _) _) (Nat.le_refl _) s _)
    have Hg := Lib.hid (fun hn => first_good hpos hn)
    have Hb := Lib.hid (fun h1 h2 => first_bad hpos h1 h2)
    have hir : isRep s = Lib.hasPrefix s.data.toList [239, 191, 189] := rfl
    have HP := Lib.hid hhp
    have HL := Lib.hid hrl
    clear hhp hrl
    generalize hd : Utf8.decode s 0 = d at *
    obtain ⟨c, L⟩ := d
    clear hd
    simp only at hlt HL
    have hlt' : (c : Int) ≤ 1114111 := by omega
    have hc0 : 0 ≤ (c : Int) := by omega
    by_cases hc : c = 65533
    · have hce : ((c : Int) == 65533) = true := by subst hc; rfl
      cases hr : isRep s
      · have HR := Lib.hid (Hb.out hc hr)
        rw [hir] at hr
        have hp2 : ∀ w, Calls Tryz.prog 131 #[.string s, .string ⟨#[239, 191, 189]⟩] w fun e w' => e = .returned (.bool false) ∧ w' = w := by
          intro w; have := HP.out w; rw [show (⟨#[239, 191, 189]⟩ : ByteArray).data.toList = [239, 191, 189] from rfl, hr] at this; exact this
        have HP2 := Lib.hid hp2
        clear hp2 hir hr Hb Hg hc
        go_enter Tryz.func204, Tryz.ntmps204
        go_wp2
        refine wp_loop_rounds 1 ?_
        rw [rounds_succ]
        go_wp2_with (first | (go_at_call 214; refine (HL.out _).mono ?_; rintro e w' ⟨rfl, rfl⟩) | (go_at_call 131; refine (HP2.out _).mono ?_; rintro e w' ⟨rfl, rfl⟩))
        go_ret2
        rw [HR.out]
        exact ⟨rfl, HK.out⟩
      · have HR := Lib.hid (Hg.out (.inr hr))
        rw [hir] at hr
        have hp2 : ∀ w, Calls Tryz.prog 131 #[.string s, .string ⟨#[239, 191, 189]⟩] w fun e w' => e = .returned (.bool true) ∧ w' = w := by
          intro w; have := HP.out w; rw [show (⟨#[239, 191, 189]⟩ : ByteArray).data.toList = [239, 191, 189] from rfl, hr] at this; exact this
        have HP2 := Lib.hid hp2
        clear hp2 hir hr Hb Hg hc
        go_enter Tryz.func204, Tryz.ntmps204
        go_wp2
        refine wp_loop_rounds 1 ?_
        rw [rounds_succ]
        go_wp2_with (first | (go_at_call 214; refine (HL.out _).mono ?_; rintro e w' ⟨rfl, rfl⟩) | (go_at_call 131; refine (HP2.out _).mono ?_; rintro e w' ⟨rfl, rfl⟩))
        go_ret2
        rw [HR.out]
        exact ⟨rfl, HK.out⟩
    · have hce : ((c : Int) == 65533) = false := by simp; omega
      have HR := Lib.hid (Hg.out (.inl hc))
      clear Hb Hg hir hc
      go_enter Tryz.func204, Tryz.ntmps204
      go_wp2
      refine wp_loop_rounds 1 ?_
      rw [rounds_succ]
      go_wp2_with (first | (go_at_call 214; refine (HL.out _).mono ?_; rintro e w' ⟨rfl, rfl⟩))
      go_ret2
      rw [HR.out]
      exact ⟨rfl, HK.out⟩
end Go.Proofs.YtdlkdecigpaaaaaGreatDoor
namespace Go.Proofs.YtdlkdecigpaaaaaGreatDoor
set_option linter.unusedVariables false
set_option linter.unusedSimpArgs false
open Go.RowKit

theorem idx_poin (x : Int) (h0 : 0 ≤ x) (h7 : x ≤ 7) (w : World) : (Instr.index 9 (.string ⟨#[34, 92, 47, 8, 12, 10, 13, 9]⟩) (.int .i64 x)).run Tryz.prog w = .ok (.int .u8 (bt poinS x)) w := by
  have h : x = 0 ∨ x = 1 ∨ x = 2 ∨ x = 3 ∨ x = 4 ∨ x = 5 ∨ x = 6 ∨ x = 7 := by omega
  rw [run_index_string _ _ _ _ _ Tryz.underlying9]
  rcases h with h | h | h | h | h | h | h | h <;> subst h <;> rfl
set_option maxRecDepth 20000 in
set_option maxHeartbeats 4000000 in
theorem lesc_any (s : ByteArray) (i : Int) (g : Nat) (w : World) (hl : Lex s i g w) (h0 : 0 ≤ i) (h1 : i < s.size) (hs : s.size ≤ 1000000) :
    Calls Tryz.prog 202 #[.pointer (some ⟨g, 0, none⟩)] w fun e w' => e = .returned (.tuple #[.int .i64 (escape s i).1, .int .i64 (escape s i).2.2]) ∧ Lex s (escape s i).2.1 g w' ∧ Keeps [g] w w' := by
  have HL := Lib.hid hl
  have HR : Hid (escape s i = escape s i) := Lib.hid rfl
  obtain ⟨r, hr⟩ : ∃ r, r = escape s i := ⟨_, rfl⟩
  replace HR : Hid (r = escape s i) := Lib.hid hr
  rw [← hr]
  clear hr
  have hc := cell_blk hl
  have hf := frozen_blk hl
  clear hl
  have HL1 : Hid (Lex s (i + 1) g (w.setCell ⟨g, 1, none⟩ (.int .i64 (i + 1)))) := Lib.hid (lex_set HL.out)
  have HH := Lib.hid (fun b hb => has_k (t := lettS) (b := b) HL1.out (by omega) hb)
  have HK1 : Hid (Keeps [g] w (w.setCell ⟨g, 1, none⟩ (.int .i64 (i + 1)))) := Lib.hid ((Keeps.refl _ _).set (.inl (by simp)) _)
  by_cases c1 : 0 ≤ escAt s (i + 1)
  · have HRR : Hid (r = (escAt s (i + 1), i + 2, 0)) := Lib.hid (by rw [HR.out, escape, if_pos c1])
    have hjl := escAt_lt c1
    have hi1 : 0 ≤ i + 1 := by omega
    have hb := bt_at s (i + 1)
    have ht := byte_all (p := fun c => 0 ≤ escV c → bt poinS (Lib.indexByte lettS.data.toList c.toNat.toUInt8) = escV c ∧ 0 ≤ Lib.indexByte lettS.data.toList c.toNat.toUInt8 ∧ Lib.indexByte lettS.data.toList c.toNat.toUInt8 ≤ 7) (fun n hn => (lett_tab n hn).2) s (i + 1)
    have hxe : escAt s (i + 1) = escV (bt s (i + 1)) := by unfold escAt; rw [if_pos hjl]
    rw [← hxe] at ht
    obtain ⟨t1, t2, t3⟩ := ht c1
    have HHt := Lib.hid (HH.out true (by rw [has_lett]; simpa using c1))
    have HI := Lib.hid (fun w => Tryz.strings_IndexByte lettS (bt s (i + 1)) w)
    have hpb := idx_poin (Lib.indexByte lettS.data.toList (bt s (i + 1)).toNat.toUInt8) t2 t3
    have her := escAt_range s (i + 1)
    generalize Lib.indexByte lettS.data.toList (bt s (i + 1)).toNat.toUInt8 = x at *
    rw [t1] at hpb
    clear ht hxe t1 HH
    generalize escAt s (i + 1) = y at *
    go_enter Tryz.func202, Tryz.ntmps202
    go_wp2_with (go_at_call 194; refine HHt.out.mono ?_; rintro e w1 ⟨rfl, hl1, hk1⟩; have H1 := Lib.hid (And.intro hl1 hk1); clear hl1 hk1; have hc1 := cell_blk H1.out.1; have hf1 := frozen_blk H1.out.1)
    go_quiet ((go_at_call 75; exact Calls.quiet_of_same (HI.out _)))
    go_wp2
    go_ret2
    rw [HRR.out]
    refine ⟨rfl, ?_, ?_⟩
    · show Lex s (i + 2) g _
      rw [show i + 2 = i + 1 + 1 from by omega]
      exact lex_set (w := w1.drewN nq) H1.out.1
    · exact (keeps0 HK1.out H1.out.2).drewN _ |>.set (.inl (by simp)) _
  · have hHf := has_lett s (i + 1)
    rw [show decide (0 ≤ escAt s (i + 1)) = false from by simpa using c1] at hHf
    have HF := Lib.hid hHf
    have HU := Lib.hid (has_byte s (i + 1) 117)
    have HRa : Hid (r = if isAt s (i + 1) 117 = false then (0, i + 1, 1) else if (four s (i + 2)).1 < 0 then (0, (four s (i + 2)).2, 1)
      else if pointB (four s (i + 2)).1 then ((four s (i + 2)).1, (four s (i + 2)).2, 0)
      else if (four s (i + 2)).1 < 56320 ∧ isAt s (four s (i + 2)).2 92 = true ∧ isAt s ((four s (i + 2)).2 + 1) 117 = true ∧ 56320 ≤ (four s ((four s (i + 2)).2 + 2)).1 ∧ (four s ((four s (i + 2)).2 + 2)).1 ≤ 57343 then
        (65536 + ((four s (i + 2)).1 - 55296) * 1024 + (four s ((four s (i + 2)).2 + 2)).1 - 56320, (four s ((four s (i + 2)).2 + 2)).2, 0)
      else (0, i, 3)) := Lib.hid (by rw [HR.out]; conv => lhs; unfold escape; rw [if_neg c1])
    clear hHf c1 HH HR
    cases c2 : isAt s (i + 1) 117 with
    | false =>
      have HZ : Hid (r = (0, i + 1, 1)) := Lib.hid (by rw [HRa.out, if_pos c2])
      have HUf := Lib.hid (HU.out.trans c2)
      clear c2 HRa
      go_enter Tryz.func202, Tryz.ntmps202
      go_wp2_with fail; refine (has_k HL1.out (by omega) HF.out).mono ?_; rintro e w1 ⟨rfl, hl1, hk1⟩; have HX1 := Lib.hid (And.intro hl1 hk1); clear hl1 hk1; have hc1 := cell_blk HX1.out.1; have hf1 := frozen_blk HX1.out.1
      go_wp2_with fail; refine (one_kno HX1.out.1 (by omega) HUf.out).mono ?_; rintro e w2 ⟨rfl, hl2, hk2⟩; have HX2 := Lib.hid (And.intro hl2 hk2); clear hl2 hk2; have hc2 := cell_blk HX2.out.1; have hf2 := frozen_blk HX2.out.1
      go_wp2
      go_ret2
      rw [HZ.out]
      exact ⟨rfl, HX2.out.1, keeps0 (keeps0 HK1.out HX1.out.2) HX2.out.2⟩
    | true =>
      have HUt := Lib.hid (HU.out.trans c2)
      have HRb := Lib.hid (HRa.out.trans (if_neg (by rw [c2]; simp)))
      have hul := isAt_lt c2
      have hfr := four_range s (i + 2)
      have hfi := fourF_inside s 4 0 (i + 2) (by omega) (by omega)
      rw [show fourF s 4 0 (i + 2) = four s (i + 2) from rfl] at hfi
      have HFW : Hid (four s (i + 1 + 1) = four s (i + 2)) := Lib.hid (by rw [show i + 1 + 1 = i + 2 from by omega])
      obtain ⟨q, hq⟩ : ∃ q, q = four s (i + 2) := ⟨_, rfl⟩
      have HHX := Lib.hid (fun w (h : Lex s (i + 1 + 1) g w) => lhex_any s (i + 1 + 1) g w h (by omega) (by omega) hs)
      rw [HFW.out, ← hq] at HHX
      rw [← hq] at HRb hfr hfi
      have HQ := Lib.hid hq
      clear hq c2 HRa HU HFW
      obtain ⟨n, e2⟩ := q
      simp only at HRb hfr hfi HHX
      go_enter Tryz.func202, Tryz.ntmps202
      go_wp2_with fail; refine (has_k HL1.out (by omega) HF.out).mono ?_; rintro e w1 ⟨rfl, hl1, hk1⟩; have HX1 := Lib.hid (And.intro hl1 hk1); clear hl1 hk1; have hc1 := cell_blk HX1.out.1; have hf1 := frozen_blk HX1.out.1
      go_wp2_with fail; refine (one_kyes HX1.out.1 (by omega) hs HUt.out).mono ?_; rintro e w2 ⟨rfl, hl2, hk2⟩; have HX2 := Lib.hid (And.intro hl2 hk2); clear hl2 hk2; have hc2 := cell_blk HX2.out.1; have hf2 := frozen_blk HX2.out.1
      have HK2 := Lib.hid (keepsg (keeps0 HK1.out HX1.out.2) HX2.out.2 (by simp))
      have HH3 := Lib.hid (HHX.out _ HX2.out.1)
      clear HHX HL1 HK1 HUt
      by_cases c3 : n < 0
      · have HZ : Hid (r = (0, e2, 1)) := Lib.hid (by rw [HRb.out, if_pos c3])
        have hc3 : decide (0 ≤ n) = false := by simp; omega
        rw [hc3] at HH3
        go_wp2_with fail
        refine HH3.out.mono ?_
        rintro e w3 ⟨rfl, hl3, hk3⟩
        have HX3 := Lib.hid (And.intro hl3 hk3)
        clear hl3 hk3 HH3 hc3
        go_wp2
        go_ret2
        rw [HZ.out]
        exact ⟨rfl, HX3.out.1, keepsg HK2.out HX3.out.2 (by simp)⟩
      · have hc3 : decide (0 ≤ n) = true := by simp; omega
        have hc3b : (if 0 ≤ n then n else 0) = n := if_pos (by omega)
        rw [hc3, hc3b] at HH3
        have HRc := Lib.hid (HRb.out.trans (if_neg c3))
        clear HRb hc3 hc3b
        go_wp2_with fail
        refine HH3.out.mono ?_
        rintro e w3 ⟨rfl, hl3, hk3⟩
        have HX3 := Lib.hid (And.intro hl3 hk3)
        have HK3 := Lib.hid (keepsg HK2.out hk3 (by simp))
        have hc3' := cell_blk hl3
        have hf3' := frozen_blk hl3
        clear hl3 hk3 HH3
        cases c4 : pointB n with
        | true =>
          have HZ : Hid (r = (n, e2, 0)) := Lib.hid (by rw [HRc.out, if_pos c4])
          have HG := Lib.hid (fun w => (c4 ▸ gis_any n w : Calls Tryz.prog 212 #[.int .i64 n] w fun e w' => e = .returned (.bool true) ∧ w = w'))
          clear HRc c4
          go_wp2_with (go_at_call 212; refine (HG.out _).mono ?_; rintro e w' ⟨rfl, rfl⟩)
          go_ret2
          rw [HZ.out]
          exact ⟨rfl, HX3.out.1, HK3.out⟩
        | false =>
          have HRd := Lib.hid (HRc.out.trans (if_neg (by rw [c4]; simp)))
          have HG := Lib.hid (fun w => (c4 ▸ gis_any n w : Calls Tryz.prog 212 #[.int .i64 n] w fun e w' => e = .returned (.bool false) ∧ w = w'))
          have hn : 55296 ≤ n ∧ n ≤ 57343 := by simp only [pointB, decide_eq_false_iff_not] at c4; omega
          clear HRc c4
          have HB := Lib.hid (has_byte s e2 92)
          have HU2 := Lib.hid (has_byte s (e2 + 1) 117)
          cases c5 : isAt s e2 92 with
          | false =>
            have HZ : Hid (r = (0, i, 3)) := Lib.hid (by rw [HRd.out, if_neg (by rw [c5]; simp)])
            have HBf := Lib.hid (HB.out.trans c5)
            clear HRd c5
            go_wp2_with (go_at_call 212; refine (HG.out _).mono ?_; rintro e w' ⟨rfl, rfl⟩)
            refine (one_kno HX3.out.1 (by omega) HBf.out).mono ?_
            rintro e w4 ⟨rfl, hl4, hk4⟩
            have HX4 := Lib.hid (And.intro hl4 (keeps0 HK3.out hk4))
            have hc4 := cell_blk hl4
            have hf4 := frozen_blk hl4
            clear hl4 hk4
            go_wp2
            go_ret2
            rw [HZ.out]
            exact ⟨rfl, lex_set HX4.out.1, HX4.out.2.set (.inl (by simp)) _⟩
          | true =>
            have HBt := Lib.hid (HB.out.trans c5)
            have hbl := isAt_lt c5
            go_wp2_with (go_at_call 212; refine (HG.out _).mono ?_; rintro e w' ⟨rfl, rfl⟩)
            refine (one_kyes HX3.out.1 (by omega) hs HBt.out).mono ?_
            rintro e w4 ⟨rfl, hl4, hk4⟩
            have HX4 := Lib.hid (And.intro hl4 (keepsg HK3.out hk4 (by simp)))
            have hc4 := cell_blk hl4
            have hf4 := frozen_blk hl4
            clear hl4 hk4
            cases c6 : isAt s (e2 + 1) 117 with
            | false =>
              have HZ : Hid (r = (0, i, 3)) := Lib.hid (by rw [HRd.out, if_neg (by rw [c6]; simp)])
              have HUf := Lib.hid (HU2.out.trans c6)
              clear HRd c5 c6
              go_wp2_with fail
              refine (one_kno HX4.out.1 (by omega) HUf.out).mono ?_
              rintro e w5 ⟨rfl, hl5, hk5⟩
              have HX5 := Lib.hid (And.intro hl5 (keeps0 HX4.out.2 hk5))
              have hc5 := cell_blk hl5
              have hf5 := frozen_blk hl5
              clear hl5 hk5
              go_wp2
              go_ret2
              rw [HZ.out]
              exact ⟨rfl, lex_set HX5.out.1, HX5.out.2.set (.inl (by simp)) _⟩
            | true =>
              have HUt2 := Lib.hid (HU2.out.trans c6)
              have hul2 := isAt_lt c6
              have HRe : Hid (r = if 56320 ≤ (four s (e2 + 2)).1 ∧ (four s (e2 + 2)).1 ≤ 57343 ∧ n < 56320 then (65536 + (n - 55296) * 1024 + (four s (e2 + 2)).1 - 56320, (four s (e2 + 2)).2, 0) else (0, i, 3)) := Lib.hid (by
                rw [HRd.out]
                by_cases hh : 56320 ≤ (four s (e2 + 2)).1 ∧ (four s (e2 + 2)).1 ≤ 57343 ∧ n < 56320
                · rw [if_pos ⟨hh.2.2, c5, c6, hh.1, hh.2.1⟩, if_pos hh]
                · rw [if_neg hh, if_neg (fun h => hh ⟨h.2.2.2.1, h.2.2.2.2, h.1⟩)])
              have gfr := four_range s (e2 + 2)
              have gfi := fourF_inside s 4 0 (e2 + 2) (by omega) (by omega)
              rw [show fourF s 4 0 (e2 + 2) = four s (e2 + 2) from rfl] at gfi
              have GFW : Hid (four s (e2 + 1 + 1) = four s (e2 + 2)) := Lib.hid (by rw [show e2 + 1 + 1 = e2 + 2 from by omega])
              obtain ⟨q2, hq2⟩ : ∃ q, q = four s (e2 + 2) := ⟨_, rfl⟩
              have GHX := Lib.hid (fun w (h : Lex s (e2 + 1 + 1) g w) => lhex_any s (e2 + 1 + 1) g w h (by omega) (by omega) hs)
              rw [GFW.out, ← hq2] at GHX
              rw [← hq2] at HRe gfr gfi
              clear hq2 c5 c6 HRd HU2 GFW
              obtain ⟨lo, e3⟩ := q2
              simp only at HRe gfr gfi GHX
              go_wp2_with fail
              refine (one_kyes HX4.out.1 (by omega) hs HUt2.out).mono ?_
              rintro e w5 ⟨rfl, hl5, hk5⟩
              have HX5 := Lib.hid (And.intro hl5 (keepsg HX4.out.2 hk5 (by simp)))
              clear hl5 hk5
              have HH6 := Lib.hid (GHX.out _ HX5.out.1)
              clear GHX
              by_cases d3 : lo < 0
              · have HZ : Hid (r = (0, i, 3)) := Lib.hid (by rw [HRe.out, if_neg (by omega)])
                have hd3 : decide (0 ≤ lo) = false := by simp; omega
                rw [hd3] at HH6
                clear HRe
                go_wp2_with fail
                refine HH6.out.mono ?_
                rintro e w6 ⟨rfl, hl6, hk6⟩
                have HX6 := Lib.hid (And.intro hl6 (keepsg HX5.out.2 hk6 (by simp)))
                have hc6 := cell_blk hl6
                have hf6 := frozen_blk hl6
                clear hl6 hk6 HH6 hd3
                go_wp2
                go_ret2
                rw [HZ.out]
                exact ⟨rfl, lex_set HX6.out.1, HX6.out.2.set (.inl (by simp)) _⟩
              · have hd3 : decide (0 ≤ lo) = true := by simp; omega
                have hd3b : (if 0 ≤ lo then lo else 0) = lo := if_pos (by omega)
                rw [hd3, hd3b] at HH6
                clear hd3 hd3b
                go_wp2_with fail
                refine HH6.out.mono ?_
                rintro e w6 ⟨rfl, hl6, hk6⟩
                have HX6 := Lib.hid (And.intro hl6 (keepsg HX5.out.2 hk6 (by simp)))
                have hc6 := cell_blk hl6
                have hf6 := frozen_blk hl6
                clear hl6 hk6 HH6
                by_cases d4 : 56320 ≤ lo ∧ lo ≤ 57343 ∧ n < 56320
                · have HZ : Hid (r = (65536 + (n - 55296) * 1024 + lo - 56320, e3, 0)) := Lib.hid (by rw [HRe.out, if_pos d4])
                  have hpv : pairV n lo = 65536 + (n - 55296) * 1024 + lo - 56320 := by unfold pairV; rw [if_pos (by omega)]
                  have HP := Lib.hid (fun w => pair_any n lo w)
                  rw [hpv] at HP
                  obtain ⟨v, hv⟩ : ∃ v, v = 65536 + (n - 55296) * 1024 + lo - 56320 := ⟨_, rfl⟩
                  have hv0 : 0 ≤ v := by omega
                  rw [← hv] at HP HZ
                  clear HRe d4 hpv hv
                  go_wp2_with (go_at_call 213; refine (HP.out _).mono ?_; rintro e w' ⟨rfl, rfl⟩)
                  go_ret2
                  rw [HZ.out]
                  exact ⟨rfl, HX6.out.1, HX6.out.2⟩
                · have HZ : Hid (r = (0, i, 3)) := Lib.hid (by rw [HRe.out, if_neg d4])
                  have hpv : pairV n lo = -1 := by unfold pairV; rw [if_neg (by omega)]
                  have HP := Lib.hid (fun w => pair_any n lo w)
                  rw [hpv] at HP
                  clear HRe d4 hpv
                  go_wp2_with (go_at_call 213; refine (HP.out _).mono ?_; rintro e w' ⟨rfl, rfl⟩)
                  go_ret2
                  rw [HZ.out]
                  exact ⟨rfl, lex_set HX6.out.1, HX6.out.2.set (.inl (by simp)) _⟩
end Go.Proofs.YtdlkdecigpaaaaaGreatDoor
