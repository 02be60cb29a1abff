/- A Str's points, in plain words. -/
import Derived.Test.YtlnmjpacagimnaaDoorTok
namespace Go.Proofs.YtlnmjpacagimnaaDoor
set_option linter.unusedVariables false
set_option linter.unusedSimpArgs false
open Go.RowKit

theorem first_range {s : ByteArray} {i : Int} : (first s i).2 = 0 ∧ (first s i).1 = -1 ∨ (1 ≤ (first s i).2 ∧ (first s i).2 ≤ 4 ∧ i + (first s i).2 ≤ s.size ∧ pointB (first s i).1 = true) := by
  have ho : ∀ k : Nat, okAt s i k = true → i + k ≤ s.size ∧ pointB (cand s i k) = true := by
    intro k h
    simp only [okAt, Bool.and_eq_true, decide_eq_true_eq] at h
    exact ⟨h.1, h.2.1⟩
  unfold first
  split
  · rename_i h; have := ho 1 h; exact .inr ⟨by simp, by simp, by simpa using this.1, this.2⟩
  · split
    · rename_i h; have := ho 2 h; exact .inr ⟨by simp, by simp, by simpa using this.1, this.2⟩
    · split
      · rename_i h; have := ho 3 h; exact .inr ⟨by simp, by simp, by simpa using this.1, this.2⟩
      · split
        · rename_i h; have := ho 4 h; exact .inr ⟨by simp, by simp, by simpa using this.1, this.2⟩
        · exact .inl ⟨rfl, rfl⟩
theorem pointB_small {n : Int} (h : 0 ≤ n) (k : n < 55296) : pointB n = true := by simp [pointB]; omega
theorem escape_ok {s : ByteArray} {i : Int} (h0 : 0 ≤ i) (h : (escape s i).2.2 = 0) (hi : i < s.size) : i + 2 ≤ (escape s i).2.1 ∧ (escape s i).2.1 ≤ s.size ∧ pointB (escape s i).1 = true := by
  unfold escape at h ⊢
  have e := escAt_range s (i + 1)
  have f := four_range s (i + 2)
  have g := four_range s ((four s (i + 2)).2 + 2)
  by_cases c1 : 0 ≤ escAt s (i + 1)
  · have := escAt_lt c1
    simp only [if_pos c1] at h ⊢
    exact ⟨by omega, by omega, pointB_small c1 (by omega)⟩
  · simp only [if_neg c1] at h ⊢
    by_cases c2 : isAt s (i + 1) 117 = false
    · simp [if_pos c2] at h
    · simp only [if_neg c2] at h ⊢
      have hu := isAt_lt (s := s) (i := i + 1) (c := 117) (by simpa using c2)
      have hin := fourF_inside s 4 0 (i + 2) (by omega) (by omega)
      by_cases c3 : (four s (i + 2)).1 < 0
      · simp [if_pos c3] at h
      · simp only [if_neg c3] at h ⊢
        by_cases c4 : pointB (four s (i + 2)).1 = true
        · simp only [if_pos c4] at h ⊢
          exact ⟨by omega, hin, c4⟩
        · simp only [if_neg c4] at h ⊢
          by_cases c5 : (four s (i + 2)).1 < 56320 ∧ isAt s (four s (i + 2)).2 92 = true ∧ isAt s ((four s (i + 2)).2 + 1) 117 = true ∧ 56320 ≤ (four s ((four s (i + 2)).2 + 2)).1 ∧ (four s ((four s (i + 2)).2 + 2)).1 ≤ 57343
          · simp only [if_pos c5] at h ⊢
            have hu2 := isAt_lt c5.2.2.1
            have hin2 := fourF_inside s 4 0 ((four s (i + 2)).2 + 2) (by omega) (by omega)
            refine ⟨by omega, hin2, ?_⟩
            simp [pointB] at c4 ⊢; omega
          · simp [if_neg c5] at h
theorem escape_place {s : ByteArray} {i : Int} (h0 : 0 ≤ i) (hi : i < s.size) : i ≤ (escape s i).2.1 ∧ (escape s i).2.1 ≤ i + 12 := by
  unfold escape
  have f := four_range s (i + 2)
  have g := four_range s ((four s (i + 2)).2 + 2)
  repeat' split
  all_goals simp only; omega
/-- The points of a Str from a place behind its head on, the place behind it, or the error's; the error. -/
def textF (s : ByteArray) : Nat → Int → List Int → List Int × Int × Int
  | 0, i, _ => ([], i, 1)
  | k + 1, i, acc =>
    if ¬ i < s.size ∨ bt s i < 32 then ([], i, 1)
    else if bt s i = 34 then (acc, i + 1, 0)
    else if bt s i = 92 then (if (escape s i).2.2 = 0 then textF s k (escape s i).2.1 (acc ++ [(escape s i).1]) else ([], (escape s i).2.1, (escape s i).2.2))
    else if (first s i).2 = 0 then ([], i, 2)
    else textF s k (i + (first s i).2) (acc ++ [(first s i).1])
def textAt (s : ByteArray) (i : Int) (acc : List Int) : List Int × Int × Int := textF s (s.size + 1 - i.toNat) i acc
theorem textF_more (s : ByteArray) : ∀ (k m : Nat) (i : Int) (acc : List Int), 0 ≤ i → s.size + 1 - i.toNat ≤ k → s.size + 1 - i.toNat ≤ m → textF s k i acc = textF s m i acc
  | 0, m, i, acc, h0, hk, _ => by
    have hi : ¬ i < s.size := by omega
    cases m with
    | zero => rfl
    | succ m => simp [textF, hi]
  | k + 1, 0, i, acc, h0, _, hm => by
    have hi : ¬ i < s.size := by omega
    simp [textF, hi]
  | k + 1, m + 1, i, acc, h0, hk, hm => by
    unfold textF
    by_cases c1 : ¬ i < s.size ∨ bt s i < 32
    · rw [if_pos c1, if_pos c1]
    · rw [if_neg c1, if_neg c1]
      by_cases c2 : bt s i = 34
      · rw [if_pos c2, if_pos c2]
      · rw [if_neg c2, if_neg c2]
        by_cases c3 : bt s i = 92
        · rw [if_pos c3, if_pos c3]
          by_cases c4 : (escape s i).2.2 = 0
          · rw [if_pos c4, if_pos c4]
            have := escape_ok h0 c4 (by omega)
            exact textF_more s k m _ _ (by omega) (by omega) (by omega)
          · rw [if_neg c4, if_neg c4]
        · rw [if_neg c3, if_neg c3]
          by_cases c4 : (first s i).2 = 0
          · rw [if_pos c4, if_pos c4]
          · rw [if_neg c4, if_neg c4]
            have := first_range (s := s) (i := i)
            exact textF_more s k m _ _ (by omega) (by omega) (by omega)
theorem textAt_step {s : ByteArray} {i : Int} {acc : List Int} (h0 : 0 ≤ i) : textAt s i acc =
    if ¬ i < s.size ∨ bt s i < 32 then ([], i, 1)
    else if bt s i = 34 then (acc, i + 1, 0)
    else if bt s i = 92 then (if (escape s i).2.2 = 0 then textAt s (escape s i).2.1 (acc ++ [(escape s i).1]) else ([], (escape s i).2.1, (escape s i).2.2))
    else if (first s i).2 = 0 then ([], i, 2)
    else textAt s (i + (first s i).2) (acc ++ [(first s i).1]) := by
  have h := textF_more s (s.size + 1 - i.toNat) (s.size + 1 - i.toNat + 1) i acc h0 (by omega) (by omega)
  unfold textAt
  rw [h]
  conv => lhs; unfold textF
  by_cases c1 : ¬ i < s.size ∨ bt s i < 32
  · rw [if_pos c1, if_pos c1]
  · rw [if_neg c1, if_neg c1]
    by_cases c2 : bt s i = 34
    · rw [if_pos c2, if_pos c2]
    · rw [if_neg c2, if_neg c2]
      by_cases c3 : bt s i = 92
      · rw [if_pos c3, if_pos c3]
        by_cases c4 : (escape s i).2.2 = 0
        · rw [if_pos c4, if_pos c4]
          have := escape_ok h0 c4 (by omega)
          exact textF_more s _ _ _ _ (by omega) (by omega) (by omega)
        · rw [if_neg c4, if_neg c4]
      · rw [if_neg c3, if_neg c3]
        by_cases c4 : (first s i).2 = 0
        · rw [if_pos c4, if_pos c4]
        · rw [if_neg c4, if_neg c4]
          have := first_range (s := s) (i := i)
          exact textF_more s _ _ _ _ (by omega) (by omega) (by omega)
end Go.Proofs.YtlnmjpacagimnaaDoor
