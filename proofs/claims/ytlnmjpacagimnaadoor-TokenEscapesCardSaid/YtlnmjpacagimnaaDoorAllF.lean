/- All tokens of a text, in plain words. -/
import Derived.Test.YtlnmjpacagimnaaDoorRefO
namespace Go.Proofs.YtlnmjpacagimnaaDoor
set_option linter.unusedVariables false
set_option linter.unusedSimpArgs false
open Go.RowKit

theorem textF_end (s : ByteArray) : ∀ (k : Nat) (i : Int) (acc : List Int), 0 ≤ i → (textF s k i acc).2.2 = 0 → i < (textF s k i acc).2.1 ∧ (textF s k i acc).2.1 ≤ s.size
  | 0, i, acc, _, h => by simp [textF] at h
  | k + 1, i, acc, h0, h => by
    unfold textF at h ⊢
    by_cases c1 : ¬ i < s.size ∨ bt s i < 32
    · rw [if_pos c1] at h; simp at h
    · rw [if_neg c1] at h ⊢
      by_cases c2 : bt s i = 34
      · rw [if_pos c2]; simp only; omega
      · rw [if_neg c2] at h ⊢
        by_cases c3 : bt s i = 92
        · rw [if_pos c3] at h ⊢
          by_cases c4 : (escape s i).2.2 = 0
          · rw [if_pos c4] at h ⊢
            have ho := escape_ok h0 c4 (by omega)
            have := textF_end s k _ _ (by omega) h
            omega
          · rw [if_neg c4] at h; exact absurd h c4
        · rw [if_neg c3] at h ⊢
          by_cases c4 : (first s i).2 = 0
          · rw [if_pos c4] at h; simp at h
          · rw [if_neg c4] at h ⊢
            have ho := first_range (s := s) (i := i)
            have := textF_end s k _ _ (by omega) h
            omega
theorem numberE_pos {s : ByteArray} {c : Int} {pl : Bool} (h0 : 0 ≤ c) (h1 : c ≤ s.size) : c ≤ (numberE s c pl).1 := (numberE_range h0 h1).1
theorem numberF_gt {s : ByteArray} {p : Int} (h0 : 0 ≤ p) (h1 : p ≤ s.size) (h : (numberF s p).2.2 = true) : p < (numberF s p).1 := by
  have ha : p ≤ signEnd s p ∧ signEnd s p ≤ s.size := by
    unfold signEnd; split
    · rename_i h; have := isAt_lt h; omega
    · omega
  unfold numberF at h ⊢
  split at h
  · rename_i hd
    rw [if_pos hd]
    have hy := digitsEnd_yes (by omega) hd
    have hdl := digitAt_lt hd
    have hb : signEnd s p + 1 ≤ wholeEnd s (signEnd s p) ∧ wholeEnd s (signEnd s p) ≤ s.size := by unfold wholeEnd; split <;> omega
    generalize wholeEnd s (signEnd s p) = b at *
    unfold numberD
    split
    · rename_i hdot
      have := isAt_lt hdot
      split
      · rename_i h2
        have h3 := digitsEnd_yes (by omega) h2
        have h4 := numberE_range (s := s) (c := digitsEnd s (b + 1)) (pl := false) (by omega) h3.2
        omega
      · simp only; omega
    · have h4 := numberE_range (s := s) (c := b) (pl := true) (by omega) hb.2
      omega
  · simp at h
theorem lit_inside (s : ByteArray) : ∀ (l : List Int) (p : Int), 0 ≤ p → p ≤ s.size → litF s p l < 0 → p + l.length ≤ s.size
  | [], p, _, h1, _ => by simpa using h1
  | c :: r, p, h0, h1, h => by
    unfold litF at h
    split at h
    · rename_i hc
      have hl := isAt_lt hc
      have := lit_inside s r (p + 1) (by omega) (by omega) h
      rw [List.length_cons]; omega
    · omega
theorem tokF_next {s : ByteArray} {q : Int} (h0 : 0 ≤ q) (h1 : q < s.size) (h : (tokF s q).2.2 = 0) : (tokF s q).1.kind ≠ 0 ∧ q < (tokF s q).1.stop ∧ (tokF s q).1.stop ≤ s.size ∧ (tokF s q).1.head = q := by
  have hw : ∀ l k, k ≠ 0 → l.length ≠ 0 → (wordOf s q l k).2.2 = 0 → (wordOf s q l k).1.kind ≠ 0 ∧ q < (wordOf s q l k).1.stop ∧ (wordOf s q l k).1.stop ≤ s.size ∧ (wordOf s q l k).1.head = q := by
    intro l k hk hl hz
    unfold wordOf at hz ⊢
    split at hz
    · rename_i hlt
      rw [if_pos hlt]
      have := lit_inside s l q h0 (by omega) hlt
      simp only
      exact ⟨hk, by omega, by omega, by trivial⟩
    · simp at hz
  unfold tokF at h ⊢
  split
  · unfold markF; simp only; exact ⟨by decide, by omega, by omega, by trivial⟩
  · rename_i c1
    rw [if_neg c1] at h
    split
    · rename_i c2
      rw [if_pos c2] at h
      unfold strF at h ⊢
      by_cases c : (textOf s q).2.2 = 0
      · rw [if_pos c]
        have := textF_end s _ (q + 1) [] (by omega) c
        simp only
        exact ⟨by decide, by show q < (textAt s (q + 1) []).2.1; unfold textAt; omega, by show (textAt s (q + 1) []).2.1 ≤ _; unfold textAt; omega, by trivial⟩
      · rw [if_neg c] at h; exact absurd h c
    · rename_i c2
      rw [if_neg c2] at h
      split
      · rename_i c3
        rw [if_pos c3] at h
        unfold numF at h ⊢
        by_cases d1 : (numberF s q).2.2 = false
        · rw [if_pos d1] at h; simp at h
        · rw [if_neg d1] at h ⊢
          by_cases d2 : (numberF s q).2.1 = false
          · rw [if_pos d2] at h; simp at h
          · rw [if_neg d2] at h ⊢
            by_cases d3 : fitsF (cutS s q (numberF s q).1) = true
            · rw [if_pos d3]
              have hr := numberF_range h0 (Int.le_of_lt h1)
              have hg := numberF_gt h0 (Int.le_of_lt h1) (by simpa using d1)
              simp only
              exact ⟨by decide, by omega, by omega, by trivial⟩
            · rw [if_neg d3] at h; simp at h
      · rename_i c3
        rw [if_neg c3] at h
        unfold wordF at h ⊢
        by_cases e1 : bt s q = 116
        · rw [if_pos e1] at h ⊢; exact hw _ _ (by decide) (by decide) h
        · rw [if_neg e1] at h ⊢
          by_cases e2 : bt s q = 102
          · rw [if_pos e2] at h ⊢; exact hw _ _ (by decide) (by decide) h
          · rw [if_neg e2] at h ⊢
            by_cases e3 : bt s q = 110
            · rw [if_pos e3] at h ⊢; exact hw _ _ (by decide) (by decide) h
            · rw [if_neg e3] at h; simp at h
theorem blanks_range {s : ByteArray} {i : Int} (h0 : 0 ≤ i) (h1 : i ≤ s.size) : i ≤ blanks s i ∧ blanks s i ≤ s.size := ⟨upTo_ge, upTo_le h0 h1⟩
/-- With no error: the token is the end's, and stands at the end; or it isn't, and something is passed over. -/
theorem next_step {s : ByteArray} {i : Int} (h0 : 0 ≤ i) (h1 : i ≤ s.size) (h : (nextF s i).2.2 = 0) :
    (nextF s i).1.head = blanks s i ∧ (((nextF s i).1.kind = 0 ∧ (nextF s i).1.stop = s.size ∧ blanks s i = s.size) ∨ ((nextF s i).1.kind ≠ 0 ∧ blanks s i < (nextF s i).1.stop ∧ (nextF s i).1.stop ≤ s.size)) := by
  have hb := blanks_range h0 h1
  unfold nextF at h ⊢
  split
  · rename_i hq
    rw [if_pos hq] at h
    have := tokF_next (by omega) hq h
    exact ⟨this.2.2.2, .inr ⟨this.1, this.2.1, this.2.2.1⟩⟩
  · rename_i hq
    simp only
    exact ⟨by trivial, .inl ⟨by trivial, by omega, by omega⟩⟩
/-- The tokens from a place on, behind those so far; the error's place; the error. -/
def allF (s : ByteArray) : Nat → Int → List Tk → List Tk × Int × Int
  | 0, _, _ => ([], 0, 0)
  | k + 1, i, acc =>
    if (nextF s i).2.2 ≠ 0 then ([], (nextF s i).2.1, (nextF s i).2.2)
    else if (nextF s i).1.kind = 0 then (acc ++ [(nextF s i).1], 0, 0)
    else allF s k (nextF s i).1.stop (acc ++ [(nextF s i).1])
def allAt (s : ByteArray) (i : Int) (acc : List Tk) : List Tk × Int × Int := allF s (s.size + 1 - i.toNat) i acc
theorem allF_more (s : ByteArray) : ∀ (k m : Nat) (i : Int) (acc : List Tk), 0 ≤ i → i ≤ s.size → s.size + 1 - i.toNat ≤ k → s.size + 1 - i.toNat ≤ m → allF s k i acc = allF s m i acc
  | 0, m, i, acc, h0, h1, hk, _ => by omega
  | k + 1, 0, i, acc, h0, h1, _, hm => by omega
  | k + 1, m + 1, i, acc, h0, h1, hk, hm => by
    unfold allF
    by_cases c1 : (nextF s i).2.2 ≠ 0
    · rw [if_pos c1, if_pos c1]
    · rw [if_neg c1, if_neg c1]
      by_cases c2 : (nextF s i).1.kind = 0
      · rw [if_pos c2, if_pos c2]
      · rw [if_neg c2, if_neg c2]
        have hs := next_step h0 h1 (by simpa using c1)
        have hb := blanks_range h0 h1
        exact allF_more s k m _ _ (by omega) (by omega) (by omega) (by omega)
theorem allAt_step {s : ByteArray} {i : Int} {acc : List Tk} (h0 : 0 ≤ i) (h1 : i ≤ s.size) : allAt s i acc =
    if (nextF s i).2.2 ≠ 0 then ([], (nextF s i).2.1, (nextF s i).2.2)
    else if (nextF s i).1.kind = 0 then (acc ++ [(nextF s i).1], 0, 0)
    else allAt s (nextF s i).1.stop (acc ++ [(nextF s i).1]) := by
  unfold allAt
  rw [show s.size + 1 - i.toNat = (s.size - i.toNat) + 1 from by omega]
  conv => lhs; unfold allF
  by_cases c1 : (nextF s i).2.2 ≠ 0
  · rw [if_pos c1, if_pos c1]
  · rw [if_neg c1, if_neg c1]
    by_cases c2 : (nextF s i).1.kind = 0
    · rw [if_pos c2, if_pos c2]
    · rw [if_neg c2, if_neg c2]
      have hs := next_step h0 h1 (by simpa using c1)
      have hb := blanks_range h0 h1
      exact allF_more s _ _ _ _ (by omega) (by omega) (by omega) (by omega)
def allOf (s : ByteArray) : List Tk × Int × Int := allAt s 0 []
/-- Tokens' cells, one behind the other. -/
def tksV (l : List Tk) : List Value := l.flatMap fun t => t.cells.toList
theorem tksV_len (l : List Tk) : (tksV l).length = l.length * 5 := by
  induction l with
  | nil => rfl
  | cons a r ih => simp only [tksV, List.flatMap_cons, List.length_append, List.length_cons] at *; rw [ih]; simp [Tk.cells]; omega
theorem tksV_snoc (l : List Tk) (t : Tk) : tksV l ++ t.cells.toList = tksV (l ++ [t]) := by simp [tksV]
theorem tksV_at : ∀ (l : List Tk) (j : Nat) (t : Tk), l[j]? = some t → ∀ k u, t.cells[k]? = some u → (tksV l)[j * 5 + k]? = some u
  | [], j, t, h, k, u, _ => by simp at h
  | a :: r, 0, t, h, k, u, hu => by
    simp at h; subst h
    have hk : k < 5 := by have := (Array.getElem?_eq_some_iff.1 hu).1; simpa [Tk.cells] using this
    simp only [tksV, List.flatMap_cons, Nat.zero_mul, Nat.zero_add]
    rw [List.getElem?_append_left (by simp [Tk.cells]; exact hk)]
    simpa using hu
  | a :: r, j + 1, t, h, k, u, hu => by
    have h2 : r[j]? = some t := by simpa using h
    have ih := tksV_at r j t h2 k u hu
    simp only [tksV, List.flatMap_cons]
    rw [List.getElem?_append_right (by simp [Tk.cells]; omega)]
    have e : (j + 1) * 5 + k - a.cells.toList.length = j * 5 + k := by simp [Tk.cells]; omega
    rw [e]; exact ih
end Go.Proofs.YtlnmjpacagimnaaDoor
