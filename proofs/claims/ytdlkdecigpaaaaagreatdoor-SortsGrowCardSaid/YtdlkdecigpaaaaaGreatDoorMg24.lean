/- Put together: All tokens of a text, in plain words; A text's expressions: what is found stands behind; there is always an answer. Plain words. -/
import Derived.Test.YtdlkdecigpaaaaaGreatDoorMg23
import Derived.Test.YtdlkdecigpaaaaaGreatDoorMg18
namespace Go.Proofs.YtdlkdecigpaaaaaGreatDoor
set_option linter.unusedVariables false
set_option linter.unusedSimpArgs false
open Go.RowKit

theorem textF_end (s : ByteArray) : ∀ (k : Nat) (i : Int) (acc : List Int), 0 ≤ i → (textF s k i acc).2.2 = 0 → i < (textF s k i acc).2.1 ∧ (textF s k i acc).2.1 ≤ s.size
  | 0, i, acc, _, h => by simp [textF] at h
  | k + 1, i, acc, h0, h => by
    unfold textF at h ⊢
    by_cases c1 : ¬ i < s.size ∨ bt s i < 32
    · rw [if_pos c1] at h; simp at h
    · rw [if_neg c1] at h ⊢
      by_cases c2 : bt s i = 34
      · rw [if_pos c2]; simp only; omega
      · rw [if_neg c2] at h ⊢
        by_cases c3 : bt s i = 92
        · rw [if_pos c3] at h ⊢
          by_cases c4 : (escape s i).2.2 = 0
          · rw [if_pos c4] at h ⊢
            have ho := escape_ok h0 c4 (by omega)
            have := textF_end s k _ _ (by omega) h
            omega
          · rw [if_neg c4] at h; exact absurd h c4
        · rw [if_neg c3] at h ⊢
          by_cases c4 : (first s i).2 = 0
          · rw [if_pos c4] at h; simp at h
          · rw [if_neg c4] at h ⊢
            have ho := first_range (s := s) (i := i)
            have := textF_end s k _ _ (by omega) h
            omega
theorem numberE_pos {s : ByteArray} {c : Int} {pl : Bool} (h0 : 0 ≤ c) (h1 : c ≤ s.size) : c ≤ (numberE s c pl).1 := (numberE_range h0 h1).1
theorem numberF_gt {s : ByteArray} {p : Int} (h0 : 0 ≤ p) (h1 : p ≤ s.size) (h : (numberF s p).2.2 = true) : p < (numberF s p).1 := by
  have ha : p ≤ signEnd s p ∧ signEnd s p ≤ s.size := by
    unfold signEnd; split
    · rename_i h; have := isAt_lt h; omega
    · omega
  unfold numberF at h ⊢
  split at h
  · rename_i hd
    rw [if_pos hd]
    have hy := digitsEnd_yes (by omega) hd
    have hdl := digitAt_lt hd
    have hb : signEnd s p + 1 ≤ wholeEnd s (signEnd s p) ∧ wholeEnd s (signEnd s p) ≤ s.size := by unfold wholeEnd; split <;> omega
    generalize wholeEnd s (signEnd s p) = b at *
    unfold numberD
    split
    · rename_i hdot
      have := isAt_lt hdot
      split
      · rename_i h2
        have h3 := digitsEnd_yes (by omega) h2
        have h4 := numberE_range (s := s) (c := digitsEnd s (b + 1)) (pl := false) (by omega) h3.2
        omega
      · simp only; omega
    · have h4 := numberE_range (s := s) (c := b) (pl := true) (by omega) hb.2
      omega
  · simp at h
theorem lit_inside (s : ByteArray) : ∀ (l : List Int) (p : Int), 0 ≤ p → p ≤ s.size → litF s p l < 0 → p + l.length ≤ s.size
  | [], p, _, h1, _ => by simpa using h1
  | c :: r, p, h0, h1, h => by
    unfold litF at h
    split at h
    · rename_i hc
      have hl := isAt_lt hc
      have := lit_inside s r (p + 1) (by omega) (by omega) h
      rw [List.length_cons]; omega
    · omega
theorem tokF_next {s : ByteArray} {q : Int} (h0 : 0 ≤ q) (h1 : q < s.size) (h : (tokF s q).2.2 = 0) : (tokF s q).1.kind ≠ 0 ∧ q < (tokF s q).1.stop ∧ (tokF s q).1.stop ≤ s.size ∧ (tokF s q).1.head = q := by
  have hw : ∀ l k, k ≠ 0 → l.length ≠ 0 → (wordOf s q l k).2.2 = 0 → (wordOf s q l k).1.kind ≠ 0 ∧ q < (wordOf s q l k).1.stop ∧ (wordOf s q l k).1.stop ≤ s.size ∧ (wordOf s q l k).1.head = q := by
    intro l k hk hl hz
    unfold wordOf at hz ⊢
    split at hz
    · rename_i hlt
      rw [if_pos hlt]
      have := lit_inside s l q h0 (by omega) hlt
      simp only
      exact ⟨hk, by omega, by omega, by trivial⟩
    · simp at hz
  unfold tokF at h ⊢
  split
  · unfold markF; simp only; exact ⟨by decide, by omega, by omega, by trivial⟩
  · rename_i c1
    rw [if_neg c1] at h
    split
    · rename_i c2
      rw [if_pos c2] at h
      unfold strF at h ⊢
      by_cases c : (textOf s q).2.2 = 0
      · rw [if_pos c]
        have := textF_end s _ (q + 1) [] (by omega) c
        simp only
        exact ⟨by decide, by show q < (textAt s (q + 1) []).2.1; unfold textAt; omega, by show (textAt s (q + 1) []).2.1 ≤ _; unfold textAt; omega, by trivial⟩
      · rw [if_neg c] at h; exact absurd h c
    · rename_i c2
      rw [if_neg c2] at h
      split
      · rename_i c3
        rw [if_pos c3] at h
        unfold numF at h ⊢
        by_cases d1 : (numberF s q).2.2 = false
        · rw [if_pos d1] at h; simp at h
        · rw [if_neg d1] at h ⊢
          by_cases d2 : (numberF s q).2.1 = false
          · rw [if_pos d2] at h; simp at h
          · rw [if_neg d2] at h ⊢
            by_cases d3 : fitsF (cutS s q (numberF s q).1) = true
            · rw [if_pos d3]
              have hr := numberF_range h0 (Int.le_of_lt h1)
              have hg := numberF_gt h0 (Int.le_of_lt h1) (by simpa using d1)
              simp only
              exact ⟨by decide, by omega, by omega, by trivial⟩
            · rw [if_neg d3] at h; simp at h
      · rename_i c3
        rw [if_neg c3] at h
        unfold wordF at h ⊢
        by_cases e1 : bt s q = 116
        · rw [if_pos e1] at h ⊢; exact hw _ _ (by decide) (by decide) h
        · rw [if_neg e1] at h ⊢
          by_cases e2 : bt s q = 102
          · rw [if_pos e2] at h ⊢; exact hw _ _ (by decide) (by decide) h
          · rw [if_neg e2] at h ⊢
            by_cases e3 : bt s q = 110
            · rw [if_pos e3] at h ⊢; exact hw _ _ (by decide) (by decide) h
            · rw [if_neg e3] at h; simp at h
theorem blanks_range {s : ByteArray} {i : Int} (h0 : 0 ≤ i) (h1 : i ≤ s.size) : i ≤ blanks s i ∧ blanks s i ≤ s.size := ⟨upTo_ge, upTo_le h0 h1⟩
/-- With no error: the token is the end's, and stands at the end; or it isn't, and something is passed over. -/
theorem next_step {s : ByteArray} {i : Int} (h0 : 0 ≤ i) (h1 : i ≤ s.size) (h : (nextF s i).2.2 = 0) :
    (nextF s i).1.head = blanks s i ∧ (((nextF s i).1.kind = 0 ∧ (nextF s i).1.stop = s.size ∧ blanks s i = s.size) ∨ ((nextF s i).1.kind ≠ 0 ∧ blanks s i < (nextF s i).1.stop ∧ (nextF s i).1.stop ≤ s.size)) := by
  have hb := blanks_range h0 h1
  unfold nextF at h ⊢
  split
  · rename_i hq
    rw [if_pos hq] at h
    have := tokF_next (by omega) hq h
    exact ⟨this.2.2.2, .inr ⟨this.1, this.2.1, this.2.2.1⟩⟩
  · rename_i hq
    simp only
    exact ⟨by trivial, .inl ⟨by trivial, by omega, by omega⟩⟩
/-- The tokens from a place on, behind those so far; the error's place; the error. -/
def allF (s : ByteArray) : Nat → Int → List Tk → List Tk × Int × Int
  | 0, _, _ => ([], 0, 0)
  | k + 1, i, acc =>
    if (nextF s i).2.2 ≠ 0 then ([], (nextF s i).2.1, (nextF s i).2.2)
    else if (nextF s i).1.kind = 0 then (acc ++ [(nextF s i).1], 0, 0)
    else allF s k (nextF s i).1.stop (acc ++ [(nextF s i).1])
def allAt (s : ByteArray) (i : Int) (acc : List Tk) : List Tk × Int × Int := allF s (s.size + 1 - i.toNat) i acc
theorem allF_more (s : ByteArray) : ∀ (k m : Nat) (i : Int) (acc : List Tk), 0 ≤ i → i ≤ s.size → s.size + 1 - i.toNat ≤ k → s.size + 1 - i.toNat ≤ m → allF s k i acc = allF s m i acc
  | 0, m, i, acc, h0, h1, hk, _ => by omega
  | k + 1, 0, i, acc, h0, h1, _, hm => by omega
  | k + 1, m + 1, i, acc, h0, h1, hk, hm => by
    unfold allF
    by_cases c1 : (nextF s i).2.2 ≠ 0
    · rw [if_pos c1, if_pos c1]
    · rw [if_neg c1, if_neg c1]
      by_cases c2 : (nextF s i).1.kind = 0
      · rw [if_pos c2, if_pos c2]
      · rw [if_neg c2, if_neg c2]
        have hs := next_step h0 h1 (by simpa using c1)
        have hb := blanks_range h0 h1
        exact allF_more s k m _ _ (by omega) (by omega) (by omega) (by omega)
theorem allAt_step {s : ByteArray} {i : Int} {acc : List Tk} (h0 : 0 ≤ i) (h1 : i ≤ s.size) : allAt s i acc =
    if (nextF s i).2.2 ≠ 0 then ([], (nextF s i).2.1, (nextF s i).2.2)
    else if (nextF s i).1.kind = 0 then (acc ++ [(nextF s i).1], 0, 0)
    else allAt s (nextF s i).1.stop (acc ++ [(nextF s i).1]) := by
  unfold allAt
  rw [show s.size + 1 - i.toNat = (s.size - i.toNat) + 1 from by omega]
  conv => lhs; unfold allF
  by_cases c1 : (nextF s i).2.2 ≠ 0
  · rw [if_pos c1, if_pos c1]
  · rw [if_neg c1, if_neg c1]
    by_cases c2 : (nextF s i).1.kind = 0
    · rw [if_pos c2, if_pos c2]
    · rw [if_neg c2, if_neg c2]
      have hs := next_step h0 h1 (by simpa using c1)
      have hb := blanks_range h0 h1
      exact allF_more s _ _ _ _ (by omega) (by omega) (by omega) (by omega)
def allOf (s : ByteArray) : List Tk × Int × Int := allAt s 0 []
/-- Tokens' cells, one behind the other. -/
def tksV (l : List Tk) : List Value := l.flatMap fun t => t.cells.toList
theorem tksV_len (l : List Tk) : (tksV l).length = l.length * 5 := by
  induction l with
  | nil => rfl
  | cons a r ih => simp only [tksV, List.flatMap_cons, List.length_append, List.length_cons] at *; rw [ih]; simp [Tk.cells]; omega
theorem tksV_snoc (l : List Tk) (t : Tk) : tksV l ++ t.cells.toList = tksV (l ++ [t]) := by simp [tksV]
theorem tksV_at : ∀ (l : List Tk) (j : Nat) (t : Tk), l[j]? = some t → ∀ k u, t.cells[k]? = some u → (tksV l)[j * 5 + k]? = some u
  | [], j, t, h, k, u, _ => by simp at h
  | a :: r, 0, t, h, k, u, hu => by
    simp at h; subst h
    have hk : k < 5 := by have := (Array.getElem?_eq_some_iff.1 hu).1; simpa [Tk.cells] using this
    simp only [tksV, List.flatMap_cons, Nat.zero_mul, Nat.zero_add]
    rw [List.getElem?_append_left (by simp [Tk.cells]; exact hk)]
    simpa using hu
  | a :: r, j + 1, t, h, k, u, hu => by
    have h2 : r[j]? = some t := by simpa using h
    have ih := tksV_at r j t h2 k u hu
    simp only [tksV, List.flatMap_cons]
    rw [List.getElem?_append_right (by simp [Tk.cells]; omega)]
    have e : (j + 1) * 5 + k - a.cells.toList.length = j * 5 + k := by simp [Tk.cells]; omega
    rw [e]; exact ih
end Go.Proofs.YtdlkdecigpaaaaaGreatDoor
namespace Go.Proofs.YtdlkdecigpaaaaaGreatDoor
set_option linter.unusedVariables false
set_option linter.unusedSimpArgs false
open Go.RowKit

theorem blanks_ge (s : ByteArray) (i : Int) : i ≤ blanks s i := upTo_ge
theorem blanks_le {s : ByteArray} {i : Int} (h0 : 0 ≤ i) (h1 : i ≤ s.size) : blanks s i ≤ s.size := upTo_le h0 h1
theorem mark_pos {s : ByteArray} {i : Int} {t : ByteArray} (h : 0 ≤ markAt s i t) (ht : 0 < t.size) : i < markAt s i t ∧ markAt s i t ≤ s.size := by
  unfold markAt at h ⊢
  have := blanks_ge s i
  split
  · rename_i hc; exact ⟨by omega, by omega⟩
  · rename_i hc; rw [if_neg hc] at h; omega
theorem word_pos {s : ByteArray} {i : Int} (h0 : 0 ≤ i) (h : wordAt s i ≠ eS) : i < wordAtEnd s i ∧ wordAtEnd s i ≤ s.size := by
  unfold wordAt at h
  unfold wordAtEnd
  have hb := blanks_ge s i
  cases hl : letterAt s (blanks s i) with
  | false => rw [hl] at h; simp at h
  | true =>
    rw [if_pos rfl]
    have h1 := letterAt_lt hl
    have hg : goesAt s (blanks s i) = true := by unfold goesAt; rw [hl]; rfl
    unfold wordEnd
    rw [upTo_step (by omega) hg h1]
    have h2 := upTo_ge (p := goesAt s) (n := s.size) (i := blanks s i + 1)
    have h3 := upTo_le (p := goesAt s) (n := s.size) (i := blanks s i + 1) (by omega) (by omega)
    exact ⟨by omega, h3⟩
theorem word_none {s : ByteArray} {i : Int} (h0 : 0 ≤ i) (h : wordAt s i = eS) : wordAtEnd s i = i := by
  unfold wordAtEnd
  cases hl : letterAt s (blanks s i) with
  | false => rfl
  | true =>
    exfalso
    unfold wordAt at h
    rw [hl, if_pos rfl] at h
    have h1 := letterAt_lt hl
    have hg : goesAt s (blanks s i) = true := by unfold goesAt; rw [hl]; rfl
    have h2 := upTo_ge (p := goesAt s) (n := s.size) (i := blanks s i + 1)
    have h4 : 0 ≤ blanks s i := by have := blanks_ge s i; omega
    have h3 := upTo_le (p := goesAt s) (n := s.size) (i := blanks s i + 1) (by omega) (by omega)
    have h5 := congrArg ByteArray.size h
    rw [ByteArray.size_extract] at h5
    unfold wordEnd at h5
    rw [upTo_step h4 hg h1] at h5
    have h6 : eS.size = 0 := rfl
    omega
theorem mark_first {s : ByteArray} {i : Int} : ∀ {l : List ByteArray} {op : ByteArray} {e : Int}, firstMark s i l = some (op, e) → op ∈ l ∧ 0 ≤ markAt s i op ∧ e = markAt s i op
  | [], _, _, h => by cases h
  | t :: l, op, e, h => by
    unfold firstMark at h
    split at h
    · rename_i hc; cases h; exact ⟨.head _, hc, rfl⟩
    · obtain ⟨h1, h2⟩ := mark_first h; exact ⟨.tail _ h1, h2⟩
theorem signs_size {n : Nat} {t : ByteArray} (h : t ∈ signsL n) : 0 < t.size ∧ t.size ≤ 3 := by
  match n, h with
  | 0, h => simp [signsL] at h; subst h; decide
  | 1, h => simp [signsL] at h; subst h; decide
  | 2, h => simp [signsL] at h
  | 3, h => simp [signsL] at h; rcases h with rfl | rfl | rfl | rfl | rfl | rfl <;> decide
  | 4, h => simp [signsL] at h; rcases h with rfl | rfl <;> decide
  | 5, h => simp [signsL] at h; rcases h with rfl | rfl | rfl <;> decide
  | n + 6, h => simp [signsL] at h
theorem betw_pos {s : ByteArray} {i : Int} {n : Nat} {op : ByteArray} {e : Int} (h0 : 0 ≤ i) (h : betw s i n = some (op, e)) : i < e ∧ e ≤ s.size := by
  unfold betw at h
  split at h
  · split at h
    · rename_i hw; cases h; exact word_pos h0 (by rw [hw]; decide)
    · cases h
  · split at h
    · split at h
      · rename_i hw; cases h; exact word_pos h0 (by rw [hw]; decide)
      · cases h
    · obtain ⟨h1, h2, rfl⟩ := mark_first h
      exact mark_pos h2 (signs_size h1).1
theorem digits_pos {s : ByteArray} {q : Int} (h0 : 0 ≤ q) (h : digitAt s q = true) : q < digitsEnd s q ∧ digitsEnd s q ≤ s.size := by
  have h1 := digitAt_lt h
  unfold digitsEnd
  rw [upTo_step h0 h h1]
  have h2 := upTo_ge (p := digitAt s) (n := s.size) (i := q + 1)
  have h3 := upTo_le (p := digitAt s) (n := s.size) (i := q + 1) (by omega) (by omega)
  exact ⟨by omega, h3⟩
theorem str_pos {s : ByteArray} {q : Int} (h0 : 0 ≤ q) (h : (strF s q).2.2 = 0) : q < (strF s q).1.stop ∧ (strF s q).1.stop ≤ s.size := by
  unfold strF at h ⊢
  split at h
  · rename_i hc
    rw [if_pos hc]
    have := textF_end s _ (q + 1) [] (by omega) hc
    exact ⟨Int.lt_trans (by omega) this.1, this.2⟩
  · exact absurd h (by assumption)
/-- Where an answer stands. -/
def PosOk (s : ByteArray) (g : G) (i : Int) : Res → Prop
  | .ok _ p => 0 ≤ i → i ≤ s.size → (i ≤ p ∧ p ≤ s.size) ∧ (match g with | .more _ _ => True | .parts _ => True | _ => i < p)
  | .err _ c => c ≠ 0
theorem numR_pos {s : ByteArray} {i : Int} (hd : digitAt s (blanks s i) = true) : PosOk s .one i (numR s (blanks s i)) := by
  unfold numR
  have hb := blanks_ge s i
  split
  · exact (by decide : (1 : Int) ≠ 0)
  · split
    · rename_i h; exact h
    · split
      · exact (by decide : (1 : Int) ≠ 0)
      · intro h0 h1
        have := digits_pos (by omega) hd
        exact ⟨⟨by omega, this.2⟩, by show i < _; omega⟩
theorem textR_pos {s : ByteArray} {i : Int} : PosOk s .one i (textR s (blanks s i)) := by
  unfold textR
  have hb := blanks_ge s i
  split
  · rename_i h
    intro h0 h1
    have := str_pos (by omega) h
    exact ⟨⟨by omega, this.2⟩, by show i < _; omega⟩
  · rename_i h; exact h
theorem wordR_pos {s : ByteArray} {i : Int} : PosOk s .one i (wordR s i) := by
  have hw : wordAt s i ≠ eS → 0 ≤ i → i ≤ s.size → (i ≤ wordAtEnd s i ∧ wordAtEnd s i ≤ s.size) ∧ i < wordAtEnd s i := fun h h0 _ => by
    have := word_pos h0 h; exact ⟨⟨by omega, this.2⟩, this.1⟩
  unfold wordR
  split
  · rename_i h; exact hw (by rw [h]; decide)
  · split
    · rename_i h; exact hw (by rw [h]; decide)
    · split
      · rename_i h; exact hw (by rw [h]; decide)
      · split
        · rename_i h; exact hw (by rw [h]; decide)
        · split
          · exact (by decide : (1 : Int) ≠ 0)
          · rename_i h; exact hw (fun e => h (.inl e))
theorem pos_trans {s : ByteArray} {g g' : G} {i e : Int} {r : Res} (h : PosOk s g' e r) (he : 0 ≤ i → i ≤ s.size → i < e ∧ e ≤ s.size) : PosOk s g i r := by
  cases r with
  | err p c => exact h
  | ok T p =>
    intro h0 h1
    obtain ⟨h2, h3⟩ := he h0 h1
    obtain ⟨⟨h4, h5⟩, _⟩ := h (by omega) h3
    refine ⟨⟨by omega, h5⟩, ?_⟩
    cases g <;> first | trivial | (show i < p; omega)
theorem pos_up {s : ByteArray} {g : G} {i : Int} {r : Res} {op : ByteArray} (h : PosOk s g i r) : PosOk s g i (r.up op) := by
  cases r with
  | err p c => exact h
  | ok T p => exact h
theorem par_pos {s : ByteArray} {g : G} {i : Int} {r : Res} (h : Par s g i r) : PosOk s g i r := by
  induction h with
  | lev_err _ _ ih => exact ih
  | lev_ok _ _ _ ih1 ih2 => exact pos_trans ih2 fun h0 h1 => ⟨(ih1 h0 h1).2, (ih1 h0 h1).1.2⟩
  | not_on hw _ ih => exact pos_up (pos_trans ih fun h0 h1 => word_pos h0 (by rw [hw]; decide))
  | not_no _ _ ih =>
    rename_i r _ _
    cases r with
    | err p c => exact ih
    | ok T p => exact fun h0 h1 => ⟨(ih h0 h1).1, (ih h0 h1).2⟩
  | neg_on hm _ ih => exact pos_up (pos_trans ih fun h0 h1 => mark_pos hm (by decide))
  | neg_no _ _ ih =>
    rename_i r _ _
    cases r with
    | err p c => exact ih
    | ok T p => exact fun h0 h1 => ⟨(ih h0 h1).1, (ih h0 h1).2⟩
  | more_end _ => exact fun h0 h1 => ⟨⟨Int.le_refl _, h1⟩, trivial⟩
  | more_err _ _ ih => exact ih
  | more_one hb _ ih => exact pos_trans (g' := .lev 4) (r := .ok _ _) (fun a b => ih a b) fun h0 h1 => betw_pos h0 hb
  | more_on _ hb _ _ ih1 ih2 => exact pos_trans (pos_trans (g := .lev 0) ih2 fun h0 h1 => ⟨(ih1 h0 h1).2, (ih1 h0 h1).1.2⟩) fun h0 h1 => betw_pos h0 hb
  | part_err _ ih => exact ih
  | part_ok _ _ ih1 ih2 => exact pos_trans ih2 fun h0 h1 => ⟨(ih1 h0 h1).2, (ih1 h0 h1).1.2⟩
  | parts_end _ _ => exact fun h0 h1 => ⟨⟨Int.le_refl _, h1⟩, trivial⟩
  | get_word hm hw _ ih =>
    exact pos_trans ih fun h0 h1 => by
      have h2 := mark_pos hm (by decide)
      have h3 := word_pos (by omega) hw
      exact ⟨by omega, h3.2⟩
  | get_form _ _ _ => exact (by decide : (1 : Int) ≠ 0)
  | get_err _ _ _ _ hc => exact hc
  | get_text hm _hw hq _hj hc _hp ih =>
    rename_i T i q r
    exact pos_trans ih fun h0 h1 => by
      have h2 := mark_pos hm (by decide)
      have h3 := blanks_ge s (markAt s i ⟨#[46]⟩)
      rw [← hq] at h3
      have h4 := str_pos (by omega) hc
      exact ⟨by omega, h4.2⟩
  | at_err _ _ _ ih => exact ih
  | at_form _ _ _ _ _ => exact (by decide : (1 : Int) ≠ 0)
  | at_on _ hm _ hk _ ih1 ih2 =>
    exact pos_trans ih2 fun h0 h1 => by
      have h2 := mark_pos hm (by decide)
      have h3 := ih1 (by omega) h2.2
      have h4 := mark_pos hk (by decide)
      exact ⟨by have := h3.1.1; omega, h4.2⟩
  | one_num hd => exact numR_pos hd
  | one_text _ => exact textR_pos
  | one_err _ _ ih => exact ih
  | one_form _ _ _ _ => exact (by decide : (1 : Int) ≠ 0)
  | one_in hm _ hk ih =>
    exact fun h0 h1 => by
      have h2 := mark_pos hm (by decide)
      have h3 := ih (by omega) h2.2
      have h4 := mark_pos hk (by decide)
      exact ⟨⟨by have := h3.1.1; omega, h4.2⟩, by show _ < _; have := h3.1.1; omega⟩
  | one_word _ _ _ _ => exact wordR_pos
  | one_open _ _ => exact (by decide : (1 : Int) ≠ 0)
  | one_call ha hm _ ih =>
    exact pos_trans ih fun h0 h1 => by
      have hw : wordAt s _ ≠ eS := fun e => by rw [e] at ha; exact absurd ha (by decide)
      have h2 := word_pos h0 hw
      have h3 := mark_pos hm (by decide)
      exact ⟨by omega, h3.2⟩
  | call_err _ ih => exact ih
  | call_few _ _ _ _ => exact (by decide : (12 : Int) ≠ 0)
  | call_end _ hm _ ih =>
    exact fun h0 h1 => by
      have h3 := ih h0 h1
      have h4 := mark_pos hm (by decide)
      exact ⟨⟨by have := h3.1.1; omega, h4.2⟩, by show _ < _; have := h3.1.1; omega⟩
  | call_form _ _ _ _ => exact (by decide : (1 : Int) ≠ 0)
  | call_many _ _ _ _ _ => exact (by decide : (12 : Int) ≠ 0)
  | call_on _ _ hm _ _ ih1 ih2 =>
    exact pos_trans ih2 fun h0 h1 => by
      have h3 := ih1 h0 h1
      have h4 := mark_pos hm (by decide)
      exact ⟨by have := h3.1.1; omega, h4.2⟩
/-- How much is left to look at. -/
def rank : G → Nat
  | .lev n => 9 - n
  | .part => 2
  | .one => 1
  | .more _ _ => 11
  | .parts _ => 11
  | .call _ _ => 10
def meas (s : ByteArray) (g : G) (i : Int) : Nat := (s.size - i.toNat) * 20 + rank g
def goodG : G → Prop
  | .lev n => n ≤ 6
  | .more n _ => lv n
  | _ => True
theorem par_all (s : ByteArray) : ∀ (k : Nat) (g : G) (i : Int), meas s g i ≤ k → 0 ≤ i → i ≤ s.size → goodG g → ∃ r, Par s g i r := by
  intro k
  induction k using Nat.strongRecOn with
  | _ k ih =>
    intro g i hk h0 h1 hg
    -- what stands further, or at the same place with a lower rank
    have far : ∀ (g' : G) (e : Int), i < e → e ≤ s.size → goodG g' → ∃ r, Par s g' e r := fun g' e he1 he2 hg' => by
      have hr : rank g' ≤ 11 := by cases g' <;> simp [rank] <;> omega
      exact ih (meas s g' e) (by unfold meas at hk ⊢; omega) g' e (Nat.le_refl _) (by omega) he2 hg'
    have near : ∀ (g' : G), rank g' < rank g → goodG g' → ∃ r, Par s g' i r := fun g' hr hg' =>
      ih (meas s g' i) (by unfold meas at hk ⊢; omega) g' i (Nat.le_refl _) h0 h1 hg'
    cases g with
    | lev n =>
      by_cases h2 : n = 2
      · subst h2
        by_cases hw : wordAt s i = notS
        · obtain ⟨h3, h4⟩ := word_pos h0 (by rw [hw]; decide)
          obtain ⟨r, hr⟩ := far (.lev 2) _ h3 h4 (by simp [goodG])
          exact ⟨_, .not_on hw hr⟩
        · obtain ⟨r, hr⟩ := near (.lev 3) (by simp [rank]) (by simp [goodG])
          exact ⟨_, .not_no hw hr⟩
      · by_cases h6 : n = 6
        · subst h6
          by_cases hm : 0 ≤ markAt s i ⟨#[45]⟩
          · obtain ⟨h3, h4⟩ := mark_pos hm (by decide)
            obtain ⟨r, hr⟩ := far (.lev 6) _ h3 h4 (by simp [goodG])
            exact ⟨_, .neg_on hm hr⟩
          · obtain ⟨r, hr⟩ := near .part (by simp [rank]) trivial
            exact ⟨_, .neg_no (by omega) hr⟩
        · have hn6 : n ≤ 6 := hg
          have hl : lv n := by unfold lv; omega
          obtain ⟨r, hr⟩ := near (.lev (n + 1)) (by simp [rank]; omega) (by simp [goodG]; omega)
          cases r with
          | err p c => exact ⟨_, .lev_err hl hr⟩
          | ok T p =>
            have hp := par_pos hr h0 h1
            obtain ⟨r', hr'⟩ := far (.more n T) p hp.2 hp.1.2 hl
            exact ⟨_, .lev_ok hl hr hr'⟩
    | more n T =>
      cases hb : betw s i n with
      | none => exact ⟨_, .more_end hb⟩
      | some oe =>
        obtain ⟨op, e⟩ := oe
        obtain ⟨h3, h4⟩ := betw_pos h0 hb
        have hn : n + 1 ≤ 6 := by have : lv n := hg; unfold lv at this; omega
        obtain ⟨r, hr⟩ := far (.lev (n + 1)) e h3 h4 hn
        cases r with
        | err p c => exact ⟨_, .more_err hb hr⟩
        | ok U p =>
          by_cases h33 : n = 3
          · subst h33; exact ⟨_, .more_one hb hr⟩
          · have hp := par_pos hr (by omega) h4
            have := hp.1.1
            obtain ⟨r', hr'⟩ := far (.more n (binT op T U)) p (by omega) hp.1.2 hg
            exact ⟨_, .more_on h33 hb hr hr'⟩
    | part =>
      obtain ⟨r, hr⟩ := near .one (by simp [rank]) trivial
      cases r with
      | err p c => exact ⟨_, .part_err hr⟩
      | ok T p =>
        have hp := par_pos hr h0 h1
        obtain ⟨r', hr'⟩ := far (.parts T) p hp.2 hp.1.2 trivial
        exact ⟨_, .part_ok hr hr'⟩
    | parts T =>
      by_cases hm : 0 ≤ markAt s i ⟨#[46]⟩
      · obtain ⟨h3, h4⟩ := mark_pos hm (by decide)
        by_cases hw : wordAt s (markAt s i ⟨#[46]⟩) = eS
        · cases hq : isAt s (blanks s (markAt s i ⟨#[46]⟩)) 34 with
          | false => exact ⟨_, .get_form hm hw hq⟩
          | true =>
            by_cases hc : (strF s (blanks s (markAt s i ⟨#[46]⟩))).2.2 = 0
            · have hb := blanks_ge s (markAt s i ⟨#[46]⟩)
              obtain ⟨h5, h6⟩ := str_pos (by omega) hc
              obtain ⟨r, hr⟩ := far (.parts (.mk getS (strF s (blanks s (markAt s i ⟨#[46]⟩))).1.text VT.zero [T])) _ (by omega) h6 trivial
              exact ⟨_, .get_text hm hw rfl hq hc hr⟩
            · exact ⟨_, .get_err hm hw rfl hq hc⟩
        · obtain ⟨h5, h6⟩ := word_pos (by omega) hw
          obtain ⟨r, hr⟩ := far (.parts (.mk getS (wordAt s (markAt s i ⟨#[46]⟩)) VT.zero [T])) _ (by omega) h6 trivial
          exact ⟨_, .get_word hm hw hr⟩
      · by_cases hk2 : 0 ≤ markAt s i ⟨#[91]⟩
        · obtain ⟨h3, h4⟩ := mark_pos hk2 (by decide)
          obtain ⟨r, hr⟩ := far (.lev 0) _ h3 h4 (by simp [goodG])
          cases r with
          | err p c => exact ⟨_, .at_err (by omega) hk2 hr⟩
          | ok U p =>
            have hp := par_pos hr (by omega) h4
            have := hp.1.1
            by_cases hj : 0 ≤ markAt s p ⟨#[93]⟩
            · obtain ⟨h5, h6⟩ := mark_pos hj (by decide)
              obtain ⟨r', hr'⟩ := far (.parts (binT atS T U)) _ (by omega) h6 trivial
              exact ⟨_, .at_on (by omega) hk2 hr hj hr'⟩
            · exact ⟨_, .at_form (by omega) hk2 hr (by omega)⟩
        · exact ⟨_, .parts_end (by omega) (by omega)⟩
    | one =>
      cases hd : digitAt s (blanks s i) with
      | true => exact ⟨_, .one_num hd⟩
      | false =>
        cases hq : isAt s (blanks s i) 34 with
        | true => exact ⟨_, .one_text hq⟩
        | false =>
          by_cases hm : 0 ≤ markAt s i ⟨#[40]⟩
          · obtain ⟨h3, h4⟩ := mark_pos hm (by decide)
            obtain ⟨r, hr⟩ := far (.lev 0) _ h3 h4 (by simp [goodG])
            cases r with
            | err p c => exact ⟨_, .one_err hm hr⟩
            | ok U p =>
              by_cases hj : 0 ≤ markAt s p ⟨#[41]⟩
              · exact ⟨_, .one_in hm hr hj⟩
              · exact ⟨_, .one_form hm hr (by omega)⟩
          · by_cases ha : argsN (wordAt s i) = 0
            · exact ⟨_, .one_word hd hq (by omega) ha⟩
            · have hw : wordAt s i ≠ eS := fun e => by rw [e] at ha; exact ha (by decide)
              obtain ⟨h3, h4⟩ := word_pos h0 hw
              by_cases hj : 0 ≤ markAt s (wordAtEnd s i) ⟨#[40]⟩
              · obtain ⟨h5, h6⟩ := mark_pos hj (by decide)
                obtain ⟨r, hr⟩ := far (.call (wordAt s i) []) _ (by omega) h6 trivial
                exact ⟨_, .one_call (by omega) hj hr⟩
              · exact ⟨_, .one_open (by omega) (by omega)⟩
    | call w l =>
      obtain ⟨r, hr⟩ := near (.lev 0) (by simp [rank]) (by simp [goodG])
      cases r with
      | err p c => exact ⟨_, .call_err hr⟩
      | ok U p =>
        have hp := par_pos hr h0 h1
        by_cases hm : 0 ≤ markAt s p ⟨#[41]⟩
        · by_cases hl : l.length + 1 < argsN w
          · exact ⟨_, .call_few hr hm hl⟩
          · exact ⟨_, .call_end hr hm (by omega)⟩
        · by_cases hc : 0 ≤ markAt s p ⟨#[44]⟩
          · by_cases hl : l.length + 1 = argsN w
            · exact ⟨_, .call_many hr (by omega) hc hl⟩
            · obtain ⟨h5, h6⟩ := mark_pos hc (by decide)
              obtain ⟨r', hr'⟩ := far (.call w (l ++ [U])) _ (by omega) h6 trivial
              exact ⟨_, .call_on hr (by omega) hc hl hr'⟩
          · exact ⟨_, .call_form hr (by omega) (by omega)⟩
end Go.Proofs.YtdlkdecigpaaaaaGreatDoor
