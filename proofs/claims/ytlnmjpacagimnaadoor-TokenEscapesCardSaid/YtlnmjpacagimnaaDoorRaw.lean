/- A text in quotation marks is one Str of it, in plain words. -/
import Derived.Test.YtlnmjpacagimnaaDoorLawA
namespace Go.Proofs.YtlnmjpacagimnaaDoor
set_option linter.unusedVariables false
set_option linter.unusedSimpArgs false
open Go.RowKit

theorem bt_left {a b : ByteArray} {j : Nat} (h : j < a.size) : bt (a ++ b) (j : Int) = bt a j := by
  have h2 : j < (a ++ b).size := by rw [ByteArray.size_append]; omega
  rw [← bt_nat (a ++ b) j h2, ← bt_nat a j h, ByteArray.getElem_append_left h]
theorem bt_right {a b : ByteArray} {j : Nat} (h : j < b.size) : bt (a ++ b) ((a.size + j : Nat) : Int) = bt b j := by
  have h2 : a.size + j < (a ++ b).size := by rw [ByteArray.size_append]; omega
  rw [← bt_nat (a ++ b) (a.size + j) h2, ← bt_nat b j h, ByteArray.getElem_append_right (by omega)]
  congr 3; omega
/-- A text in quotation marks. -/
def quoS (s : ByteArray) : ByteArray := ⟨#[34]⟩ ++ s ++ ⟨#[34]⟩
theorem quo_size (s : ByteArray) : (quoS s).size = s.size + 2 := by
  unfold quoS; rw [ByteArray.size_append, ByteArray.size_append]; show 1 + s.size + 1 = _; omega
theorem quo_head (s : ByteArray) : bt (quoS s) 0 = 34 := by
  unfold quoS
  have h1 : (0 : Nat) < ((⟨#[34]⟩ : ByteArray) ++ s).size := by rw [ByteArray.size_append]; show 0 < 1 + s.size; omega
  have := bt_left (b := ⟨#[34]⟩) h1
  have h2 := bt_left (a := (⟨#[34]⟩ : ByteArray)) (b := s) (j := 0) (by decide)
  rw [Int.natCast_zero] at this h2
  rw [this, h2]; decide +kernel
theorem quo_mid (s : ByteArray) {j : Nat} (h : j < s.size) : bt (quoS s) ((j : Int) + 1) = bt s j := by
  unfold quoS
  have h0 : ((⟨#[34]⟩ : ByteArray)).size = 1 := rfl
  have h1 : 1 + j < ((⟨#[34]⟩ : ByteArray) ++ s).size := by rw [ByteArray.size_append, h0]; omega
  have e1 := bt_left (b := ⟨#[34]⟩) h1
  have e2 := bt_right (a := (⟨#[34]⟩ : ByteArray)) h
  rw [h0] at e2
  rw [show ((j : Int) + 1) = ((1 + j : Nat) : Int) from by omega, e1, e2]
theorem quo_last (s : ByteArray) : bt (quoS s) ((s.size : Int) + 1) = 34 := by
  unfold quoS
  have e := bt_right (a := (⟨#[34]⟩ : ByteArray) ++ s) (b := ⟨#[34]⟩) (j := 0) (by decide)
  have h0 : (((⟨#[34]⟩ : ByteArray) ++ s).size + 0 : Nat) = s.size + 1 := by rw [ByteArray.size_append]; show 1 + s.size + 0 = _; omega
  rw [h0] at e
  rw [show ((s.size : Int) + 1) = ((s.size + 1 : Nat) : Int) from by omega, e]; decide +kernel
/-- Where bytes end to be points. -/
def vF (s : ByteArray) : Nat → Int → Int
  | 0, i => i
  | k + 1, i => if i < s.size then (if (first s i).2 = 0 then i else vF s k (i + (first s i).2)) else i
def vEnd (s : ByteArray) : Int := vF s s.size 0
theorem vF_more (s : ByteArray) : ∀ (k m : Nat) (i : Int), 0 ≤ i → s.size - i.toNat ≤ k → s.size - i.toNat ≤ m → vF s k i = vF s m i
  | 0, m, i, h0, hk, _ => by
    have : ¬ i < s.size := by omega
    cases m with
    | zero => rfl
    | succ m => simp [vF, this]
  | k + 1, 0, i, h0, _, hm => by
    have : ¬ i < s.size := by omega
    simp [vF, this]
  | k + 1, m + 1, i, h0, hk, hm => by
    unfold vF
    by_cases c1 : i < s.size
    · rw [if_pos c1, if_pos c1]
      by_cases c2 : (first s i).2 = 0
      · rw [if_pos c2, if_pos c2]
      · rw [if_neg c2, if_neg c2]
        have := first_range (s := s) (i := i)
        exact vF_more s k m _ (by omega) (by omega) (by omega)
    · rw [if_neg c1, if_neg c1]
theorem v_step {s : ByteArray} {i : Int} (h0 : 0 ≤ i) : vF s (s.size - i.toNat) i = if i < s.size then (if (first s i).2 = 0 then i else vF s (s.size - (i + (first s i).2).toNat) (i + (first s i).2)) else i := by
  by_cases c1 : i < s.size
  · rw [if_pos c1]
    rw [show s.size - i.toNat = (s.size - i.toNat - 1) + 1 from by omega]
    conv => lhs; unfold vF
    rw [if_pos c1]
    by_cases c2 : (first s i).2 = 0
    · rw [if_pos c2, if_pos c2]
    · rw [if_neg c2, if_neg c2]
      have := first_range (s := s) (i := i)
      exact vF_more s _ _ _ (by omega) (by omega) (by omega)
  · rw [if_neg c1]
    rw [show s.size - i.toNat = 0 from by omega]; rfl
/-- The bytes up to a place. -/
def raws (s : ByteArray) (i : Nat) : List Int := (List.range i).map fun j : Nat => bt s (j : Int)
theorem raws_add (s : ByteArray) (i m : Nat) : raws s (i + m) = raws s i ++ (List.range m).map fun k : Nat => bt s ((i : Int) + (k : Int)) := by
  unfold raws
  rw [List.range_add, List.map_append, List.map_map]
  congr 1
theorem raws_all (s : ByteArray) : strOfNums (raws s s.size) = s := by
  apply bytes_ext
  rw [toList_data, toList_data, strOfNums_data]
  apply List.ext_getElem
  · simp [raws]; try rfl
  · intro j h1 h2
    simp only [raws, List.getElem_map, List.getElem_range]
    have hj : j < s.size := by rw [Array.length_toList] at h2; exact h2
    have := bt_data s j hj
    apply UInt8.toNat_inj.1
    rw [this.1]
    have hb := bt_range s j
    rw [UInt8.toNat_ofNat_of_lt' (by show _ < 256; omega)]
theorem atL_list (s : ByteArray) : ∀ (l : List Int) (i : Int), atL s i l = true → l = (List.range l.length).map fun k : Nat => bt s (i + (k : Int))
  | [], i, _ => rfl
  | b :: r, i, h => by
    simp only [atL, Bool.and_eq_true, beq_iff_eq] at h
    have ih := atL_list s r (i + 1) h.2
    rw [List.length_cons, List.range_succ_eq_map, List.map_cons, List.map_map]
    congr 1
    · simpa using h.1
    · conv => lhs; rw [ih]
      apply List.map_congr_left
      intro k _
      simp only [Function.comp]
      congr 1; omega
theorem first_ok {s : ByteArray} {i : Int} (h : (first s i).2 ≠ 0) : ∃ k : Nat, 1 ≤ k ∧ k ≤ 4 ∧ first s i = (cand s i k, (k : Int)) ∧ okAt s i k = true ∧ ∀ j, 1 ≤ j → j < k → okAt s i j = false := by
  unfold first at h ⊢
  by_cases c1 : okAt s i 1 = true
  · exact ⟨1, by omega, by omega, by rw [if_pos c1]; rfl, c1, fun j a b => by omega⟩
  · rw [if_neg c1] at h ⊢
    by_cases c2 : okAt s i 2 = true
    · exact ⟨2, by omega, by omega, by rw [if_pos c2]; rfl, c2, fun j a b => (show j = 1 by omega) ▸ (by simpa using c1)⟩
    · rw [if_neg c2] at h ⊢
      by_cases c3 : okAt s i 3 = true
      · refine ⟨3, by omega, by omega, by rw [if_pos c3]; rfl, c3, fun j a b => ?_⟩
        have : j = 1 ∨ j = 2 := by omega
        rcases this with rfl | rfl
        · simpa using c1
        · simpa using c2
      · rw [if_neg c3] at h ⊢
        by_cases c4 : okAt s i 4 = true
        · refine ⟨4, by omega, by omega, by rw [if_pos c4]; rfl, c4, fun j a b => ?_⟩
          have : j = 1 ∨ j = 2 ∨ j = 3 := by omega
          rcases this with rfl | rfl | rfl
          · simpa using c1
          · simpa using c2
          · simpa using c3
        · rw [if_neg c4] at h; simp at h
/-- What stands in a text also stands in it shifted. -/
theorem ok_shift {s u : ByteArray} {i d : Int} {k : Nat} (h0 : 0 ≤ i) (hk1 : 1 ≤ k) (hk : k ≤ 4) (hi : i + k ≤ s.size) (hu : i + d + k ≤ u.size) (hb : ∀ j : Nat, j < k → bt u (i + d + j) = bt s (i + j)) : okAt u (i + d) k = okAt s i k ∧ cand u (i + d) k = cand s i k := by
  have b0 := hb 0 (by omega)
  simp only [Int.natCast_zero, Int.add_zero] at b0
  have h4 : k = 1 ∨ k = 2 ∨ k = 3 ∨ k = 4 := by omega
  rcases h4 with rfl | rfl | rfl | rfl
  · rw [ok1, ok1, cand1, cand1, b0]
    have e1 : (i + d + 1 ≤ u.size) = (i + 1 ≤ s.size) := propext (by constructor <;> intro <;> omega)
    simp only [e1]; exact ⟨trivial, trivial⟩
  · have b1 := hb 1 (by omega)
    simp only [Int.natCast_one] at b1
    rw [ok2, ok2, cand2, cand2, b0, b1]
    have e1 : (i + d + 2 ≤ u.size) = (i + 2 ≤ s.size) := propext (by constructor <;> intro <;> omega)
    simp only [e1]; exact ⟨trivial, trivial⟩
  · have b1 := hb 1 (by omega)
    have b2 := hb 2 (by omega)
    simp only [Int.natCast_one, show ((2 : Nat) : Int) = 2 from rfl] at b1 b2
    rw [ok3, ok3, cand3, cand3, b0, b1, b2]
    have e1 : (i + d + 3 ≤ u.size) = (i + 3 ≤ s.size) := propext (by constructor <;> intro <;> omega)
    simp only [e1]; exact ⟨trivial, trivial⟩
  · have b1 := hb 1 (by omega)
    have b2 := hb 2 (by omega)
    have b3 := hb 3 (by omega)
    simp only [Int.natCast_one, show ((2 : Nat) : Int) = 2 from rfl, show ((3 : Nat) : Int) = 3 from rfl] at b1 b2 b3
    rw [ok4, ok4, cand4, cand4, b0, b1, b2, b3]
    have e1 : (i + d + 4 ≤ u.size) = (i + 4 ≤ s.size) := propext (by constructor <;> intro <;> omega)
    simp only [e1]; exact ⟨trivial, trivial⟩
theorem first_same {s u : ByteArray} {i d : Int} (h0 : 0 ≤ i) (h : (first s i).2 ≠ 0) (hu : (s.size : Int) + d ≤ u.size) (hb : ∀ j : Nat, i + j < s.size → bt u (i + d + j) = bt s (i + j)) : first u (i + d) = first s i := by
  obtain ⟨k, hk1, hk, he, hok, hno⟩ := first_ok h
  have hin : i + k ≤ s.size := by
    have := first_range (s := s) (i := i)
    rw [he] at this; simp only at this; omega
  have hsame : ∀ j, 1 ≤ j → j ≤ k → okAt u (i + d) j = okAt s i j ∧ cand u (i + d) j = cand s i j := fun j a b => ok_shift h0 a (by omega) (by omega) (by omega) (fun q hq => hb q (by omega))
  rw [he]
  rw [first_some hk1 hk (fun j a b => by rw [(hsame j a (by omega)).1]; exact hno j a b) (by rw [(hsame k hk1 (Nat.le_refl _)).1]; exact hok), (hsame k hk1 (Nat.le_refl _)).2]
/-- No byte that a Str can't have as it is. -/
def Clean (s : ByteArray) : Prop := ∀ j : Nat, j < s.size → 32 ≤ bt s j ∧ ¬ bt s j = 34 ∧ ¬ bt s j = 92
theorem raw_text {s : ByteArray} (hc : Clean s) : ∀ (k i : Nat) (acc : List Int), i ≤ s.size → s.size - i ≤ k → vF s (s.size - i) i = s.size → bytesOfL acc = raws s i →
    ∃ l, textAt (quoS s) ((i : Int) + 1) acc = (l, (s.size : Int) + 2, 0) ∧ bytesOfL l = raws s s.size := by
  intro k
  induction k with
  | zero =>
    intro i acc hi hk _ hacc
    obtain rfl : i = s.size := by omega
    rw [textAt_step (by omega), if_neg (by rw [quo_size, quo_last]; omega), if_pos (quo_last s)]
    exact ⟨acc, by rw [show (s.size : Int) + 1 + 1 = (s.size : Int) + 2 from by omega], hacc⟩
  | succ k ih =>
    intro i acc hi hk hv hacc
    by_cases hlt : i < s.size
    · have hcb := hc i hlt
      have hm := quo_mid s hlt
      have hv2 := hv
      rw [show s.size - i = s.size - ((i : Int)).toNat from by omega, v_step (by omega), if_pos (by omega)] at hv2
      by_cases hf : (first s i).2 = 0
      · rw [if_pos hf] at hv2; omega
      · rw [if_neg hf] at hv2
        have hfs : first (quoS s) ((i : Int) + 1) = first s i := first_same (by omega) hf (by rw [quo_size]; omega) (fun j hj => by
          have := quo_mid s (j := i + j) (by omega)
          rw [show (i : Int) + 1 + (j : Int) = ((i + j : Nat) : Int) + 1 from by omega, this]; congr 1)
        obtain ⟨m, hm1, hm4, he, hok, _⟩ := first_ok hf
        have hin : i + m ≤ s.size := by
          have := first_range (s := s) (i := i)
          rw [he] at this; simp only at this; omega
        rw [textAt_step (by omega), if_neg (by rw [quo_size, hm]; omega), if_neg (by rw [hm]; exact hcb.2.1), if_neg (by rw [hm]; exact hcb.2.2), hfs, if_neg hf, he]
        rw [he] at hv2
        simp only at hv2 ⊢
        obtain ⟨l, h1, h2⟩ := ih (i + m) (acc ++ [cand s i m]) hin (by omega) (by rw [show s.size - (i + m) = s.size - ((i : Int) + (m : Int)).toNat from by omega, show ((i + m : Nat) : Int) = (i : Int) + m from by omega]; exact hv2) (by
          rw [bytesOf_snoc, hacc, raws_add]
          congr 1
          simp only [okAt, Bool.and_eq_true, beq_iff_eq] at hok
          have := atL_list s _ _ hok.2.2.2
          rw [hok.2.2.1] at this
          exact this)
        exact ⟨l, by rw [show (i : Int) + 1 + (m : Int) = ((i + m : Nat) : Int) + 1 from by omega]; exact h1, h2⟩
    · obtain rfl : i = s.size := by omega
      rw [textAt_step (by omega), if_neg (by rw [quo_size, quo_last]; omega), if_pos (quo_last s)]
      exact ⟨acc, by rw [show (s.size : Int) + 1 + 1 = (s.size : Int) + 2 from by omega], hacc⟩
theorem blanks_at {s : ByteArray} {i : Int} (h : isBlank s i = false) : blanks s i = i := upTo_stop h
theorem blank_end {s : ByteArray} {i : Int} (h : (s.size : Int) ≤ i) : isBlank s i = false := by
  cases hb : isBlank s i with
  | false => rfl
  | true => have := isBlank_lt hb; omega
/-- At the end there is the end's token. -/
theorem next_end (s : ByteArray) : nextF s s.size = (⟨0, ByteArray.empty, 0, s.size, s.size⟩, 0, 0) := by
  unfold nextF
  rw [blanks_at (blank_end (Int.le_refl _)), if_neg (by omega)]
theorem raw_all {s : ByteArray} (hc : Clean s) (hv : vEnd s = s.size) : ∃ t, allOf (quoS s) = ([⟨2, s, 0, 0, (s.size : Int) + 2⟩, t], 0, 0) := by
  obtain ⟨l, h1, h2⟩ := raw_text hc s.size 0 [] (by omega) (by omega) (by simpa [vEnd] using hv) rfl
  have hq : blanks (quoS s) 0 = 0 := blanks_at (by
    have h := quo_head s
    simp [isBlank, isAt, h])
  have ht : textOf (quoS s) 0 = (l, (s.size : Int) + 2, 0) := by
    unfold textOf; simpa using h1
  have hn : nextF (quoS s) 0 = (⟨2, s, 0, 0, (s.size : Int) + 2⟩, 0, 0) := by
    unfold nextF
    rw [hq, if_pos (by rw [quo_size]; omega)]
    unfold tokF
    rw [quo_head, if_neg (by decide), if_pos rfl]
    unfold strF
    rw [ht, if_pos rfl]
    simp only
    rw [show textS l = s from by unfold textS; rw [h2, raws_all]]
  have hsz : ((quoS s).size : Int) = (s.size : Int) + 2 := by rw [quo_size]; omega
  refine ⟨⟨0, ByteArray.empty, 0, (s.size : Int) + 2, (s.size : Int) + 2⟩, ?_⟩
  unfold allOf
  rw [allAt_step (by omega) (by omega), hn, if_neg (by simp), if_neg (by simp)]
  simp only
  rw [allAt_step (by omega) (by omega)]
  rw [← hsz, next_end, if_neg (by simp), if_pos rfl]
  rfl
end Go.Proofs.YtlnmjpacagimnaaDoor
