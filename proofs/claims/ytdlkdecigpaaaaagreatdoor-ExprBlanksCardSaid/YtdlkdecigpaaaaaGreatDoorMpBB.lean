/- ExprBlanks: what is written is alike, but for its blanks: plain words. -/
import Derived.Test.YtdlkdecigpaaaaaGreatDoorMpBA
namespace Go.Proofs.YtdlkdecigpaaaaaGreatDoor
set_option linter.unusedVariables false
set_option linter.unusedSimpArgs false
open Go.RowKit

section
variable {s : ByteArray} {g : List Nat}
abbrev stA (s : ByteArray) (g : List Nat) (j : Nat) : BSt := stB s g.length j
theorem st_next (j : Nat) : stA s g (j + 1) = stepB g.length (stA s g j) (bt s j) := rfl
theorem step_out {j : Nat} (hq : (stA s g j).q = false) (he : (stA s g j).e = false) (hc : bt s j ≠ 34) : (stA s g (j + 1)).q = false ∧ (stA s g (j + 1)).e = false ∧ (blankC (bt s j) = false → gapB s g j = eS) := by
  have ht : turnQ (stA s g j) (bt s j) = false := by unfold turnQ; rw [if_neg hc]; exact hq
  refine ⟨?_, ?_, fun hb => ?_⟩
  · rw [st_next]; unfold stepB; rw [if_neg (by rw [he]; decide), if_neg (fun h => by rw [ht] at h; exact absurd h.1 (by decide))]
    split <;> exact ht
  · rw [st_next]; unfold stepB; rw [if_neg (by rw [he]; decide), if_neg (fun h => by rw [ht] at h; exact absurd h.1 (by decide))]
    split <;> rfl
  · unfold gapB putsG; rw [hb]; simp
theorem step_open {j : Nat} (hq : (stA s g j).q = false) (he : (stA s g j).e = false) (hc : bt s j = 34) : (stA s g (j + 1)).q = true ∧ (stA s g (j + 1)).e = false ∧ gapB s g j = eS := by
  have ht : turnQ (stA s g j) (bt s j) = true := by unfold turnQ; rw [if_pos hc, hq]; rfl
  have hp : putsG g.length (stA s g j) (bt s j) = false := by unfold putsG; rw [ht]; simp
  have e : stA s g (j + 1) = ⟨true, false, (stA s g j).n⟩ := by
    rw [st_next]; unfold stepB; rw [if_neg (by rw [he]; decide), if_neg (fun h => by rw [hc] at h; exact absurd h.2 (by decide)), if_neg (by rw [hp]; decide), ht]
  rw [e]
  exact ⟨rfl, rfl, by unfold gapB; rw [if_neg (by rw [hp]; decide)]⟩
theorem step_in {j : Nat} (hq : (stA s g j).q = true) (he : (stA s g j).e = false) (hc : bt s j ≠ 34) (h9 : bt s j ≠ 92) : (stA s g (j + 1)).q = true ∧ (stA s g (j + 1)).e = false ∧ gapB s g j = eS := by
  have ht : turnQ (stA s g j) (bt s j) = true := by unfold turnQ; rw [if_neg hc]; exact hq
  have hp : putsG g.length (stA s g j) (bt s j) = false := by unfold putsG; rw [ht]; simp
  have e : stA s g (j + 1) = ⟨true, false, (stA s g j).n⟩ := by
    rw [st_next]; unfold stepB; rw [if_neg (by rw [he]; decide), if_neg (fun h => h9 h.2), if_neg (by rw [hp]; decide), ht]
  rw [e]
  exact ⟨rfl, rfl, by unfold gapB; rw [if_neg (by rw [hp]; decide)]⟩
theorem step_bs {j : Nat} (hq : (stA s g j).q = true) (he : (stA s g j).e = false) (h9 : bt s j = 92) : (stA s g (j + 1)).q = true ∧ (stA s g (j + 1)).e = true ∧ gapB s g j = eS := by
  have ht : turnQ (stA s g j) (bt s j) = true := by unfold turnQ; rw [if_neg (by rw [h9]; decide)]; exact hq
  have hp : putsG g.length (stA s g j) (bt s j) = false := by unfold putsG; rw [ht]; simp
  have e : stA s g (j + 1) = ⟨true, true, (stA s g j).n⟩ := by
    rw [st_next]; unfold stepB; rw [if_neg (by rw [he]; decide), if_pos ⟨ht, h9⟩, ht]
  rw [e]
  exact ⟨rfl, rfl, by unfold gapB; rw [if_neg (by rw [hp]; decide)]⟩
theorem step_esc {j : Nat} (hq : (stA s g j).q = true) (he : (stA s g j).e = true) : (stA s g (j + 1)).q = true ∧ (stA s g (j + 1)).e = false ∧ gapB s g j = eS := by
  have e : stA s g (j + 1) = ⟨true, false, (stA s g j).n⟩ := by
    rw [st_next]; unfold stepB; rw [if_pos he, hq]
  rw [e]
  exact ⟨rfl, rfl, by unfold gapB putsG; rw [he]; rfl⟩
theorem step_close {j : Nat} (hq : (stA s g j).q = true) (he : (stA s g j).e = false) (hc : bt s j = 34) : (stA s g (j + 1)).q = false ∧ (stA s g (j + 1)).e = false ∧ gapB s g j = eS := by
  have ht : turnQ (stA s g j) (bt s j) = false := by unfold turnQ; rw [if_pos hc, hq]; rfl
  have hp : putsG g.length (stA s g j) (bt s j) = false := by unfold putsG; rw [hc]; simp [blankC]
  have e : stA s g (j + 1) = ⟨false, false, (stA s g j).n⟩ := by
    rw [st_next]; unfold stepB; rw [if_neg (by rw [he]; decide), if_neg (fun h => by rw [hc] at h; exact absurd h.2 (by decide)), if_neg (by rw [hp]; decide), ht]
  rw [e]
  exact ⟨rfl, rfl, by unfold gapB; rw [if_neg (by rw [hp]; decide)]⟩
theorem f_eS {j : Nat} (h : j < s.size) (hg : gapB s g j = eS) : fB s g ((j : Int) + 1) = fB s g j + 1 := by
  rw [f_next s g h, hg]; show fB s g j + 1 + (0 : Nat) = _; omega
/-- Inside of a quoted text that begins at a place. -/
structure Ins (s : ByteArray) (g : List Nat) (j0 : Int) (i : Nat) : Prop where
  le : j0 ≤ i
  q : (stA s g i).q = true
  e : (stA s g i).e = false
  f : ∀ k : Int, j0 ≤ k → k ≤ i → fB s g k = fB s g j0 + (k - j0)
theorem Ins.step {j0 : Int} {i : Nat} (h : Ins s g j0 i) (hi : i < s.size) (hc : bt s i ≠ 34) (h9 : bt s i ≠ 92) : Ins s g j0 (i + 1) := by
  obtain ⟨a, b, c⟩ := step_in h.q h.e hc h9
  refine ⟨by have := h.le; omega, a, b, fun k k1 k2 => ?_⟩
  by_cases e : k = ((i : Int) + 1)
  · rw [e, f_eS hi c, h.f i h.le (Int.le_refl _)]; omega
  · exact h.f k k1 (by omega)
theorem Ins.esc {j0 : Int} {i : Nat} (h : Ins s g j0 i) (hi : i + 1 < s.size) (h9 : bt s i = 92) : Ins s g j0 (i + 2) := by
  obtain ⟨a, b, c⟩ := step_bs h.q h.e h9
  obtain ⟨a2, b2, c2⟩ := step_esc a b
  refine ⟨by have := h.le; omega, a2, b2, fun k k1 k2 => ?_⟩
  have f1 := f_eS (by omega) c
  have f2 := f_eS hi c2
  have f0 := h.f i h.le (Int.le_refl _)
  by_cases e : k = ((i : Int) + 1)
  · rw [e, f1, f0]; omega
  · by_cases e2 : k = ((i : Int) + 2)
    · rw [e2, show (i : Int) + 2 = ((i + 1 : Nat) : Int) + 1 by omega, f2, show ((i + 1 : Nat) : Int) = (i : Int) + 1 by omega, f1, f0]; omega
    · exact h.f k k1 (by omega)
theorem hex_plain {i : Nat} (h : 0 ≤ hexAt s i) : i < s.size ∧ bt s i ≠ 34 ∧ bt s i ≠ 92 := by
  have h1 := hexAt_lt h
  unfold hexAt at h
  rw [if_pos h1] at h
  unfold hexV at h
  refine ⟨by omega, ?_, ?_⟩ <;> intro e <;> rw [e] at h <;> simp at h
theorem Ins.hexs {j0 : Int} : ∀ (k : Nat) (n : Int) (i : Nat), 0 ≤ n → Ins s g j0 i → 0 ≤ (fourF s k n i).1 → ∃ e : Nat, (fourF s k n i).2 = e ∧ Ins s g j0 e
  | 0, _, i, _, h, _ => ⟨i, rfl, h⟩
  | k + 1, n, i, hn, h, hp => by
    unfold fourF at hp ⊢
    by_cases hx : hexAt s i < 0
    · rw [if_pos hx] at hp; simp at hp
    · rw [if_neg hx] at hp ⊢
      obtain ⟨p1, p2, p3⟩ := hex_plain (s := s) (i := i) (by omega)
      rw [show ((i : Int) + 1) = ((i + 1 : Nat) : Int) by omega] at hp ⊢
      exact Ins.hexs k _ (i + 1) (by omega) (h.step p1 p2 p3) hp
theorem Ins.escp {j0 : Int} {i : Nat} (h : Ins s g j0 i) (hi : i < s.size) (h9 : bt s i = 92) (hc : (escape s i).2.2 = 0) : ∃ e : Nat, (escape s i).2.1 = e ∧ Ins s g j0 e := by
  unfold Go.Proofs.YtdlkdecigpaaaaaGreatDoor.escape at hc ⊢
  by_cases c1 : 0 ≤ escAt s ((i : Int) + 1)
  · rw [if_pos c1]
    have := escAt_lt c1
    exact ⟨i + 2, by simp, h.esc (by omega) h9⟩
  · rw [if_neg c1] at hc ⊢
    by_cases c2 : isAt s ((i : Int) + 1) 117 = false
    · simp [if_pos c2] at hc
    · rw [if_neg c2] at hc ⊢
      have hl := isAt_lt (s := s) (i := (i : Int) + 1) (c := 117) (by simpa using c2)
      have h2 := h.esc (by omega) h9
      by_cases c3 : (four s ((i : Int) + 2)).1 < 0
      · simp [if_pos c3] at hc
      · rw [if_neg c3] at hc ⊢
        obtain ⟨e, e1, e2⟩ := Ins.hexs 4 0 (i + 2) (Int.le_refl _) h2 (by rw [show ((i + 2 : Nat) : Int) = (i : Int) + 2 by omega]; exact Int.not_lt.1 c3)
        rw [show ((i + 2 : Nat) : Int) = (i : Int) + 2 by omega] at e1
        have e1' : (four s ((i : Int) + 2)).2 = e := e1
        by_cases c4 : pointB (four s ((i : Int) + 2)).1 = true
        · rw [if_pos c4]; exact ⟨e, e1', e2⟩
        · rw [if_neg c4] at hc ⊢
          by_cases c5 : (four s ((i : Int) + 2)).1 < 56320 ∧ isAt s (four s ((i : Int) + 2)).2 92 = true ∧ isAt s ((four s ((i : Int) + 2)).2 + 1) 117 = true ∧ 56320 ≤ (four s ((four s ((i : Int) + 2)).2 + 2)).1 ∧ (four s ((four s ((i : Int) + 2)).2 + 2)).1 ≤ 57343
          · rw [if_pos c5]
            obtain ⟨_, d2, d3, d4, _⟩ := c5
            rw [e1'] at d2 d3 d4 ⊢
            have l3 := isAt_lt d3
            have b2 : bt s e = 92 := by unfold isAt at d2; rw [Bool.and_eq_true] at d2; simpa using d2.2
            have h3 := e2.esc (by omega) b2
            obtain ⟨e', f1, f2⟩ := Ins.hexs 4 0 (e + 2) (Int.le_refl _) h3 (by rw [show ((e + 2 : Nat) : Int) = (e : Int) + 2 by omega]; exact Int.le_trans (by omega) d4)
            rw [show ((e + 2 : Nat) : Int) = (e : Int) + 2 by omega] at f1
            exact ⟨e', f1, f2⟩
          · simp [if_neg c5] at hc
theorem Ins.steps {j0 : Int} : ∀ (k : Nat) {i : Nat}, Ins s g j0 i → i + k ≤ s.size → (∀ j : Nat, j < k → bt s ((i + j : Nat) : Int) ≠ 34 ∧ bt s ((i + j : Nat) : Int) ≠ 92) → Ins s g j0 (i + k)
  | 0, _, h, _, _ => h
  | k + 1, i, h, hl, hb => by
    have h0 := hb 0 (by omega)
    have h1 := h.step (by omega) h0.1 h0.2
    have := Ins.steps k h1 (by omega) (fun j hj => by have := hb (j + 1) (by omega); rw [show i + (j + 1) = i + 1 + j by omega] at this; exact this)
    rw [show i + 1 + k = i + (k + 1) by omega] at this
    exact this
theorem Ins.point {j0 : Int} {i : Nat} (h : Ins s g j0 i) (hc : bt s i ≠ 34) (h9 : bt s i ≠ 92) (hf : (first s i).2 ≠ 0) : ∃ e : Nat, (i : Int) + (first s i).2 = e ∧ Ins s g j0 e := by
  obtain ⟨k, hk1, hk, he, hok, _⟩ := first_ok hf
  have hr := first_range (s := s) (i := i)
  rw [he] at hr
  simp only at hr
  refine ⟨i + k, by rw [he]; simp, h.steps k (by omega) (fun j hj => ?_)⟩
  have hb : ∀ j : Nat, 1 ≤ j → j < k → 128 ≤ bt s ((i : Int) + j) := by
    intro j j1 j2
    rcases (by omega : k = 1 ∨ k = 2 ∨ k = 3 ∨ k = 4) with rfl | rfl | rfl | rfl
    · omega
    · rw [ok2, decide_eq_true_eq] at hok
      obtain rfl : j = 1 := by omega
      exact hok.2.2.2.1
    · rw [ok3, decide_eq_true_eq] at hok
      rcases (by omega : j = 1 ∨ j = 2) with rfl | rfl
      · exact hok.2.2.2.1
      · exact hok.2.2.2.2.2.1
    · rw [ok4, decide_eq_true_eq] at hok
      rcases (by omega : j = 1 ∨ j = 2 ∨ j = 3) with rfl | rfl | rfl
      · exact hok.2.2.2.1
      · exact hok.2.2.2.2.2.1
      · exact hok.2.2.2.2.2.2.2.1
  by_cases e : j = 0
  · subst e; exact ⟨hc, h9⟩
  · have := hb j (by omega) hj
    rw [show ((i + j : Nat) : Int) = (i : Int) + j by omega]
    exact ⟨by omega, by omega⟩
/-- A quoted text ends where the walk leaves it. -/
theorem Ins.txt {j0 : Int} : ∀ (k : Nat) {i : Nat} {acc : List Int}, Ins s g j0 i → (textF s k i acc).2.2 = 0 → ∃ e : Nat, (textF s k i acc).2.1 = (e : Int) + 1 ∧ e < s.size ∧ bt s e = 34 ∧ Ins s g j0 e
  | 0, i, acc, _, h => by simp [textF] at h
  | k + 1, i, acc, hI, h => by
    unfold textF at h ⊢
    by_cases c1 : ¬ (i : Int) < s.size ∨ bt s i < 32
    · rw [if_pos c1] at h; simp at h
    · rw [if_neg c1] at h ⊢
      by_cases c2 : bt s i = 34
      · rw [if_pos c2]; exact ⟨i, rfl, by omega, c2, hI⟩
      · rw [if_neg c2] at h ⊢
        by_cases c3 : bt s i = 92
        · rw [if_pos c3] at h ⊢
          by_cases c4 : (Go.Proofs.YtdlkdecigpaaaaaGreatDoor.escape s i).2.2 = 0
          · rw [if_pos c4] at h ⊢
            obtain ⟨e, e1, e2⟩ := hI.escp (by omega) c3 c4
            rw [e1] at h ⊢
            exact Ins.txt k e2 h
          · rw [if_neg c4] at h; exact absurd h c4
        · rw [if_neg c3] at h ⊢
          by_cases c4 : (first s i).2 = 0
          · rw [if_pos c4] at h; simp at h
          · rw [if_neg c4] at h ⊢
            obtain ⟨e, e1, e2⟩ := hI.point c2 c3 c4
            rw [e1] at h ⊢
            exact Ins.txt k e2 h
/-- The places between tokens. -/
def Out (s : ByteArray) (g : List Nat) (i : Int) : Prop := 0 ≤ i ∧ i ≤ s.size ∧ (stA s g i.toNat).q = false ∧ (stA s g i.toNat).e = false
theorem Out.nat {i : Int} (h : Out s g i) : ∃ j : Nat, i = j ∧ (stA s g j).q = false ∧ (stA s g j).e = false := ⟨i.toNat, by have := h.1; omega, h.2.2.1, h.2.2.2⟩
theorem out_mk {j : Nat} (hl : j ≤ s.size) (hq : (stA s g j).q = false) (he : (stA s g j).e = false) : Out s g j := ⟨by omega, by omega, by simpa using hq, by simpa using he⟩
theorem blankC_is {u : ByteArray} {j : Int} (h : j < u.size) : isBlank u j = blankC (bt u j) := by unfold isBlank isAt blankC; rw [decide_eq_true h]; simp
/-- Blanks are led to blanks. -/
theorem out_blank {j : Nat} (h : Out s g j) (hl : j < s.size) (hb : isBlank s j = true) : Out s g (j + 1 : Nat) ∧ ∀ k : Int, fB s g j ≤ k → k < fB s g ((j : Int) + 1) → isBlank (allB s g) k = true := by
  obtain ⟨j', e, hq, he⟩ := h.nat
  obtain rfl : j' = j := by omega
  have hbc : blankC (bt s j') = true := by rw [← blankC_is (by omega)]; exact hb
  have h34 : bt s j' ≠ 34 := fun e => by rw [e] at hbc; simp [blankC] at hbc
  obtain ⟨a, b, _⟩ := step_out hq he h34
  refine ⟨out_mk (by omega) a b, fun k k1 k2 => ?_⟩
  have hf := f_lt s g (i := (j' : Int) + 1) (by omega) (by omega)
  rw [blankC_is (by omega)]
  rw [f_next s g hl] at k2
  by_cases e : k = fB s g j'
  · rw [e, all_bt s g hl]; exact hbc
  · have := gap_bt s g hl (k := (k - fB s g j' - 1).toNat) (by omega)
    rw [show fB s g j' + 1 + ((k - fB s g j' - 1).toNat : Int) = k by omega] at this
    rw [this]
    exact gapB_blank s g j' (by omega)
theorem f_ge {i : Int} (h0 : 0 ≤ i) (h1 : i ≤ s.size) : 0 ≤ fB s g i := (f_lt s g h0 h1).1
theorem out_run : ∀ (k : Nat) {j : Nat}, s.size - j = k → Out s g j → ∃ e : Nat, blanks s j = e ∧ j ≤ e ∧ e ≤ s.size ∧ Out s g e ∧ fB s g j ≤ fB s g e ∧ ∀ x : Int, fB s g j ≤ x → x < fB s g e → isBlank (allB s g) x = true
  | 0, j, hk, h => by
    have hl := h.2.1
    refine ⟨j, blanks_at (blank_end (by omega)), Nat.le_refl _, by omega, h, Int.le_refl _, fun x a b => by omega⟩
  | k + 1, j, hk, h => by
    cases hb : isBlank s j with
    | false => exact ⟨j, blanks_at hb, Nat.le_refl _, by omega, h, Int.le_refl _, fun x a b => by omega⟩
    | true =>
      obtain ⟨a, b⟩ := out_blank h (by omega) hb
      obtain ⟨e, e1, e2, e3, e4, e5, e6⟩ := out_run k (j := j + 1) (by omega) a
      have hf := f_next s g (j := j) (by omega)
      have hst : blanks s j = blanks s ((j : Int) + 1) := upTo_step (by omega) hb (by omega)
      rw [show ((j : Int) + 1) = ((j + 1 : Nat) : Int) by omega] at hst hf b
      refine ⟨e, by rw [hst]; exact e1, by omega, e3, e4, by omega, fun x x1 x2 => ?_⟩
      by_cases hx : x < fB s g ((j + 1 : Nat) : Int)
      · exact b x x1 hx
      · exact e6 x (by omega) x2
/-- What is written is alike. -/
theorem blank_ali (s : ByteArray) (g : List Nat) : Ali s (allB s g) (fB s g) (Out s g) where
  lo := fun h => ⟨h.1, h.2.1⟩
  fu := fun h0 h1 => f_lt s g h0 h1
  by_ := fun {j} h0 h1 => by have := all_bt s g (j := j.toNat) (by omega); rw [show ((j.toNat : Nat) : Int) = j by omega] at this; exact this
  en := .inr (end_bt s g)
  bl := fun {i} h hq => by
    obtain ⟨j, rfl, _, _⟩ := h.nat
    obtain ⟨e, e1, e2, e3, e4, e5, e6⟩ := out_run _ rfl h
    rw [e1] at hq ⊢
    refine ⟨?_, e4⟩
    have hf := f_lt s g (i := (e : Int)) (by omega) (by omega)
    have h0 := f_ge (g := g) h.1 h.2.1
    refine upTo_is _ h0 e5 rfl e6 (by omega) ?_
    rw [blankC_is hf.2, all_bt s g (by omega), ← blankC_is (by omega), ← e1]
    exact blanks_stop (by omega)
  be := fun {i} h hq => by
    obtain ⟨j, rfl, _, _⟩ := h.nat
    obtain ⟨e, e1, e2, e3, e4, e5, e6⟩ := out_run _ rfl h
    rw [e1] at hq
    obtain rfl : e = s.size := by omega
    left
    have hf := f_lt s g (i := (s.size : Int)) (by omega) (by omega)
    have h0 := f_ge (g := g) h.1 h.2.1
    have hz := all_size s g
    have hfe : fB s g s.size = (outB s g s.size).size := by unfold fB; rw [show ((s.size : Int).toNat) = s.size by omega]
    refine upTo_is _ h0 (by omega) rfl (fun x x1 x2 => ?_) (Int.le_refl _) (blank_end (Int.le_refl _))
    by_cases hx : x < fB s g s.size
    · exact e6 x x1 hx
    · rw [show x = fB s g s.size by omega, blankC_is hf.2, end_bt s g]; rfl
  nx := fun {i} h hl hb hc => by
    obtain ⟨j, rfl, hq, he⟩ := h.nat
    obtain ⟨a, b, c⟩ := step_out hq he hc
    have hlj : j < s.size := by omega
    refine ⟨f_eS hlj (c (by rw [← blankC_is (by omega)]; exact hb)), ?_⟩
    have := out_mk (g := g) (j := j + 1) (by omega) a b
    rw [show ((j + 1 : Nat) : Int) = (j : Int) + 1 by omega] at this
    exact this
  qt := fun {i} h hq hc => by
    obtain ⟨j, rfl, hq0, he0⟩ := h.nat
    have hl := isAt_lt hq
    have h34 : bt s j = 34 := by unfold isAt at hq; rw [Bool.and_eq_true] at hq; simpa using hq.2
    have hlj : j < s.size := by omega
    obtain ⟨a, b, c⟩ := step_open hq0 he0 h34
    have f1 := f_eS hlj c
    have hins : Ins s g j (j + 1) := ⟨by omega, a, b, fun k k1 k2 => by
      by_cases e : k = (j : Int)
      · rw [e]; omega
      · rw [show k = (j : Int) + 1 by omega, f1]; omega⟩
    have ht : (textOf s j).2.2 = 0 := by
      unfold strF at hc
      split at hc
      · assumption
      · exact hc
    have hst : (strF s j).1.stop = (textOf s j).2.1 := by unfold strF; rw [if_pos ht]
    unfold textOf textAt at ht hst
    rw [show ((j : Int) + 1) = ((j + 1 : Nat) : Int) by omega] at ht hst
    obtain ⟨e, e1, e2, e3, e4⟩ := Ins.txt _ hins ht
    rw [e1] at hst
    obtain ⟨a2, b2, c2⟩ := step_close e4.q e4.e e3
    have f2 := f_eS e2 c2
    have f3 := e4.f e e4.le (Int.le_refl _)
    rw [hst]
    refine ⟨fun k k1 k2 => ?_, ?_⟩
    · by_cases hk : k = (e : Int) + 1
      · rw [hk, f2, f3]; omega
      · exact e4.f k k1 (by omega)
    · have := out_mk (g := g) (j := e + 1) (by omega) a2 b2
      rw [show ((e + 1 : Nat) : Int) = (e : Int) + 1 by omega] at this
      exact this
end
end Go.Proofs.YtdlkdecigpaaaaaGreatDoor
