/- Slices of structs that come in, opened: plain words for rows. -/
import Derived.ProofKit
import Derived.Deep.Slices
import Derived.Carry
import Derived.Test.YtdlkdecigpaaaaaGreatDoorMp3
namespace Go.Proofs.YtdlkdecigpaaaaaGreatDoor
set_option linter.unusedVariables false
set_option linter.unusedSimpArgs false
open Go.RowKit Go.WideShapes Go.ChangeShapes Go.Deep

theorem laid_out : laidOutB Tryz.prog = true := by kernel_rfl
section
variable {H : Type} {enc : TypeId × Value → H} {P : Program} {w : World} {base : Nat} {spare : Nat → Bool} {held : Bool}
theorem trod_struct5 {t : TypeId} {f0 f1 f2 f3 f4 : Field} {fuel : Nat} {cs : List Value} {x : DataW H × List MemPlace} (ht : P.underlying t = some (.struct #[f0, f1, f2, f3, f4])) (h : DataW.trod enc P w base spare held fuel t cs = some x) :
    ∃ y0 y1 y2 y3 y4 n, x.2 = y0.2 ++ (y1.2 ++ (y2.2 ++ (y3.2 ++ y4.2))) ∧ cs.length = P.cellsOf t ∧ DataW.trod enc P w base spare held n f0.type ((cs.drop f0.offset).take (P.cellsOf f0.type)) = some y0 ∧
      DataW.trod enc P w base spare held n f1.type ((cs.drop f1.offset).take (P.cellsOf f1.type)) = some y1 ∧ DataW.trod enc P w base spare held n f2.type ((cs.drop f2.offset).take (P.cellsOf f2.type)) = some y2 ∧
      DataW.trod enc P w base spare held n f3.type ((cs.drop f3.offset).take (P.cellsOf f3.type)) = some y3 ∧ DataW.trod enc P w base spare held n f4.type ((cs.drop f4.offset).take (P.cellsOf f4.type)) = some y4 := by
  obtain ⟨xs, n, _, rfl, hl, hlen, hf⟩ := DataW.trod_struct ht h
  match xs, hlen with
  | [y0, y1, y2, y3, y4], _ => exact ⟨y0, y1, y2, y3, y4, n, by simp, hl, by simpa using hf 0 f0 rfl, by simpa using hf 1 f1 rfl, by simpa using hf 2 f2 rfl, by simpa using hf 3 f3 rfl, by simpa using hf 4 f4 rfl⟩
theorem blk_of_cell {a : Addr} {v : Value} (h : w.cell? a = some v) : a.spot = none ∧ ∃ x t fr, w.heap[a.block]? = some (.cells x t fr) ∧ x[a.off]? = some v := by
  refine ⟨World.cell?_spot h, ?_⟩
  unfold World.cell? at h
  split at h
  · rename_i c t fr hc
    split at h
    · cases h
    · exact ⟨c, t, fr, hc, h⟩
  · cases h
theorem addr_off (a : Addr) (i : Nat) (h : a.spot = none) : a.add i = ⟨a.block, a.off + i, none⟩ := by
  obtain ⟨b, o, s⟩ := a
  simp only at h; subst h
  unfold Addr.add
  by_cases hi : i = 0 <;> simp [hi]
/-- No cell of these places is frozen. -/
def NoFrz (w : World) (ps : List MemPlace) : Prop := ∀ b o, MemPlace.cell b o ∈ ps → w.frozen? ⟨b, o, none⟩ = false
theorem NoFrz.sub {w : World} {ps qs : List MemPlace} (h : NoFrz w ps) (k : ∀ p ∈ qs, p ∈ ps) : NoFrz w qs := fun b o hp => h b o (k _ hp)
/-- A slice that comes in: a list of whatever its elements read as. -/
theorem sl_of_trod {α : Type} {R : α → List Value → Prop} {t e : TypeId} {size fuel : Nat} {v : Value} {x : DataW H × List MemPlace} (ht : P.underlying t = some (.slice e)) (hc : P.cellsOf e = size) (hs : 0 < size)
    (hz : NoFrz w x.2) (hR : ∀ n cs y, DataW.trod enc P w base (fun _ => true) held n e cs = some y → NoFrz w y.2 → cs.length = size → ∃ a, R a cs) (h : DataW.trod enc P w base (fun _ => true) held fuel t [v] = some x) :
    ∃ l : List α, l.length ≤ maxLen ∧ ∃ cs, Sl w (fun _ => True) size v l.length cs ∧ Rows R l cs := by
  rcases open_slice ht h with ⟨hv, _⟩ | ⟨a, len, cap, m, n, D, Pl, hv, hb, hl, hm, hmm, hxx, hx⟩
  · cases hv
    exact ⟨[], Nat.zero_le _, [], Sl.nil, rfl⟩
  · cases hv
    rw [hc] at hx hxx
    have hz2 : NoFrz w (MemPlace.row a (m * size) ++ (List.range m).flatMap Pl) := by rw [hxx] at hz; exact hz
    clear hz hxx
    simp only [if_true] at hmm
    subst hmm
    rcases Nat.eq_zero_or_pos len with rfl | hpos
    · exact ⟨[], Nat.zero_le _, [], ⟨by simp, _, _, rfl, hl, fun h => (by cases h), fun h => absurd h (Nat.lt_irrefl _)⟩, rfl⟩
    have hsp : a.spot = none := by
      obtain ⟨cs', k1, _⟩ := hx 0 (by omega)
      obtain ⟨_, k3, k4⟩ := World.cells?_some k1
      have := k4 0 hs
      rw [List.getElem?_eq_getElem (by omega)] at this
      have := World.cell?_spot this
      simpa [Addr.add] using this
    have hp : ∀ k, k ≤ len → ∃ (l : List α) (cs : List Value), l.length = k ∧ cs.length = k * size ∧ Rows R l cs ∧ ∀ j u, cs[j]? = some u → w.cell? ⟨a.block, a.off + j, none⟩ = some u := by
      intro k
      induction k with
      | zero => intro _; exact ⟨[], [], rfl, by simp, rfl, fun j u hj => by simp at hj⟩
      | succ k ih =>
        intro hk
        obtain ⟨l, cs, h1, h2, h3, h4⟩ := ih (by omega)
        obtain ⟨cs', k1, k2⟩ := hx k (by omega)
        obtain ⟨_, k3, k4⟩ := World.cells?_some k1
        obtain ⟨b, hb'⟩ := hR n cs' _ k2 (hz2.sub fun p hp => List.mem_append_right _ (List.mem_flatMap.2 ⟨k, List.mem_range.2 (by omega), hp⟩)) k3
        refine ⟨l ++ [b], cs ++ cs', by simp [h1], by rw [List.length_append, h2, k3, Nat.add_mul]; omega, h3.snoc hb', fun j u hj => ?_⟩
        by_cases hjl : j < cs.length
        · rw [List.getElem?_append_left hjl] at hj; exact h4 j u hj
        · rw [List.getElem?_append_right (by omega)] at hj
          have hjs : j - cs.length < size := by rw [← k3]; exact (List.getElem?_eq_some_iff.1 hj).1
          have := k4 _ hjs
          rw [hj, add_add, addr_off a _ hsp, h2] at this
          rw [show a.off + j = a.off + (k * size + (j - k * size)) from by rw [h2] at hjl; omega]
          exact this
    obtain ⟨l, cs, h1, h2, h3, h4⟩ := hp len (Nat.le_refl _)
    refine ⟨l, by omega, cs, ⟨by rw [h1]; exact h2, some a, m, by rw [h1], by omega, fun h => (by cases h), fun h0 => ?_⟩, h3⟩
    have hpos : 0 < cs.length := by rw [h2, ← h1]; exact Nat.mul_pos h0 hs
    have hce := h4 0 _ (List.getElem?_eq_getElem hpos)
    obtain ⟨_, y, ty, fr, hb1, hb2⟩ := blk_of_cell hce
    refine ⟨a.block, a.off, ?_, trivial, y, ty, fr, hb1, fun j u hj => ?_, fun j hj hfr => ?_⟩
    · obtain ⟨b, o, s⟩ := a; simp only at hsp; subst hsp; rfl
    · have hcj := h4 j u hj
      obtain ⟨_, y', ty', fr', hb1', hb2'⟩ := blk_of_cell hcj
      rw [hb1] at hb1'; cases hb1'
      exact hb2'
    · have hlm : len * size ≤ m * size := Nat.mul_le_mul_right _ hl
      have hmem : MemPlace.cell a.block (a.off + j) ∈ MemPlace.row a (m * size) ++ (List.range m).flatMap Pl := List.mem_append_left _ (by
        simp only [MemPlace.row, List.mem_map, List.mem_range]
        exact ⟨j, by rw [h2] at hj; omega, rfl⟩)
      have := hz2 _ _ hmem
      simp only [World.frozen?, hb1, Bool.and_eq_false_iff, decide_eq_false_iff_not] at this
      omega
/-- A row of elements that are one cell each. -/
theorem rows_map {α : Type} {f : α → Value} {Q : α → Prop} : ∀ {l : List α} {cs : List Value}, Rows (fun a x => Q a ∧ x = [f a]) l cs → cs = l.map f ∧ ∀ a ∈ l, Q a
  | [], _, h => ⟨h, fun _ h => (by cases h)⟩
  | a :: l, _, ⟨x, r, h1, ⟨h2, h3⟩, h4⟩ => by
    obtain ⟨k1, k2⟩ := rows_map h4
    refine ⟨by rw [h1, h3, k1]; rfl, fun b hb => ?_⟩
    cases hb with
    | head => exact h2
    | tail _ hb => exact k2 b hb
end
end Go.Proofs.YtdlkdecigpaaaaaGreatDoor
