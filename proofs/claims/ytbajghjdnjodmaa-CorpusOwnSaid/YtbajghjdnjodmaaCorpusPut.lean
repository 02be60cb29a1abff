/- Put, of an entry without slices. -/
import Derived.Test.YtbajghjdnjodmaaCorpusOne
namespace Go.Proofs.Ytbajghjdnjodmaa
set_option linter.unusedVariables false
set_option linter.unusedSimpArgs false
open Go.RowKit

/-- What a lookup of a name comes to, where all entries are without slices: there or not, and what it has. -/
def LookF (l : List Ent) (nm : ByteArray) (fd : Bool) (k : Int) (b : Bool) (n : Int) (s : ByteArray) (has : Bool) (st : ByteArray) : Prop :=
  ((findE nm l 0).map (·.2)).getD (flatV 0 false 0 ⟨#[]⟩ false ⟨#[]⟩) = flatV k b n s has st ∧ (findE nm l 0).isSome = fd
theorem lookF_none {l : List Ent} {nm : ByteArray} (h : findE nm l 0 = none) : LookF l nm false 0 false 0 ⟨#[]⟩ false ⟨#[]⟩ := by simp [LookF, h]
theorem lookF_some {l : List Ent} {nm : ByteArray} {i : Nat} {k : Int} {b : Bool} {n : Int} {s : ByteArray} {has : Bool} {st : ByteArray} (h : findE nm l 0 = some (i, flatV k b n s has st)) : LookF l nm true k b n s has st := by simp [LookF, h]
theorem run_lookF {l : List Ent} {nm : ByteArray} {fd : Bool} {k : Int} {b : Bool} {n : Int} {s : ByteArray} {has : Bool} {st : ByteArray} {m c : Nat} {W : World} (h : LookF l nm fd k b n s has st) (hm : W.heap[m]? = some (.map (ents l) c)) :
    (Instr.lookup 67 (.map (some m)) (.string nm) true).run Try.prog W = .ok (.tuple #[flatV k b n s has st, .bool fd]) W := by
  have := run_lookS (P := Try.prog) Try.underlying67 Try.underlying9 Try.zeroValue33 hm nm
  rw [this]
  obtain ⟨h1, h2⟩ := h
  rw [show Value.agg #[Value.int IntKind.i64 0, Value.bool false, Value.int IntKind.i64 0, Value.string { data := #[] }, Value.slice none 0 0, Value.slice none 0 0, Value.bool false, Value.string { data := #[] }, Value.slice none 0 0] = flatV 0 false 0 ⟨#[]⟩ false ⟨#[]⟩ from rfl, h1, h2]

section
variable (g m c : Nat) (l : List Ent) (nm : ByteArray) (k : Int) (b : Bool) (n : Int) (s : ByteArray) (has : Bool) (st : ByteArray) (fd : Bool) (k0 : Int) (b0 : Bool) (n0 : Int) (s0 : ByteArray) (has0 : Bool) (st0 : ByteArray) (w : World)
set_option maxRecDepth 20000 in
set_option maxHeartbeats 1000000 in
theorem put_form (hg : w.heap[g]? = some (.cells #[.map (some m)] 69 (0, 0))) (hm : w.heap[m]? = some (.map (ents l) c)) (hs : nm.size ≤ 9223372036854775807) (hF : LookF l nm fd k0 b0 n0 s0 has0 st0) (hnm : isNameB nm = false) :
    Calls Try.prog 11 #[.pointer (some ⟨g, 0, none⟩), .string nm, flatV k b n s has st] w
      fun e w' => e = .returned (.int .i64 1) ∧ Below w.heap.size w w' := by
  have hgW := cell_blk (hk_alloc hg (.cells (flatA k b n s has st) 33))
  have HL := Lib.hid (run_lookF hF (hk_alloc hm (.cells (flatA k b n s has st) 33)))
  clear hm hg hF
  have HL2 := HL.out
  go_enter Try.func11, Try.ntmps11
  go_wp2_with (first | (go_at_call 12; refine (isname_any _ _ ‹_›).mono ?_; rintro e w' ⟨rfl, rfl⟩))
  go_ret
  exact ⟨rfl, by repeat (first | exact Below.refl _ _ | refine bl_alloc ?_ _ | refine bl_set ?_ (by simp; done) _ | refine bl_set ?_ (by simp; omega) _)⟩
/-- Behind the lookup: a world of which the map's handle, the map, and the entry's box are known. -/
def AtPut (g m c : Nat) (l : List Ent) (A : Array Value) (w W : World) : Prop :=
  W.heap[g]? = some (.cells #[.map (some m)] 69 (0, 0)) ∧ W.heap[m]? = some (.map (ents l) c) ∧ W.heap[w.heap.size]? = some (.cells A 33 (0, 0)) ∧ Below w.heap.size w W
theorem put_end {w W w1 : World} {m c c' : Nat} {l l' : List Ent} (h : W.heap[m]? = some (.map (ents l) c)) (hb : Below w.heap.size w W) (hb1 : Below W.drew.heap.size W.drew w1) :
    (setMap w1 m l' c').heap[m]? = some (.map (ents l') c') ∧ w.grownBy (setMap w1 m l' c') (some m) := by
  have h1 : w1.heap[m]? = some (.map (ents l) c) := hk_below (hk_drew h) hb1
  have hb2 : Below W.heap.size W w1 := ⟨hb1.os, hb1.tape, hb1.output, hb1.size, hb1.block⟩
  have h2 := bl_step hb hb2
  exact ⟨setMap_heap (hk_lt h1), h2.os, h2.tape, h2.output, by rw [setMap_size]; exact h2.size, fun j hj hne => by
    rw [setMap_other (fun e => hne (by rw [e]))]; exact h2.block j hj⟩
set_option maxRecDepth 20000 in
set_option maxHeartbeats 1000000 in
theorem put_full (hg : w.heap[g]? = some (.cells #[.map (some m)] 69 (0, 0))) (hm : w.heap[m]? = some (.map (ents l) c)) (hs : nm.size ≤ 9223372036854775807) (hF : LookF l nm false k0 b0 n0 s0 has0 st0) (hnm : isNameB nm = true) (hl : l.length = 64) :
    Calls Try.prog 11 #[.pointer (some ⟨g, 0, none⟩), .string nm, flatV k b n s has st] w
      fun e w' => e = .returned (.int .i64 22) ∧ Below w.heap.size w w' := by
  have hgW := cell_blk (hk_alloc hg (.cells (flatA k b n s has st) 33))
  have HL := Lib.hid (run_lookF hF (hk_alloc hm (.cells (flatA k b n s has st) 33)))
  have HM := Lib.hid hm
  have HG := Lib.hid hg
  have HN := Lib.hid hl
  have hgs := hk_lt hg
  have hms := hk_lt hm
  have HL2 := HL.out
  clear hm hg hF hl
  go_enter Try.func11, Try.ntmps11
  go_upto_block 0 with (fail)
  clear HL2 hgW HL
  refine abs_world (F := AtPut g m c l (flatA k b n s has st) w) ⟨hk_alloc (hk_alloc HG.out _) _, hk_alloc (hk_alloc HM.out _) _, hk_alloc (new_blk _ _) _, bl_alloc (bl_alloc (Below.refl _ _) _) _⟩ ?_
  rintro W ⟨a1, a2, a3, a4⟩
  have c1 := cell_blk a1
  have c3 := cell_blk a3
  have hlen := fun ty => run_lenS (P := Try.prog) (t := 67) Try.underlying67 a2 ty
  rw [HN.out] at hlen
  have A4 := Lib.hid a4
  clear a1 a2 a3 a4
  go_wp2_with (first | (go_at_call 12; refine (isname_any _ _ ‹_›).mono ?_; rintro e w' ⟨rfl, rfl⟩))
  go_ret
  exact ⟨rfl, A4.out⟩
set_option maxRecDepth 20000 in
set_option maxHeartbeats 1000000 in
theorem put_ok (hg : w.heap[g]? = some (.cells #[.map (some m)] 69 (0, 0))) (hm : w.heap[m]? = some (.map (ents l) c)) (hs : nm.size ≤ 9223372036854775807) (hF : LookF l nm fd k0 b0 n0 s0 has0 st0) (hnm : isNameB nm = true) (hl : fd = true ∨ l.length ≠ 64) :
    Calls Try.prog 11 #[.pointer (some ⟨g, 0, none⟩), .string nm, flatV k b n s has st] w
      fun e w' => e = .returned (.int .i64 0) ∧ w'.heap[m]? = some (.map (ents (putE l nm (flatV k b n s has st) c)) (putC l nm c)) ∧ w.grownBy w' (some m) := by
  have hgW := cell_blk (hk_alloc hg (.cells (flatA k b n s has st) 33))
  have HL := Lib.hid (run_lookF hF (hk_alloc hm (.cells (flatA k b n s has st) 33)))
  have HM := Lib.hid hm
  have HG := Lib.hid hg
  have HN := Lib.hid hl
  have hgs := hk_lt hg
  have hms := hk_lt hm
  have HL2 := HL.out
  clear hm hg hF hl
  go_enter Try.func11, Try.ntmps11
  go_upto_block 0 with (fail)
  clear HL2 hgW HL
  refine abs_world (F := AtPut g m c l (flatA k b n s has st) w) ⟨hk_alloc (hk_alloc HG.out _) _, hk_alloc (hk_alloc HM.out _) _, hk_alloc (new_blk _ _) _, bl_alloc (bl_alloc (Below.refl _ _) _) _⟩ ?_
  rintro W ⟨a1, a2, a3, a4⟩
  have c1 := cell_blk a1
  have c3 := cell_blk a3
  have hlen := fun ty => run_lenS (P := Try.prog) (t := 67) Try.underlying67 a2 ty
  have A4 := Lib.hid a4
  have A2 := Lib.hid a2
  have A1 := Lib.hid a1
  clear a1 a2 a3 a4
  have hlf : fd = false → (((l.length : Int) == 64) = false) := by
    intro h; rcases HN.out with q | q
    · rw [h] at q; cases q
    · simp; omega
  cases fd
  · have hl2 := hlf rfl
    go_upto_region 6 with (first | (go_at_call 12; refine (isname_any _ _ ‹_›).mono ?_; rintro e w' ⟨rfl, rfl⟩))
    go_region_with (go_at_call 29; refine (copied_flat _ _ _ _ _ _ _).mono ?_; rintro e w1 ⟨rfl, hb1⟩; have hU := run_putS (P := Try.prog) Try.underlying67 Try.underlying9 (hk_below (hk_drew A2.out) hb1) nm (flatV k b n s has st); have HB := Lib.hid hb1; have hC := cell_blk (hk_below (hk_drew A1.out) hb1))
    all_goals
      (refine ‹∀ (a : Act) (w : World), Code.wp _ _ _ a w → _› _ _ ?_)
      clear hU hC
      go_wp2
      go_ret
      exact ⟨rfl, put_end A2.out A4.out HB.out⟩
  · go_upto_region 6 with (first | (go_at_call 12; refine (isname_any _ _ ‹_›).mono ?_; rintro e w' ⟨rfl, rfl⟩))
    go_region_with (go_at_call 29; refine (copied_flat _ _ _ _ _ _ _).mono ?_; rintro e w1 ⟨rfl, hb1⟩; have hU := run_putS (P := Try.prog) Try.underlying67 Try.underlying9 (hk_below (hk_drew A2.out) hb1) nm (flatV k b n s has st); have HB := Lib.hid hb1; have hC := cell_blk (hk_below (hk_drew A1.out) hb1))
    all_goals
      (refine ‹∀ (a : Act) (w : World), Code.wp _ _ _ a w → _› _ _ ?_)
      clear hU hC
      go_wp2
      go_ret
      exact ⟨rfl, put_end A2.out A4.out HB.out⟩
end
end Go.Proofs.Ytbajghjdnjodmaa
