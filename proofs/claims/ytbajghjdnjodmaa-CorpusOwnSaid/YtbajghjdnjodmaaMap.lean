/- Maps keyed by strings, their entries told one by one: what a lookup, a store, a delete and len come to. -/
import Derived.Test.YtbajghjdnjodmaaBase
import Derived.Maps.Own
namespace Go.Proofs.Ytbajghjdnjodmaa
set_option linter.unusedVariables false
set_option linter.unusedSimpArgs false
open Go.RowKit

abbrev Ent := ByteArray × Value × Nat
def ent (e : Ent) : MapEntry := { key := .string e.1, val := e.2.1, born := e.2.2 }
def ents (l : List Ent) : Array MapEntry := (l.map ent).toArray
/-- The first entry of a key: its place, and its value. -/
def findE (s : ByteArray) : List Ent → Nat → Option (Nat × Value)
  | [], _ => none
  | e :: r, i => if s = e.1 then some (i, e.2.1) else findE s r (i + 1)
theorem findNow_ents (s : ByteArray) : ∀ (l : List Ent) (i : Nat), Instr.findNow .string (.string s) (l.map ent) i = some (findE s l i)
  | [], _ => rfl
  | e :: r, i => by
    simp only [List.map_cons, Instr.findNow, ent, Instr.sameNow, findE]
    by_cases h : s = e.1
    · rw [if_pos h, (MapKept.bytes_beq s e.1).2 h]
    · rw [if_neg h, show (s == e.1) = false from by cases hb : s == e.1 with | false => rfl | true => exact absurd ((MapKept.bytes_beq s e.1).1 hb) h]
      exact findNow_ents s r (i + 1)
theorem findE_ge {s : ByteArray} : ∀ {l : List Ent} {i : Nat} {x : Nat × Value}, findE s l i = some x → ∃ j, x.1 = i + j ∧ ∃ n, l[j]? = some (s, x.2, n)
  | [], _, _, h => by simp [findE] at h
  | e :: r, i, x, h => by
    unfold findE at h
    split at h
    · rename_i hs; cases h; exact ⟨0, rfl, e.2.2, by rw [hs]; rfl⟩
    · obtain ⟨j, h1, n, h2⟩ := findE_ge h; exact ⟨j + 1, by omega, n, by simpa using h2⟩

section
variable {P : Program} {w : World} {t k e : TypeId} {b c : Nat} {l : List Ent}
theorem run_findE (hk : P.underlying k = some .string) (s : ByteArray) : (Instr.findKey k (.string s) (ents l).toList).run P w = .ok (findE s l 0) w :=
  MapKept.run_findKey hk (by simpa [ents] using findNow_ents s l 0)
theorem run_checkS (hk : P.underlying k = some .string) (q : Bool) (s : ByteArray) : (Instr.checkKey q 10000 k (.string s)).run P w = .ok () w :=
  MapKept.run_checkKey (k := .string s) hk (by simp [MapKept.IsKey]) q 9999
/-- 'v, ok := m[s]'. -/
theorem run_lookS (ht : P.underlying t = some (.map k e)) (hk : P.underlying k = some .string) {z : Value} (hz : ∀ w, (zeroValue e).run P w = .ok z w) (hb : w.heap[b]? = some (.map (ents l) c)) (s : ByteArray) :
    (Instr.lookup t (.map (some b)) (.string s) true).run P w = .ok (.tuple #[((findE s l 0).map (·.2)).getD z, .bool (findE s l 0).isSome]) w := by
  have h1 := run_findE (P := P) (w := w) (l := l) hk s
  have h2 := fun q => run_checkS (P := P) (w := w) hk q s
  cases hf : findE s l 0 with
  | none => rw [hf] at h1; simp [Instr.lookup, run_underlying ht, MapKept.run_getObj_map hb, h1, h2, hz, Result.andThen]
  | some x => rw [hf] at h1; simp [Instr.lookup, run_underlying ht, MapKept.run_getObj_map hb, h1, h2, Result.andThen]
/-- 'len(m)'. -/
theorem run_lenS (ht : P.underlying t = some (.map k e)) (hb : w.heap[b]? = some (.map (ents l) c)) (ty : TypeId) : (Builtin.len_ #[t] ty #[.map (some b)]).run P w = .ok (.int .i64 l.length) w := by
  simp [Builtin.len_, run_underlying ht, MapKept.run_getObj_map hb, Result.andThen, ents, goInt]
end

/-- The world with a map's entries turned. -/
def setMap (w : World) (b : Nat) (l : List Ent) (c : Nat) : World := { w with heap := w.heap.setIfInBounds b (.map (ents l) c) }
/-- A key's value is stored: in its place, or behind all. -/
def putE (l : List Ent) (s : ByteArray) (v : Value) (c : Nat) : List Ent :=
  match findE s l 0 with
  | some (i, _) => l.modify i fun e => (s, v, e.2.2)
  | none => l ++ [(s, v, c)]
def putC (l : List Ent) (s : ByteArray) (c : Nat) : Nat := if (findE s l 0).isSome then c else c + 1
section
variable {P : Program} {w : World} {t k e : TypeId} {b c : Nat} {l : List Ent}
theorem run_putS (ht : P.underlying t = some (.map k e)) (hk : P.underlying k = some .string) (hb : w.heap[b]? = some (.map (ents l) c)) (s : ByteArray) (v : Value) :
    (Instr.mapUpdate t (.map (some b)) (.string s) v).run P w = .ok () (setMap w b (putE l s v c) (putC l s c)) := by
  have h1 := run_findE (P := P) (w := w) (l := l) hk s
  have h2 := fun q => run_checkS (P := P) (w := w) hk q s
  cases hf : findE s l 0 with
  | none =>
    rw [hf] at h1
    have hp : (ents l).push { key := .string s, val := v, born := c } = ents (l ++ [(s, v, c)]) := by simp [ents, ent]
    simp [Instr.mapUpdate, run_underlying ht, MapKept.run_getObj_map hb, h1, h2, MapKept.run_setObj_map _ hb, Result.andThen, setMap, putE, putC, hf, hp]
  | some x =>
    rw [hf] at h1
    obtain ⟨j, hj, n, hg⟩ := findE_ge hf
    obtain ⟨i, u⟩ := x
    simp only [Nat.zero_add] at hj
    subst hj
    have hgi : (ents l)[i]? = some { key := .string s, val := u, born := n } := by simp [ents, hg, ent]
    have hks : (Instr.keyThatStays (.string s) (.string s)).run P w = .ok (.string s) w := MapKept.run_keyThatStays (d := .string) (by simp [MapKept.IsKey])
    have hm : (ents l).modify i (fun e => { e with key := .string s, val := v }) = ents (l.modify i fun e => (s, v, e.2.2)) := by
      apply Array.toList_inj.1
      simp only [ents, Array.toList_modify]
      apply List.ext_getElem?
      intro q
      simp only [List.getElem?_modify, List.getElem?_map]
      cases l[q]? with
      | none => simp
      | some z => simp only [Option.map_some]; split <;> rfl
    simp [Instr.mapUpdate, run_underlying ht, MapKept.run_getObj_map hb, h1, h2, hgi, hks, MapKept.run_setObj_map _ hb, Result.andThen, setMap, putE, putC, hf, hm]
/-- 'delete(m, s)'. -/
def dropE (l : List Ent) (s : ByteArray) : List Ent :=
  match findE s l 0 with
  | some (i, _) => l.eraseIdx i
  | none => l
theorem run_dropS (ht : P.underlying t = some (.map k e)) (hk : P.underlying k = some .string) (hb : w.heap[b]? = some (.map (ents l) c)) (s : ByteArray) (kt ty : TypeId) :
    (Builtin.delete_ #[t, kt] ty #[.map (some b), .string s]).run P w = .ok (.tuple #[]) (setMap w b (dropE l s) c) := by
  have h1 := run_findE (P := P) (w := w) (l := l) hk s
  have h2 := fun q => run_checkS (P := P) (w := w) hk q s
  cases hf : findE s l 0 with
  | none =>
    rw [hf] at h1
    simp [Builtin.delete_, run_underlying ht, MapKept.run_getObj_map hb, h1, h2, MapKept.run_setObj_map _ hb, Result.andThen, setMap, dropE, hf]
  | some x =>
    rw [hf] at h1
    obtain ⟨j, hj, n, hg⟩ := findE_ge hf
    obtain ⟨i, u⟩ := x
    simp only [Nat.zero_add] at hj
    subst hj
    have hlt : i < l.length := (List.getElem?_eq_some_iff.1 hg).1
    have hm : (ents l).eraseIdxIfInBounds i = ents (l.eraseIdx i) := by
      apply Array.toList_inj.1
      simp [ents, Array.eraseIdxIfInBounds, hlt, List.eraseIdx_eq_take_drop_succ]
    simp [Builtin.delete_, run_underlying ht, MapKept.run_getObj_map hb, h1, h2, MapKept.run_setObj_map _ hb, Result.andThen, setMap, dropE, hf, hm]
end
theorem setMap_heap {w : World} {b : Nat} {l : List Ent} {c : Nat} (hb : b < w.heap.size) : (setMap w b l c).heap[b]? = some (.map (ents l) c) := by simp [setMap, hb]
theorem setMap_other {w : World} {b j : Nat} {l : List Ent} {c : Nat} (h : j ≠ b) : (setMap w b l c).heap[j]? = w.heap[j]? := by simp [setMap, Ne.symm h]
theorem setMap_size {w : World} {b : Nat} {l : List Ent} {c : Nat} : (setMap w b l c).heap.size = w.heap.size := by simp [setMap]
theorem setMap_below {w w1 : World} {B b : Nat} {l : List Ent} {c : Nat} (h : Below B w w1) (hb : B ≤ b) : Below B w (setMap w1 b l c) :=
  ⟨h.os, h.tape, h.output, by rw [setMap_size]; exact h.size, fun i hi => by rw [setMap_other (by omega)]; exact h.block i hi⟩
end Go.Proofs.Ytbajghjdnjodmaa
