/- The corpus's map: names and entries, as a sorted datum; what it says of a row of entries. -/
import Derived.Test.YtbajghjdnjodmaaDocAny
import Derived.Maps.RangeWalk
import Derived.Maps.Ext
import Derived.Maps.OwnSet
namespace Go.Proofs.Ytbajghjdnjodmaa
set_option linter.unusedVariables false
set_option linter.unusedSimpArgs false
open Go.RowKit

/-- An entry's nine cells. -/
structure EV where
  k : Int
  b : Bool
  n : Int
  s : ByteArray
  a1 : Option Addr
  n1 : Nat
  c1 : Nat
  a2 : Option Addr
  n2 : Nat
  c2 : Nat
  has : Bool
  st : ByteArray
  a3 : Option Addr
  n3 : Nat
  c3 : Nat
abbrev EV.val (e : EV) : Value := .agg #[.int .i64 e.k, .bool e.b, .int .i64 e.n, .string e.s, .slice e.a1 e.n1 e.c1, .slice e.a2 e.n2 e.c2, .bool e.has, .string e.st, .slice e.a3 e.n3 e.c3]
/-- How an entry reads: as itself. -/
def entL : List Value → Option EV
  | [.int q k, .bool b, .int r n, .string s, .slice a1 n1 c1, .slice a2 n2 c2, .bool has, .string st, .slice a3 n3 c3] => if q = .i64 ∧ r = .i64 then some ⟨k, b, n, s, a1, n1, c1, a2, n2, c2, has, st, a3, n3, c3⟩ else none
  | _ => none
def entR (v : Value) : Option (DataW Value × List MemPlace) :=
  match v with
  | .agg cs => (entL cs.toList).map fun e => (.held e.val, [])
  | _ => none
theorem entR_mk (e : EV) : entR e.val = some (.held e.val, []) := rfl
theorem entL_inv {l : List Value} {e : EV} (h : entL l = some e) : l = [.int .i64 e.k, .bool e.b, .int .i64 e.n, .string e.s, .slice e.a1 e.n1 e.c1, .slice e.a2 e.n2 e.c2, .bool e.has, .string e.st, .slice e.a3 e.n3 e.c3] := by
  unfold entL at h
  split at h
  · split at h
    · rename_i hq; obtain ⟨rfl, rfl⟩ := hq; cases h; rfl
    · cases h
  · cases h
theorem entR_inv {v : Value} {y : DataW Value × List MemPlace} (h : entR v = some y) : ∃ e : EV, v = e.val ∧ y = (.held e.val, []) := by
  unfold entR at h
  split at h
  · rename_i cs
    cases he : entL cs.toList with
    | none => rw [he] at h; cases h
    | some e =>
      rw [he] at h
      have := entL_inv he
      refine ⟨e, ?_, ?_⟩
      · congr 1
        rw [← Array.toList_inj, this]
      · cases h; rfl
  · cases h
theorem ent_val {w : World} {S : Nat → Prop} {e : ET} {vi vk vd : Value} (h : e.Cells w S vi vk vd) : ∃ v : EV, e.ent vi vk vd = v.val := by
  obtain ⟨a1, b1, a2, b2, a3, b3, rfl, rfl, rfl⟩ := cells_shape h
  exact ⟨⟨e.v.k, e.v.b, e.v.n, e.v.s, a1, _, b1, a2, _, b2, e.has, e.st, a3, _, b3⟩, rfl⟩
abbrev kl (nm : ByteArray) : Lit := .string nm.data.toList
theorem law_s : Maps.Keyed Try.prog 9 := Maps.string_keyed Try.underlying9
theorem key_s {nm : ByteArray} (h : nm.size ≤ maxLen) : keyOf Try.prog 9 (.string nm) = some (kl nm) := by
  simp [keyOf, Try.underlying9, mapKey, h]
theorem key_s_inv {key : Value} {l : Lit} (h : keyOf Try.prog 9 key = some l) : ∃ nm : ByteArray, key = .string nm ∧ l = kl nm ∧ nm.size ≤ maxLen := by
  cases key <;> simp [keyOf, Try.underlying9, mapKey] at h
  obtain ⟨hs, rfl⟩ := h
  exact ⟨_, rfl, rfl, hs⟩
theorem kl_inj {a b : ByteArray} (h : kl a = kl b) : a = b := by
  simp only [kl, Lit.string.injEq] at h
  cases a; cases b; simp only at h; rw [Array.toList_inj] at h; rw [h]
theorem kl_ne {a b : ByteArray} (h : a ≠ b) : kl a ≠ kl b := fun e => h (kl_inj e)
/-- Map block m holds just the entries of a row, each by itself in blocks of S. -/
def Syn (w : World) (S : Nat → Prop) (m : Nat) (l : List ET) : Prop :=
  ∃ D, w.ownsMap Try.prog 9 entR m 64 D ∧ Maps.size D = l.length ∧ (∀ nm : ByteArray, Maps.has D (kl nm) = (findF nm l 0).isSome) ∧
    ∀ e ∈ l, ∃ vi vk vd, (∀ zd, D.atKey (kl e.nm) zd = .held (e.ent vi vk vd)) ∧ e.Cells w S vi vk vd
theorem ownsMap_kept {w w' : World} {m n : Nat} {D : DataW Value} (h : w.ownsMap Try.prog 9 entR m n D) (k : w'.heap[m]? = w.heap[m]?) : w'.ownsMap Try.prog 9 entR m n D := by
  obtain ⟨es, c, hb, r⟩ := h; exact ⟨es, c, k.trans hb, r⟩
theorem Syn.go {w w' : World} {S S' : Nat → Prop} {m : Nat} {l : List ET} (h : Syn w S m l) (k : w'.heap[m]? = w.heap[m]?) (k2 : Kc S w w') (j : ∀ g x t fr, S g → w'.heap[g]? = some (.cells x t fr) → S' g) : Syn w' S' m l := by
  obtain ⟨D, h1, h2, h3, h4⟩ := h
  refine ⟨D, ownsMap_kept h1 k, h2, h3, fun e he => ?_⟩
  obtain ⟨vi, vk, vd, h5, h6⟩ := h4 e he
  exact ⟨vi, vk, vd, h5, h6.go k2 j⟩
theorem Syn.lt {w : World} {S : Nat → Prop} {m : Nat} {l : List ET} (h : Syn w S m l) : m < w.heap.size := by obtain ⟨D, h1, _⟩ := h; exact h1.lt
theorem Syn.below {w w' : World} {S : Nat → Prop} {m : Nat} {l : List ET} (h : Syn w S m l) (k : Below w.heap.size w w') : Syn w' S m l := h.go (k.block m h.lt) (kc_below k) fun _ _ _ _ h _ => h
theorem Syn.isMap {w : World} {S : Nat → Prop} {m : Nat} {l : List ET} (h : Syn w S m l) : ∃ es c, w.heap[m]? = some (.map es c) := by obtain ⟨D, ⟨es, c, h1, _⟩, _⟩ := h; exact ⟨es, c, h1⟩
/-- Nothing that lay before has turned, but one block. -/
structure But (m : Nat) (w w' : World) : Prop where
  os : w'.os = w.os
  tape : w'.tape = w.tape
  output : w'.output = w.output
  size : w.heap.size ≤ w'.heap.size
  block : ∀ j, j < w.heap.size → j ≠ m → w'.heap[j]? = w.heap[j]?
theorem But.refl (m : Nat) (w : World) : But m w w := ⟨rfl, rfl, rfl, Nat.le_refl _, fun _ _ _ => rfl⟩
theorem But.trans {m : Nat} {a b c : World} (h : But m a b) (k : But m b c) : But m a c :=
  ⟨k.os.trans h.os, k.tape.trans h.tape, k.output.trans h.output, Nat.le_trans h.size k.size, fun j hj hn => (k.block j (Nat.lt_of_lt_of_le hj h.size) hn).trans (h.block j hj hn)⟩
theorem but_below {m : Nat} {w w' : World} (h : Below w.heap.size w w') : But m w w' := ⟨h.os, h.tape, h.output, h.size, fun j hj _ => h.block j hj⟩
theorem but_grown {m : Nat} {w w' : World} (h : w.grownBy w' (some m)) : But m w w' := ⟨h.os, h.tape, h.output, h.size, fun j hj hn => h.block j hj (fun e => hn (Option.some.inj e))⟩
theorem but_kc {S : Nat → Prop} {m : Nat} {w w' : World} (h : But m w w') {es : Array MapEntry} {c : Nat} (hm : w.heap[m]? = some (.map es c)) : Kc S w w' := fun g x t fr _ hx =>
  (h.block g (hk_lt hx) (fun e => by rw [e, hm] at hx; cases hx)).trans hx
theorem but_blk {m b : Nat} {w w' : World} {o : Obj} (h : But m w w') (hb : w.heap[b]? = some o) (hn : b ≠ m) : w'.heap[b]? = some o := (h.block b (hk_lt hb) hn).trans hb
end Go.Proofs.Ytbajghjdnjodmaa
