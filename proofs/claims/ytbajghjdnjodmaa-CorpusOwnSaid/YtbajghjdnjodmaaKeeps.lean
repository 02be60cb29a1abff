/- What a call leaves as it was: all old blocks but some. -/
import Derived.Test.YtbajghjdnjodmaaBase
namespace Go.Proofs.Ytbajghjdnjodmaa
set_option linter.unusedVariables false
set_option linter.unusedSimpArgs false
open Go.RowKit

/-- w' is w with new blocks; of the old ones, those of S alone may have turned. -/
structure Keeps (S : List Nat) (w w' : World) : Prop where
  os : w'.os = w.os
  tape : w'.tape = w.tape
  output : w'.output = w.output
  size : w.heap.size ≤ w'.heap.size
  block : ∀ k, k < w.heap.size → k ∉ S → w'.heap[k]? = w.heap[k]?
section
variable {S S' : List Nat} {w w1 w2 : World}
theorem Keeps.refl (S : List Nat) (w : World) : Keeps S w w := ⟨rfl, rfl, rfl, Nat.le_refl _, fun _ _ _ => rfl⟩
theorem Keeps.trans (h : Keeps S w w1) (k : Keeps S w1 w2) : Keeps S w w2 :=
  ⟨k.os.trans h.os, k.tape.trans h.tape, k.output.trans h.output, Nat.le_trans h.size k.size, fun i hi hn => (k.block i (Nat.lt_of_lt_of_le hi h.size) hn).trans (h.block i hi hn)⟩
theorem Keeps.mono (h : Keeps S w w1) (hs : ∀ k, k ∈ S → k < w.heap.size → k ∈ S') : Keeps S' w w1 :=
  ⟨h.os, h.tape, h.output, h.size, fun i hi hn => h.block i hi fun hm => hn (hs i hm hi)⟩
/-- A further step that may turn blocks that are new since w, too. -/
theorem Keeps.step (h : Keeps S w w1) (k : Keeps S' w1 w2) (hs : ∀ b, b ∈ S' → b < w.heap.size → b ∈ S) : Keeps S w w2 :=
  ⟨k.os.trans h.os, k.tape.trans h.tape, k.output.trans h.output, Nat.le_trans h.size k.size, fun i hi hn => (k.block i (Nat.lt_of_lt_of_le hi h.size) fun hm => hn (hs i hm hi)).trans (h.block i hi hn)⟩
theorem Keeps.drew (h : Keeps S w w1) : Keeps S w w1.drew := ⟨h.os, h.tape, h.output, h.size, h.block⟩
theorem Keeps.drewN (h : Keeps S w w1) (n : Nat) : Keeps S w (w1.drewN n) := ⟨h.os, h.tape, h.output, h.size, h.block⟩
theorem Keeps.alloc (h : Keeps S w w1) (o : Obj) : Keeps S w (w1.alloc o) :=
  ⟨h.os, h.tape, h.output, Nat.le_trans h.size (by rw [World.size_alloc]; omega), fun i hi hn => (Below.heap_alloc w1 o i (Nat.lt_of_lt_of_le hi h.size)).trans (h.block i hi hn)⟩
theorem Keeps.set (h : Keeps S w w1) {p : Addr} (hp : p.block ∈ S ∨ w.heap.size ≤ p.block) (v : Value) : Keeps S w (w1.setCell p v) :=
  ⟨h.os, h.tape, h.output, by rw [World.size_setCell]; exact h.size, fun i hi hn => (Below.heap_setCell w1 p v i (by
    rcases hp with hp | hp
    · exact fun e => hn (e ▸ hp)
    · omega)).trans (h.block i hi hn)⟩
theorem Keeps.below (h : Below w.heap.size w w1) : Keeps S w w1 := ⟨h.os, h.tape, h.output, h.size, fun i hi _ => h.block i hi⟩
theorem Keeps.to_below {B : Nat} (h : Keeps S w w1) (hB : B ≤ w.heap.size) (hs : ∀ k, k ∈ S → B ≤ k) : Below B w w1 :=
  ⟨h.os, h.tape, h.output, h.size, fun i hi => h.block i (Nat.lt_of_lt_of_le hi hB) fun hm => by have := hs i hm; omega⟩
theorem Keeps.nil_below (h : Keeps [] w w1) : Below w.heap.size w w1 := h.to_below (Nat.le_refl _) (by simp)
theorem Keeps.heap (h : Keeps S w w1) {b : Nat} {o : Obj} (hb : w.heap[b]? = some o) (hn : b ∉ S) : w1.heap[b]? = some o := (h.block b (hk_lt hb) hn).trans hb
theorem Keeps.same (h : Keeps [] w w1) {b : Nat} {o : Obj} (hb : w.heap[b]? = some o) : w1.heap[b]? = some o := h.heap hb (by simp)
end
end Go.Proofs.Ytbajghjdnjodmaa
