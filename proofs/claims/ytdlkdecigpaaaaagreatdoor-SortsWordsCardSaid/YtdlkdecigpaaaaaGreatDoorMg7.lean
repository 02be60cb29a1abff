/- Slices of a call's own: one more element behind them; what is read of them. -/
import Derived.Maps.AppendAt
import Derived.Laws.OwnMore
import Derived.Test.YtdlkdecigpaaaaaGreatDoorMg1
namespace Go.Proofs.YtdlkdecigpaaaaaGreatDoor
set_option linter.unusedVariables false
set_option linter.unusedSimpArgs false
open Go.RowKit

section
variable {w w1 : World} {base : Nat} {e : TypeId} {size n : Nat} {v : Value} {xs : List Value}
theorem own_below (h : w.ownsRow base e size v n xs) (hb : Below w.heap.size w w1) : w1.ownsRow base e size v n xs :=
  h.kept (row := none) ⟨hb.os, hb.tape, hb.output, hb.size, fun k hk _ => hb.block k hk⟩ (by cases v.ownBlock <;> simp)
theorem own_drewN (h : w.ownsRow base e size v n xs) (m : Nat) : (w.drewN m).ownsRow base e size v n xs := h
theorem own_keeps {S : List Nat} (h : w.ownsRow base e size v n xs) (hk : Keeps S w w1) (hn : ∀ b, v.ownBlock = some b → b ∉ S) : w1.ownsRow base e size v n xs := by
  cases hv : v.ownBlock with
  | none => rcases h with ⟨h1, h2⟩; rcases h2 with ⟨rfl, rfl⟩ | ⟨g, cap, cur, rfl, _⟩
            · exact ⟨h1, .inl ⟨rfl, rfl⟩⟩
            · simp [Value.ownBlock] at hv
  | some b =>
    rcases h with ⟨h1, h2⟩
    rcases h2 with ⟨rfl, rfl⟩ | ⟨g, cap, cur, rfl, hb, hg, r⟩
    · simp [Value.ownBlock] at hv
    · simp [Value.ownBlock] at hv
      subst hv
      exact ⟨h1, .inr ⟨g, cap, cur, rfl, hb, hk.heap hg (hn g (by simp [Value.ownBlock])), r⟩⟩
theorem below_grown {w0 : World} (h : Below w0.heap.size w0 w) (hg : w.grownBy w1 v.ownBlock) (ho : w.ownsRow w0.heap.size e size v n xs) : Below w0.heap.size w0 w1 :=
  h.grown hg h.size (fun k hk => (ho.lt k hk).1)
end
theorem grown_alloc {w w1 : World} {o : Obj} {row : Option Nat} (h : (w.alloc o).grownBy w1 row) : w.grownBy w1 row :=
  ⟨h.os, h.tape, h.output, by have := h.size; rw [World.size_alloc] at this; omega, fun k hk hn => (h.block k (by rw [World.size_alloc]; omega) hn).trans (Below.heap_alloc w o k hk)⟩
/-- 'append(v, x)': the walk's world is the one with x's own box. -/
theorem app_one {P : Program} {ops : Array Oper} {rest : List Oper} {o : Oper} {a : Act} {Q : Exit → Act → World → Prop} {wr : World} (hgd : o.guard = none) (s y : Operand) (t : TypeId)
    (ho : o.op = .call { callee := .builtin .append, args := #[s, y], argTypes := #[t, t] }) {e : TypeId} {z : Value} {bytes : Nat} (ht : P.underlying t = some (.slice e))
    (hinfo : (P.info? e).map (fun i => (i.zero, i.size, i.bytes)) = some (some z, 1, bytes)) (hz : z.cells.size = 1) (base : Nat) (v : Value) (xs : List Value) (x : Value) (hs : a.eval s = v) (hy : a.eval y = .slice (some ⟨wr.heap.size, 0, none⟩) 1 1)
    (hx : x.oneCell' = true) (hown : wr.ownsRow base e 1 v xs.length xs) (hbase : base ≤ wr.heap.size) (hlen : (xs.length + 1) * bytes ≤ 140737488355328) (h63 : xs.length + 1 ≤ 9223372036854775807)
    (h : ∀ v' w', w'.ownsRow base e 1 v' (xs ++ [x]).length (xs ++ [x]) → wr.grownBy w' v.ownBlock → (∃ g cap, v' = .slice (some ⟨g, 0, none⟩) (xs.length + 1) cap) → wpList P ops Q rest (a.put o.dst v') w') :
    wpList P ops Q (o :: rest) a (wr.alloc (.cells #[x] e)) := by
  obtain ⟨i0, hi, hz0, hz1, hz2⟩ := info_parts hinfo
  refine wpList_append_own _ hgd s y t ho base e i0 z 1 bytes ht hi hz0 hz1 hz2 hz (by decide) v xs.length xs hs (hown.alloc _) ⟨wr.heap.size, 0, none⟩ 1 1 [x] hy rfl ?_ ?_ (by unfold maxLen; omega) hlen (by rw [World.size_alloc]; omega) ?_
  · intro j u hj
    match j, hj with
    | 0, hj =>
      simp at hj; subst hj
      exact cell_blk (new_blk wr (.cells #[x] e)) 0
    | j + 1, hj => simp at hj
  · intro u hu; simp at hu; subst hu; exact hx
  · intro v' w' ho' hg' hnil
    refine h v' w' (by simpa using ho') (grown_alloc hg') ?_
    rcases ho'.2 with ⟨_, hn⟩ | ⟨g, cap, cur, hv, _⟩
    · omega
    · exact ⟨g, cap, hv⟩
/-- What a slice of the call's own holds. -/
theorem own_cell {w : World} {base : Nat} {e : TypeId} {g n cap : Nat} {xs : List Value} (h : w.ownsRow base e 1 (.slice (some ⟨g, 0, none⟩) n cap) n xs) {j : Nat} {x : Value} (hj : xs[j]? = some x) : w.cell? ⟨g, j, none⟩ = some x := by
  have hl : j < xs.length := (List.getElem?_eq_some_iff.1 hj).1
  have := h.1
  rw [h.cellAt j (by omega)]; exact hj
theorem own_shape {w : World} {base : Nat} {e : TypeId} {size : Nat} {v : Value} {n : Nat} {xs : List Value} (h : w.ownsRow base e size v n xs) (hn : n ≠ 0) : ∃ g cap, v = .slice (some ⟨g, 0, none⟩) n cap ∧ base ≤ g := by
  rcases h.2 with ⟨_, h0⟩ | ⟨g, cap, cur, hv, hb, _⟩
  · exact absurd h0 hn
  · exact ⟨g, cap, hv, hb⟩
theorem own_slice {w : World} {base : Nat} {e : TypeId} {size : Nat} {v : Value} {n : Nat} {xs : List Value} (h : w.ownsRow base e size v n xs) : ∃ A cap, v = .slice A n cap := by
  rcases h.2 with ⟨hv, h0⟩ | ⟨g, cap, cur, hv, hb, _⟩
  · subst h0; exact ⟨_, _, hv⟩
  · exact ⟨_, _, hv⟩
abbrev intV (l : List Int) : List Value := l.map (Value.int .i64)
theorem intV_snoc (l : List Int) (x : Int) : intV l ++ [.int .i64 x] = intV (l ++ [x]) := by simp
theorem intV_at {l : List Int} {j : Nat} {x : Int} (h : l[j]? = some x) : (intV l)[j]? = some (.int .i64 x) := by simp [h]
end Go.Proofs.YtdlkdecigpaaaaaGreatDoor
