/- append onto a slice of the call's own, of whatever slice's elements: none, nil's, or more. Rows, and what is left of them. -/
import Derived.Deep.Upon
import Derived.Deep.AppendLies
import Derived.Shelf.Abstract
import Derived.Test.YtdlkdecigpaaaaaGreatDoorMp3
namespace Go.Proofs.YtdlkdecigpaaaaaGreatDoor
set_option linter.unusedVariables false
set_option linter.unusedSimpArgs false
open Go.RowKit

section
variable {P : Program} {t e : TypeId} {z : Value} {size bytes : Nat}
/-- What is known of an element type. -/
structure Elem (P : Program) (t e : TypeId) (z : Value) (size bytes : Nat) : Prop where
  ht : P.underlying t = some (.slice e)
  hi : (P.info? e).map (fun i => (i.zero, i.size, i.bytes)) = some (some z, size, bytes)
  hz : z.cells.size = size
  hp : 0 < size
theorem run_append_sl (E : Elem P t e z size bytes) (ty : TypeId) {w : World} {base : Nat} {v : Value} {n : Nat} {xs : List Value} (hown : w.ownsRow base e size v n xs) {S : Nat → Prop} {x : Value} {m : Nat} {news : List Value} (hx : Sl w S size x m news)
    (h1 : ∀ u ∈ news, u.oneCell' = true) (h63 : n + m ≤ maxLen) (hbytes : (n + m) * bytes ≤ 140737488355328) (hbase : base ≤ w.heap.size) :
    ∃ v' w', (Builtin.append_ #[t, t] ty #[v, x]).run P w = .ok v' w' ∧ w'.ownsRow base e size v' (n + m) (xs ++ news) ∧ w.grownBy w' v.ownBlock ∧ (v'.ownBlock = v.ownBlock ∨ v'.ownBlock = some w.heap.size) := by
  obtain ⟨i0, hi, hz0, hz1, hz2⟩ := info_parts E.hi
  obtain ⟨a, c, rfl, hc, hn⟩ := hx.shape
  have hgen : ∀ ad : Addr, a = some ad → (∀ j u, news[j]? = some u → w.cell? (ad.add j) = some u) → ∃ v' w', (Builtin.append_ #[t, t] ty #[v, .slice a m c]).run P w = .ok v' w' ∧ w'.ownsRow base e size v' (n + m) (xs ++ news) ∧ w.grownBy w' v.ownBlock ∧ (v'.ownBlock = v.ownBlock ∨ v'.ownBlock = some w.heap.size) := by
    rintro ad rfl hnews
    obtain ⟨v', w', k1, k2, k3, _, k5⟩ := run_append_own_at (P := P) w base t ty e i0 z size bytes E.ht hi hz0 hz1 hz2 E.hz E.hp v n xs hown ad m c news hx.len hnews h1 h63 hbytes hbase
    exact ⟨v', w', k1, k2, k3, k5⟩
  by_cases hm : 0 < m
  · obtain ⟨g, o, c', hv, _, _, _, hcells⟩ := hx.at hm
    cases hv
    refine hgen _ rfl fun j u hj => ?_
    have hadd : (⟨g, o, none⟩ : Addr).add j = ⟨g, o + j, none⟩ := by unfold Addr.add; split <;> simp_all
    rw [hadd]; exact hcells j u hj
  · obtain rfl : m = 0 := by omega
    obtain rfl := hx.empty
    cases a with
    | some ad => exact hgen ad rfl fun j u hj => by simp at hj
    | none =>
      obtain rfl := hn rfl
      have hsh : ∃ b sc, v = .slice b n sc ∧ n ≤ sc := by
        rcases hown.2 with ⟨h, h0⟩ | ⟨g, cap, cur, h, _, _, h4, _⟩
        · subst h0; exact ⟨_, _, h, Nat.le_refl _⟩
        · exact ⟨_, _, h, h4⟩
      obtain ⟨b, sc, rfl, hle⟩ := hsh
      refine ⟨_, w, run_append_nothing (P := P) w t t ty e i0 E.ht hi b n sc hle _ (Src.ofNil w E.ht 0), by simpa using hown, ⟨rfl, rfl, rfl, Nat.le_refl _, fun _ _ _ => rfl⟩, .inl rfl⟩
theorem wp_append_sl {o : Oper} {a : Act} {K : Act → World → Prop} {Q : Exit → Act → World → Prop} (s y : Operand) (t0 : TypeId) (ho : o.op = .call { callee := .builtin .append, args := #[s, y], argTypes := #[t0, t0] }) (htt : t0 = t)
    (E : Elem P t e z size bytes) {w : World} {base : Nat} {v : Value} {n : Nat} {xs : List Value} {S : Nat → Prop} {x : Value} {m : Nat} {news : List Value} (hs : a.eval s = v) (hy : a.eval y = x) (hown : w.ownsRow base e size v n xs) (hx : Sl w S size x m news)
    (h1 : ∀ u ∈ news, u.oneCell' = true) (h63 : n + m ≤ maxLen) (hbytes : (n + m) * bytes ≤ 140737488355328) (hbase : base ≤ w.heap.size)
    (h : ∀ v' w', w'.ownsRow base e size v' (n + m) (xs ++ news) → w.grownBy w' v.ownBlock → (v'.ownBlock = v.ownBlock ∨ v'.ownBlock = some w.heap.size) → K (a.put o.dst v') w') : o.wp P a w K Q := by
  subst htt
  obtain ⟨v', w', hr, h2, h3, h4⟩ := run_append_sl E o.type hown hx h1 h63 hbytes hbase
  unfold Oper.wp execOp
  simp only [ho, resolve, invoke, builtin, Sem.run_bind, Sem.run_pure, Result.andThen_ok, List.map_toArray, List.map_cons, List.map_nil, hs, hy, hr]
  exact h v' w' h2 h3 h4
theorem wpList_append_sl {ops : Array Oper} {rest : List Oper} {o : Oper} {a : Act} {Q : Exit → Act → World → Prop} (hgd : o.guard = none) (s y : Operand) (t0 : TypeId) (ho : o.op = .call { callee := .builtin .append, args := #[s, y], argTypes := #[t0, t0] }) (htt : t0 = t)
    (E : Elem P t e z size bytes) {w : World} {base : Nat} {v : Value} {n : Nat} {xs : List Value} {S : Nat → Prop} {x : Value} {m : Nat} {news : List Value} (hs : a.eval s = v) (hy : a.eval y = x) (hown : w.ownsRow base e size v n xs) (hx : Sl w S size x m news)
    (h1 : ∀ u ∈ news, u.oneCell' = true) (h63 : n + m ≤ maxLen) (hbytes : (n + m) * bytes ≤ 140737488355328) (hbase : base ≤ w.heap.size)
    (h : ∀ v' w', w'.ownsRow base e size v' (n + m) (xs ++ news) → w.grownBy w' v.ownBlock → (v'.ownBlock = v.ownBlock ∨ v'.ownBlock = some w.heap.size) → wpList P ops Q rest (a.put o.dst v') w') : wpList P ops Q (o :: rest) a w :=
  wpList_plain hgd fun _ hK => wp_append_sl s y t0 ho htt E hs hy hown hx h1 h63 hbytes hbase fun v' w' h2 h3 h4 => hK _ _ (h v' w' h2 h3 h4)
theorem step_append_sl {ops : Array Oper} {o : Oper} {a : Act} {K : Act → World → Prop} {Q : Exit → Act → World → Prop} {E' : Prop} (hgd : o.guard = none) (s y : Operand) (t0 : TypeId) (ho : o.op = .call { callee := .builtin .append, args := #[s, y], argTypes := #[t0, t0] }) (htt : t0 = t)
    (E : Elem P t e z size bytes) {w : World} {base : Nat} {v : Value} {n : Nat} {xs : List Value} {S : Nat → Prop} {x : Value} {m : Nat} {news : List Value} (hs : a.eval s = v) (hy : a.eval y = x) (hown : w.ownsRow base e size v n xs) (hx : Sl w S size x m news)
    (h1 : ∀ u ∈ news, u.oneCell' = true) (h63 : n + m ≤ maxLen) (hbytes : (n + m) * bytes ≤ 140737488355328) (hbase : base ≤ w.heap.size)
    (h : ∀ v' w', w'.ownsRow base e size v' (n + m) (xs ++ news) → w.grownBy w' v.ownBlock → (v'.ownBlock = v.ownBlock ∨ v'.ownBlock = some w.heap.size) → K (a.put o.dst v') w') :
    if Region.wanted o (yielded ops a.tmps) = true then Oper.wp P o a w K Q else E' := by
  have hw : Region.wanted o (yielded ops a.tmps) = true := by simp [Region.wanted, hgd]
  rw [if_pos hw]
  exact wp_append_sl s y t0 ho htt E hs hy hown hx h1 h63 hbytes hbase h
end
theorem one_str (l : List ByteArray) : ∀ u ∈ l.map Value.string, u.oneCell' = true := by
  intro u hu; obtain ⟨_, _, rfl⟩ := List.mem_map.1 hu; rfl
theorem one_int (l : List Int) : ∀ u ∈ l.map (Value.int .i64), u.oneCell' = true := by
  intro u hu; obtain ⟨_, _, rfl⟩ := List.mem_map.1 hu; rfl
/-- An empty row of the call's own. -/
theorem own_none (w : World) (e : TypeId) (size : Nat) {base : Nat} (hb : base ≤ w.heap.size) : (w.alloc (.cells #[] e)).ownsRow base e size (.slice (some ⟨w.heap.size, 0, none⟩) 0 0) 0 [] := by
  refine ⟨by simp, .inr ⟨_, 0, #[], rfl, hb, new_blk _ _, Nat.le_refl _, by decide, by simp, by simp⟩⟩
theorem hk_grow {w w' : World} {b : Nat} {o : Obj} {row : Option Nat} (h : w.heap[b]? = some o) (hg : w.grownBy w' row) (hne : some b ≠ row) : w'.heap[b]? = some o := (hg.block b (hk_lt h) hne).trans h
theorem own_slice {w : World} {base : Nat} {e : TypeId} {size : Nat} {v : Value} {n : Nat} {xs : List Value} (h : w.ownsRow base e size v n xs) : ∃ A cap, v = .slice A n cap := by
  rcases h.2 with ⟨hv, h0⟩ | ⟨g, cap, cur, hv, hb, _⟩
  · subst h0; exact ⟨_, _, hv⟩
  · exact ⟨_, _, hv⟩
theorem new_blk1 (w : World) (o o' : Obj) : ((w.alloc o).alloc o').heap[w.heap.size + 1]? = some o' := by
  have := new_blk (w.alloc o) o'
  rwa [World.size_alloc] at this
/-- A block's content, and its cells. -/
def Blk (b : Nat) (A : Array Value) (t : TypeId) (W : World) : Prop := W.heap[b]? = some (.cells A t (0, 0)) ∧ ∀ j, W.cell? ⟨b, j, none⟩ = A[j]?
theorem blk_of {b : Nat} {A : Array Value} {t : TypeId} {W : World} (h : W.heap[b]? = some (.cells A t (0, 0))) : W.heap[b]? = some (.cells A t (0, 0)) ∧ ∀ j, W.cell? ⟨b, j, none⟩ = A[j]? := ⟨h, cell_blk h⟩
theorem Sl.of_row {w : World} {base : Nat} {e : TypeId} {size n : Nat} {v : Value} {cs : List Value} (h : w.ownsRow base e size v n cs) {S : Nat → Prop} (hS : ∀ g, base ≤ g → g < w.heap.size → v.ownBlock = some g → S g) : Sl w S size v n cs := by
  refine (Sl.of_own (base := base) (by exact h)).into' ?_ 
  intro g hg hl hv
  exact hS g hg hl hv
theorem six_set {W : World} {B : Nat} {t : TypeId} {z0 z1 z2 z3 z4 z5 : Value} (h : W.heap[B]? = some (.cells #[z0, z1, z2, z3, z4, z5] t (0, 0))) (a0 a1 a2 a3 a4 a5 : Value) :
    ((((((W.setCell ⟨B, 0, none⟩ a0).setCell ⟨B, 1, none⟩ a1).setCell ⟨B, 2, none⟩ a2).setCell ⟨B, 3, none⟩ a3).setCell ⟨B, 4, none⟩ a4).setCell ⟨B, 5, none⟩ a5).heap[B]? = some (.cells #[a0, a1, a2, a3, a4, a5] t (0, 0)) :=
  set_to (set_to (set_to (set_to (set_to (set_to h 0 a0 rfl) 1 a1 rfl) 2 a2 rfl) 3 a3 rfl) 4 a4 rfl) 5 a5 rfl
/-- Behind an append onto an empty row of the call's own. -/
theorem app_new {w W0 w1 : World} {row size n base : Nat} {e : TypeId} {v : Value} {news : List Value} (hW0 : Below w.heap.size w W0) (hrow : base ≤ row) (hbs : w.heap.size ≤ base) (hg : W0.grownBy w1 (Value.slice (some ⟨row, 0, none⟩) 0 0).ownBlock)
    (ho : w1.ownsRow base e size v (0 + n) ([] ++ news)) (hb : v.ownBlock = (Value.slice (some ⟨row, 0, none⟩) 0 0).ownBlock ∨ v.ownBlock = some W0.heap.size) :
    Below w.heap.size w w1 ∧ (∀ box, box ≠ row → box ≠ W0.heap.size → Sl w1 (fun g => base ≤ g ∧ g ≠ box) size v n news) ∧ (∀ b o, b ≠ row → W0.heap[b]? = some o → w1.heap[b]? = some o) ∧ W0.heap.size ≤ w1.heap.size := by
  rw [Nat.zero_add, List.nil_append] at ho
  refine ⟨hW0.grown hg hW0.size (fun k ek => by simp only [Value.ownBlock, Option.some.injEq] at ek; omega), fun box h1 h2 => Sl.of_row ho fun g g1 g2 g3 => ⟨g1, fun e => ?_⟩, fun b o hb h => hk_grow h hg (by simp [Value.ownBlock, hb]), hg.size⟩
  subst e
  rw [g3] at hb
  simp [Value.ownBlock] at hb
  omega
theorem kc_six {W : World} {b B : Nat} (a0 a1 a2 a3 a4 a5 : Value) : Kc (fun g => b ≤ g ∧ g ≠ B) W ((((((W.setCell ⟨B, 0, none⟩ a0).setCell ⟨B, 1, none⟩ a1).setCell ⟨B, 2, none⟩ a2).setCell ⟨B, 3, none⟩ a3).setCell ⟨B, 4, none⟩ a4).setCell ⟨B, 5, none⟩ a5) :=
  (((((kc_set (fun h => h.2 rfl) _).trans (kc_set (fun h => h.2 rfl) _)).trans (kc_set (fun h => h.2 rfl) _)).trans (kc_set (fun h => h.2 rfl) _)).trans (kc_set (fun h => h.2 rfl) _)).trans (kc_set (fun h => h.2 rfl) _)
theorem own_below {w w1 : World} {base : Nat} {e : TypeId} {size n : Nat} {v : Value} {xs : List Value} (h : w.ownsRow base e size v n xs) (hb : Below w.heap.size w w1) : w1.ownsRow base e size v n xs :=
  h.kept (row := none) ⟨hb.os, hb.tape, hb.output, hb.size, fun k hk _ => hb.block k hk⟩ (by cases v.ownBlock <;> simp)
theorem own_drew {w : World} {base : Nat} {e : TypeId} {size n : Nat} {v : Value} {xs : List Value} (h : w.ownsRow base e size v n xs) : w.drew.ownsRow base e size v n xs := h
theorem own_not {w : World} {base : Nat} {e : TypeId} {size n : Nat} {v : Value} {xs : List Value} (h : w.ownsRow base e size v n xs) {b : Nat} (hb : w.heap.size ≤ b) : v.ownBlock ≠ some b := fun k => by have := (h.lt b k).2; omega
theorem new_blk2 (w : World) (o o' o2 : Obj) : (((w.alloc o).alloc o').alloc o2).heap[w.heap.size + 2]? = some o2 := by
  have := new_blk ((w.alloc o).alloc o') o2
  rwa [World.size_alloc, World.size_alloc] at this
/-- A call of a Go function, by its contract, as a step of a region that draws. -/
theorem step_call {P : Program} {ops : Array Oper} {o : Oper} {a : Act} {w : World} {K : Act → World → Prop} {Q : Exit → Act → World → Prop} {E' : Prop} (hgd : o.guard = none) (f : FuncId) (x : Operand) (t : TypeId)
    (ho : o.op = .call { callee := .value (.func f), args := #[x], argTypes := #[t] }) (he : ∀ args w, (callFunc f args).run P w = .ok (.enter f args) w) {u : Value} (hu : a.eval x = u) {R : Ending → World → Prop} (hC : Calls P f #[u] w R)
    (h : ∀ e w', R e w' → ∃ v, e = .returned v ∧ K (a.put o.dst v) w') : if Region.wanted o (yielded ops a.tmps) = true then Oper.wp P o a w K Q else E' := by
  have hw : Region.wanted o (yielded ops a.tmps) = true := by simp [Region.wanted, hgd]
  rw [if_pos hw]
  unfold Oper.wp
  have hf : a.eval (.func f) = .func (.func f) #[] #[] := rfl
  simp [execOp, ho, resolve, invoke, hf, hu, he, Result.andThen, Deferred.ofValue]
  refine hC.mono ?_
  intro e w' hR
  obtain ⟨v, rfl, hK⟩ := h e w' hR
  exact hK
theorem have_then {p q : Prop} (h : p) (k : p → q) : q := k h
theorem own_here {W : World} {g : Nat} {e : TypeId} {base : Nat} (size : Nat) (h : W.heap[g]? = some (.cells #[] e (0, 0))) (hb : base ≤ g) : W.ownsRow base e size (.slice (some ⟨g, 0, none⟩) 0 0) 0 [] :=
  ⟨by simp, .inr ⟨g, 0, #[], rfl, hb, h, Nat.le_refl _, by decide, by simp, by simp⟩⟩
theorem six_lt {w : World} {S : Nat → Prop} {l : List VT} {cs : List Value} (h : Rows (VT.Six w S) l cs) : Rows (VT.Six w (fun g => S g ∧ g < w.heap.size)) l cs :=
  six_go (Kc.refl _ _) (fun _ _ _ _ h1 h2 => ⟨h1, hk_lt h2⟩) h
theorem VT.Rep.lt {w : World} {S : Nat → Prop} {T : VT} {vi vk : Value} (h : T.Rep w S vi vk) : T.Rep w (fun g => S g ∧ g < w.heap.size) vi vk :=
  h.into fun _ _ _ _ h1 h2 => ⟨h1, hk_lt h2⟩
theorem Sl.lt {w : World} {S : Nat → Prop} {size n : Nat} {v : Value} {cs : List Value} (h : Sl w S size v n cs) : Sl w (fun g => S g ∧ g < w.heap.size) size v n cs :=
  h.into fun _ _ _ _ h1 h2 => ⟨h1, hk_lt h2⟩
/-- One element in a block of its own. -/
theorem Sl.one_of {w : World} {S : Nat → Prop} {g : Nat} {cs : Array Value} {t : TypeId} (h : w.heap[g]? = some (.cells cs t (0, 0))) (hS : S g) {size : Nat} (hs : cs.size = size) : Sl w S size (.slice (some ⟨g, 0, none⟩) 1 1) 1 cs.toList :=
  ⟨by simp [hs], _, _, rfl, Nat.le_refl _, fun h => (by cases h), fun _ => ⟨g, 0, rfl, hS, cs, t, _, h, fun j u hj => by simpa using hj, fun j _ h => Nat.not_lt_zero _ h.2⟩⟩
theorem Sl.one {w : World} {S : Nat → Prop} {size : Nat} {v : Value} {n : Nat} {cs : List Value} (h : Sl w S size v n cs) : v.oneCell' = true := by
  obtain ⟨a, c, rfl, _⟩ := h.shape; rfl
/-- The six cells of an item of a slice of values. -/
theorem six_cells {w : World} {S : Nat → Prop} {l : List VT} {cs : List Value} {g o : Nat} (hr : Rows (VT.Six w S) l cs) (hc : ∀ j u, cs[j]? = some u → w.cell? ⟨g, o + j, none⟩ = some u) {i : Nat} (hi : i < l.length) :
    ∃ vi vk, l[i].Rep w S vi vk ∧ w.cell? ⟨g, o + i * 6, none⟩ = some (.int .i64 l[i].k) ∧ w.cell? ⟨g, o + i * 6 + 1, none⟩ = some (.bool l[i].b) ∧ w.cell? ⟨g, o + i * 6 + 2, none⟩ = some (.int .i64 l[i].n) ∧
      w.cell? ⟨g, o + i * 6 + 3, none⟩ = some (.string l[i].s) ∧ w.cell? ⟨g, o + i * 6 + 4, none⟩ = some vi ∧ w.cell? ⟨g, o + i * 6 + 5, none⟩ = some vk := by
  obtain ⟨x, ⟨vi, vk, rfl, h2⟩, h3⟩ := hr.at six_len hi
  refine ⟨vi, vk, h2, hc _ _ (h3 0 (by omega)), ?_, ?_, ?_, ?_, ?_⟩
  · rw [Nat.add_assoc]; exact hc _ _ (h3 1 (by omega))
  · rw [Nat.add_assoc]; exact hc _ _ (h3 2 (by omega))
  · rw [Nat.add_assoc]; exact hc _ _ (h3 3 (by omega))
  · rw [Nat.add_assoc]; exact hc _ _ (h3 4 (by omega))
  · rw [Nat.add_assoc]; exact hc _ _ (h3 5 (by omega))

end Go.Proofs.YtdlkdecigpaaaaaGreatDoor
