/- Put together: Slices of a call's own: one more element behind them; what is read of them; The document's figures: less, both, clean; The document's figures: clean, Of; The document's Of: an integer's figures. -/
import Derived.Maps.AppendAt
import Derived.Laws.OwnMore
import Derived.Test.YtdlkdecigpaaaaaGreatDoorMp1
namespace Go.Proofs.YtdlkdecigpaaaaaGreatDoor
set_option linter.unusedVariables false
set_option linter.unusedSimpArgs false
open Go.RowKit

section
variable {w w1 : World} {base : Nat} {e : TypeId} {size n : Nat} {v : Value} {xs : List Value}
theorem own_below (h : w.ownsRow base e size v n xs) (hb : Below w.heap.size w w1) : w1.ownsRow base e size v n xs :=
  h.kept (row := none) ⟨hb.os, hb.tape, hb.output, hb.size, fun k hk _ => hb.block k hk⟩ (by cases v.ownBlock <;> simp)
theorem own_drewN (h : w.ownsRow base e size v n xs) (m : Nat) : (w.drewN m).ownsRow base e size v n xs := h
theorem own_keeps {S : List Nat} (h : w.ownsRow base e size v n xs) (hk : Keeps S w w1) (hn : ∀ b, v.ownBlock = some b → b ∉ S) : w1.ownsRow base e size v n xs := by
  cases hv : v.ownBlock with
  | none => rcases h with ⟨h1, h2⟩; rcases h2 with ⟨rfl, rfl⟩ | ⟨g, cap, cur, rfl, _⟩
            · exact ⟨h1, .inl ⟨rfl, rfl⟩⟩
            · simp [Value.ownBlock] at hv
  | some b =>
    rcases h with ⟨h1, h2⟩
    rcases h2 with ⟨rfl, rfl⟩ | ⟨g, cap, cur, rfl, hb, hg, r⟩
    · simp [Value.ownBlock] at hv
    · simp [Value.ownBlock] at hv
      subst hv
      exact ⟨h1, .inr ⟨g, cap, cur, rfl, hb, hk.heap hg (hn g (by simp [Value.ownBlock])), r⟩⟩
theorem below_grown {w0 : World} (h : Below w0.heap.size w0 w) (hg : w.grownBy w1 v.ownBlock) (ho : w.ownsRow w0.heap.size e size v n xs) : Below w0.heap.size w0 w1 :=
  h.grown hg h.size (fun k hk => (ho.lt k hk).1)
end
theorem grown_alloc {w w1 : World} {o : Obj} {row : Option Nat} (h : (w.alloc o).grownBy w1 row) : w.grownBy w1 row :=
  ⟨h.os, h.tape, h.output, by have := h.size; rw [World.size_alloc] at this; omega, fun k hk hn => (h.block k (by rw [World.size_alloc]; omega) hn).trans (Below.heap_alloc w o k hk)⟩
/-- 'append(v, x)': the walk's world is the one with x's own box. -/
theorem app_one {P : Program} {ops : Array Oper} {rest : List Oper} {o : Oper} {a : Act} {Q : Exit → Act → World → Prop} {wr : World} (hgd : o.guard = none) (s y : Operand) (t : TypeId)
    (ho : o.op = .call { callee := .builtin .append, args := #[s, y], argTypes := #[t, t] }) {e : TypeId} {z : Value} {bytes : Nat} (ht : P.underlying t = some (.slice e))
    (hinfo : (P.info? e).map (fun i => (i.zero, i.size, i.bytes)) = some (some z, 1, bytes)) (hz : z.cells.size = 1) (base : Nat) (v : Value) (xs : List Value) (x : Value) (hs : a.eval s = v) (hy : a.eval y = .slice (some ⟨wr.heap.size, 0, none⟩) 1 1)
    (hx : x.oneCell' = true) (hown : wr.ownsRow base e 1 v xs.length xs) (hbase : base ≤ wr.heap.size) (hlen : (xs.length + 1) * bytes ≤ 140737488355328) (h63 : xs.length + 1 ≤ 9223372036854775807)
    (h : ∀ v' w', w'.ownsRow base e 1 v' (xs ++ [x]).length (xs ++ [x]) → wr.grownBy w' v.ownBlock → (∃ g cap, v' = .slice (some ⟨g, 0, none⟩) (xs.length + 1) cap) → wpList P ops Q rest (a.put o.dst v') w') :
    wpList P ops Q (o :: rest) a (wr.alloc (.cells #[x] e)) := by
  obtain ⟨i0, hi, hz0, hz1, hz2⟩ := info_parts hinfo
  refine wpList_append_own _ hgd s y t ho base e i0 z 1 bytes ht hi hz0 hz1 hz2 hz (by decide) v xs.length xs hs (hown.alloc _) ⟨wr.heap.size, 0, none⟩ 1 1 [x] hy rfl ?_ ?_ (by unfold maxLen; omega) hlen (by rw [World.size_alloc]; omega) ?_
  · intro j u hj
    match j, hj with
    | 0, hj =>
      simp at hj; subst hj
      exact cell_blk (new_blk wr (.cells #[x] e)) 0
    | j + 1, hj => simp at hj
  · intro u hu; simp at hu; subst hu; exact hx
  · intro v' w' ho' hg' hnil
    refine h v' w' (by simpa using ho') (grown_alloc hg') ?_
    rcases ho'.2 with ⟨_, hn⟩ | ⟨g, cap, cur, hv, _⟩
    · omega
    · exact ⟨g, cap, hv⟩
/-- What a slice of the call's own holds. -/
theorem own_cell {w : World} {base : Nat} {e : TypeId} {g n cap : Nat} {xs : List Value} (h : w.ownsRow base e 1 (.slice (some ⟨g, 0, none⟩) n cap) n xs) {j : Nat} {x : Value} (hj : xs[j]? = some x) : w.cell? ⟨g, j, none⟩ = some x := by
  have hl : j < xs.length := (List.getElem?_eq_some_iff.1 hj).1
  have := h.1
  rw [h.cellAt j (by omega)]; exact hj
theorem own_shape {w : World} {base : Nat} {e : TypeId} {size : Nat} {v : Value} {n : Nat} {xs : List Value} (h : w.ownsRow base e size v n xs) (hn : n ≠ 0) : ∃ g cap, v = .slice (some ⟨g, 0, none⟩) n cap ∧ base ≤ g := by
  rcases h.2 with ⟨_, h0⟩ | ⟨g, cap, cur, hv, hb, _⟩
  · exact absurd h0 hn
  · exact ⟨g, cap, hv, hb⟩
theorem own_slice {w : World} {base : Nat} {e : TypeId} {size : Nat} {v : Value} {n : Nat} {xs : List Value} (h : w.ownsRow base e size v n xs) : ∃ A cap, v = .slice A n cap := by
  rcases h.2 with ⟨hv, h0⟩ | ⟨g, cap, cur, hv, hb, _⟩
  · subst h0; exact ⟨_, _, hv⟩
  · exact ⟨_, _, hv⟩
abbrev intV (l : List Int) : List Value := l.map (Value.int .i64)
theorem intV_snoc (l : List Int) (x : Int) : intV l ++ [.int .i64 x] = intV (l ++ [x]) := by simp
theorem intV_at {l : List Int} {j : Nat} {x : Int} (h : l[j]? = some x) : (intV l)[j]? = some (.int .i64 x) := by simp [h]
end Go.Proofs.YtdlkdecigpaaaaaGreatDoor
namespace Go.Proofs.YtdlkdecigpaaaaaGreatDoor
set_option linter.unusedVariables false
set_option linter.unusedSimpArgs false
open Go.RowKit

/-- A slice of ints reads as a list. -/
def RdI (w : World) (v : Value) (l : List Int) : Prop :=
  ∃ (A : Option Addr) (c : Nat), v = .slice A l.length c ∧ l.length ≤ c ∧ c ≤ 9223372036854775807 ∧ ∀ j x, l[j]? = some x → ∃ g, A = some ⟨g, 0, none⟩ ∧ w.cell? ⟨g, j, none⟩ = some (.int .i64 x)
section
variable {w w1 : World} {v : Value} {l : List Int}
theorem RdI.below (h : RdI w v l) (hb : Below w.heap.size w w1) : RdI w1 v l := by
  obtain ⟨A, c, hv, hc, hm, hr⟩ := h
  refine ⟨A, c, hv, hc, hm, fun j x hx => ?_⟩
  obtain ⟨g, hg, hcell⟩ := hr j x hx
  exact ⟨g, hg, (hb.cell (p := ⟨g, j, none⟩) (World.block_lt_of_cell? w _ hcell)).trans hcell⟩
theorem RdI.drewN (h : RdI w v l) (n : Nat) : RdI (w.drewN n) v l := h
theorem RdI.of_own {base : Nat} {e : TypeId} (h : w.ownsRow base e 1 v l.length (intV l)) : RdI w v l := by
  rcases h.2 with ⟨rfl, hn⟩ | ⟨g, cap, cur, rfl, hb, hg, hc, hm, _⟩
  · have : l = [] := List.eq_nil_of_length_eq_zero hn
    subst this
    exact ⟨none, 0, rfl, by simp, by decide, fun j x hx => by simp at hx⟩
  · exact ⟨_, cap, rfl, hc, by unfold maxLen at hm; omega, fun j x hx => ⟨g, rfl, own_cell h (intV_at hx)⟩⟩
theorem RdI.open (h : RdI w v l) : ∃ A c, v = .slice A l.length c := by obtain ⟨A, c, hv, _⟩ := h; exact ⟨A, c, hv⟩
theorem RdI.len {A : Option Addr} {n c : Nat} (h : RdI w (.slice A n c) l) : n = l.length := by obtain ⟨A', c', hv, _⟩ := h; cases hv; rfl
theorem RdI.cell {A : Option Addr} {n c : Nat} (h : RdI w (.slice A n c) l) {j : Nat} {x : Int} (hx : l[j]? = some x) : ∃ g, A = some ⟨g, 0, none⟩ ∧ w.cell? ⟨g, j, none⟩ = some (.int .i64 x) := by
  obtain ⟨A', c', hv, _, _, hr⟩ := h; cases hv; exact hr j x hx
theorem RdI.take {A : Option Addr} {n c : Nat} (h : RdI w (.slice A n c) l) (k : Nat) (hk : k ≤ l.length) : RdI w (.slice A k c) (l.take k) := by
  obtain ⟨A', c', hv, hc, hm, hr⟩ := h
  cases hv
  refine ⟨A, c, by rw [List.length_take, Nat.min_eq_left hk], by rw [List.length_take]; omega, hm, fun j x hx => ?_⟩
  refine hr j x ?_
  rw [List.getElem?_take] at hx
  split at hx
  · exact hx
  · cases hx
theorem RdI.nil (w : World) : RdI w (.slice none 0 0) [] := ⟨none, 0, rfl, by simp, by decide, fun j x hx => by simp at hx⟩
theorem RdI.cap {A : Option Addr} {n c : Nat} (h : RdI w (.slice A n c) l) : l.length ≤ c ∧ c ≤ 9223372036854775807 := by obtain ⟨A', c', hv, hc, hm, _⟩ := h; cases hv; exact ⟨hc, hm⟩
end

theorem lessFrom_succ (a b : List Int) (k : Nat) : lessFrom a b (k + 1) = if dgt a k ≠ dgt b k then decide (dgt a k < dgt b k) else lessFrom a b k := rfl
set_option maxRecDepth 20000 in
set_option maxHeartbeats 2000000 in
theorem less2_any (a b : List Int) (va vb : Value) (w : World) (ha : RdI w va a) (hb : RdI w vb b) (hl : a.length ≤ 1000000) :
    Calls Tryz.prog 169 #[va, vb] w fun e w' => e = .returned (.bool (lessL a b)) ∧ Below w.heap.size w w' := by
  obtain ⟨A, ca, rfl⟩ := ha.open
  obtain ⟨B, cb, rfl⟩ := hb.open
  have HA := Lib.hid ha
  have HB := Lib.hid hb
  clear ha hb
  by_cases h : a.length = b.length
  · have hd : ((a.length : Int) != (b.length : Int)) = false := by rw [h]; simp
    have HR : Hid (lessL a b = lessFrom a b a.length) := Lib.hid (by unfold lessL; rw [if_neg (by omega)])
    generalize lessL a b = r at *
    have H := Lib.hid h
    clear h
    go_enter Tryz.func169, Tryz.ntmps169
    go_wp2
    clear hd
    go_loopw [5] (fun t W => ∃ k : Nat, k ≤ a.length ∧ t = .int .i64 (k - 1) ∧ Hid (r = lessFrom a b k ∧ Below w.heap.size w W)) (fun t _ => (intOf t + 1).toNat)
    case atStart => exact ⟨a.length, by omega, rfl, Lib.hid ⟨HR.out, Below.refl _ _⟩⟩
    case round =>
      obtain ⟨k, hk, rfl, HK⟩ := hrel
      cases k with
      | zero =>
        have HF : Hid (r = false) := Lib.hid HK.out.1
        go_wp2
        go_ret
        rw [HF.out]
        exact ⟨rfl, HK.out.2⟩
      | succ k =>
        have e1 : ((k + 1 : Nat) : Int) - 1 = k := by omega
        rw [e1]
        clear e1
        have HS := Lib.hid (HK.out.1.trans (lessFrom_succ a b k))
        obtain ⟨g1, hA, hc1⟩ := ((HA.out.below HK.out.2).cell (dgt_at (l := a) (i := k) (by omega)))
        obtain ⟨g2, hB, hc2⟩ := ((HB.out.below HK.out.2).cell (dgt_at (l := b) (i := k) (by have := H.out; omega)))
        subst hA
        subst hB
        have hka : (k : Int) < a.length := by omega
        have hkb : (k : Int) < b.length := by have := H.out; omega
        generalize dgt a k = x at *
        generalize dgt b k = y at *
        by_cases e : x = y
        · have hxy : (x != y) = false := by simp [e]
          have HN := Lib.hid (HS.out.trans (if_neg (by simp [e])))
          clear e
          go_upto_region 6 with (fail)
          go_quiet (fail)
          go_wp2
          go_roundw
          case rel => exact ⟨k, by omega, rfl, Lib.hid ⟨HN.out, bl_drewN HK.out.2 _⟩⟩
          case measure => simp [intOf] <;> omega
        · have hxy : (x != y) = true := by simp [e]
          have HN := Lib.hid (HS.out.trans (if_pos e))
          clear e
          go_upto_region 6 with (fail)
          go_quiet (fail)
          go_upto_region 7 with (fail)
          go_quiet (fail)
          go_wp2
          go_ret
          rw [HN.out]
          exact ⟨rfl, bl_drewN (bl_drewN HK.out.2 _) _⟩
  · have hd : ((a.length : Int) != (b.length : Int)) = true := by simp; omega
    have HR : Hid (lessL a b = decide (a.length < b.length)) := Lib.hid (by unfold lessL; rw [if_pos h])
    generalize lessL a b = r at *
    clear h
    go_enter Tryz.func169, Tryz.ntmps169
    go_wp2
    go_ret
    exact ⟨ret_bool (by rw [HR.out]; try simp), Below.refl _ _⟩

theorem info_i : (Tryz.prog.info? 3).map (fun i => (i.zero, i.size, i.bytes)) = some (some (.int .i64 0), 1, 8) := by kernel_rfl
theorem stepF_ge {f : Int} (h : f ≥ 10000) : stepF f = (f - 10000, 1) := by unfold stepF; rw [if_pos h]
theorem stepF_neg {f : Int} (h : f < 0) : stepF f = (f + 10000, -1) := by unfold stepF; rw [if_neg (by omega), if_pos h]
theorem stepF_mid {f : Int} (h : ¬ f ≥ 10000) (h2 : ¬ f < 0) : stepF f = (f, 0) := by unfold stepF; rw [if_neg h, if_neg h2]
set_option maxRecDepth 20000 in
set_option maxHeartbeats 4000000 in
theorem both_any (a b : List Int) (sign : Int) (va vb : Value) (w : World) (hs : sign = 1 ∨ sign = -1) (ha : RdI w va a) (hb : RdI w vb b) (da : Dig a) (db : Dig b) (hl : a.length ≤ 1000000) (hl2 : b.length ≤ 1000000) :
    Calls Tryz.prog 168 #[va, vb, .int .i64 sign] w fun e w' => ∃ v, e = .returned v ∧ w'.ownsRow w.heap.size 3 1 v (bothL sign a b).length (intV (bothL sign a b)) ∧ Below w.heap.size w w' := by
  obtain ⟨A, ca, rfl⟩ := ha.open
  obtain ⟨B, cb, rfl⟩ := hb.open
  have HA := Lib.hid ha
  have HB := Lib.hid hb
  have HDA := Lib.hid da
  have HDB := Lib.hid db
  have HO := Lib.hid (fun (o : Int) (a b : List Int) (ho : -1 ≤ o ∧ o ≤ 1) (da : Dig a) (db : Dig b) => both_over hs (o := o) ho da db)
  have HR : Hid (bothL sign a b = if 0 < (bothF sign 0 a b).2 then (bothF sign 0 a b).1 ++ [(bothF sign 0 a b).2] else (bothF sign 0 a b).1) := Lib.hid rfl
  have hs1 : -1 ≤ sign ∧ sign ≤ 1 := by omega
  obtain ⟨s1, s2⟩ := hs1
  have HS := Lib.hid hs
  clear ha hb da db hs
  generalize bothL sign a b = r at *
  go_enter Tryz.func168, Tryz.ntmps168
  go_wp2
  go_loopw [7, 8, 9] (fun v o t W => ∃ (i : Nat) (acc : List Int) (q : Int), i ≤ max a.length b.length ∧ acc.length = i ∧ -1 ≤ q ∧ q ≤ 1 ∧ o = .int .i64 q ∧ t = .int .i64 i ∧
    Hid (bothF sign 0 a b = (acc ++ (bothF sign q (a.drop i) (b.drop i)).1, (bothF sign q (a.drop i) (b.drop i)).2) ∧ W.ownsRow w.heap.size 3 1 v acc.length (intV acc) ∧ Below w.heap.size w W)) (fun _ _ t _ => max a.length b.length - (intOf t).toNat)
  case atStart => exact ⟨0, [], 0, by omega, rfl, by omega, by omega, rfl, rfl, Lib.hid ⟨by simp, World.ownsRow_nil _ _ _ _, Below.refl _ _⟩⟩
  case round =>
    obtain ⟨i, acc, q, hi, hacc, q1, q2, rfl, rfl, H⟩ := hrel
    have HACC := Lib.hid hacc
    clear hacc
    have hra := dgt_range HDA.out i
    have hrb := dgt_range HDB.out i
    by_cases hia : i < a.length
    · have hiaI : (i : Int) < a.length := by omega
      obtain ⟨g1, hA, hc1⟩ := ((HA.out.below H.out.2.2).cell (dgt_at hia))
      have HRd := Lib.hid (both_round sign q a b i (.inl hia))
      subst hA
      by_cases hib : i < b.length
      · have hibI : (i : Int) < b.length := by omega
        obtain ⟨g2, hB, hc2⟩ := ((HB.out.below H.out.2.2).cell (dgt_at hib))
        subst hB
        generalize dgt a i = x at *
        generalize dgt b i = y at *
        rcases HS.out with rfl | rfl
        · go_upto_region 18 with (fail)
          all_goals
            first
            | (have HQ : Hid (stepF (q + x + 1 * y) = (q + x + y - 10000, 1)) := Lib.hid (by rw [show q + x + 1 * y = q + x + y from by omega]; exact stepF_ge (by omega))
               go_wp2_with (at_builtin; (with_reducible refine app_one rfl _ _ 153 rfl Tryz.underlying153 info_i rfl w.heap.size _ (intV acc) (.int .i64 (q + x + y - 10000)) ?_ ?_ rfl (by rw [List.length_map]; exact H.out.2.1) H.out.2.2.size ?_ ?_ ?_); all_goals first | rfl | (rw [List.length_map, HACC.out]; omega) | skip)
               rintro v' w2 ho hg g5 cap5 rfl
               have HN := Lib.hid (And.intro ho hg)
               clear ho hg
               go_wp2
               go_roundw
               case rel => exact ⟨i + 1, acc ++ [q + x + y - 10000], 1, by omega, by rw [List.length_append, HACC.out]; rfl, by omega, by omega, rfl, by go_num, Lib.hid ⟨by rw [H.out.1, HRd.out, HQ.out]; simp, by have := HN.out.1; rw [intV_snoc] at this; rw [List.length_append]; exact this, below_grown H.out.2.2 HN.out.2 H.out.2.1⟩⟩
               case measure => simp [intOf]; omega)
            | (have HQ : Hid (stepF (q + x + 1 * y) = (q + x + y + 10000, -1)) := Lib.hid (by rw [show q + x + 1 * y = q + x + y from by omega]; exact stepF_neg (by omega))
               go_wp2_with (at_builtin; (with_reducible refine app_one rfl _ _ 153 rfl Tryz.underlying153 info_i rfl w.heap.size _ (intV acc) (.int .i64 (q + x + y + 10000)) ?_ ?_ rfl (by rw [List.length_map]; exact H.out.2.1) H.out.2.2.size ?_ ?_ ?_); all_goals first | rfl | (rw [List.length_map, HACC.out]; omega) | skip)
               rintro v' w2 ho hg g5 cap5 rfl
               have HN := Lib.hid (And.intro ho hg)
               clear ho hg
               go_wp2
               go_roundw
               case rel => exact ⟨i + 1, acc ++ [q + x + y + 10000], -1, by omega, by rw [List.length_append, HACC.out]; rfl, by omega, by omega, rfl, by go_num, Lib.hid ⟨by rw [H.out.1, HRd.out, HQ.out]; simp, by have := HN.out.1; rw [intV_snoc] at this; rw [List.length_append]; exact this, below_grown H.out.2.2 HN.out.2 H.out.2.1⟩⟩
               case measure => simp [intOf]; omega)
            | (have HQ : Hid (stepF (q + x + 1 * y) = (q + x + y, 0)) := Lib.hid (by rw [show q + x + 1 * y = q + x + y from by omega]; exact stepF_mid (by omega) (by omega))
               go_wp2_with (at_builtin; (with_reducible refine app_one rfl _ _ 153 rfl Tryz.underlying153 info_i rfl w.heap.size _ (intV acc) (.int .i64 (q + x + y)) ?_ ?_ rfl (by rw [List.length_map]; exact H.out.2.1) H.out.2.2.size ?_ ?_ ?_); all_goals first | rfl | (rw [List.length_map, HACC.out]; omega) | skip)
               rintro v' w2 ho hg g5 cap5 rfl
               have HN := Lib.hid (And.intro ho hg)
               clear ho hg
               go_wp2
               go_roundw
               case rel => exact ⟨i + 1, acc ++ [q + x + y], 0, by omega, by rw [List.length_append, HACC.out]; rfl, by omega, by omega, rfl, by go_num, Lib.hid ⟨by rw [H.out.1, HRd.out, HQ.out]; simp, by have := HN.out.1; rw [intV_snoc] at this; rw [List.length_append]; exact this, below_grown H.out.2.2 HN.out.2 H.out.2.1⟩⟩
               case measure => simp [intOf]; omega)
        · go_upto_region 18 with (fail)
          all_goals
            first
            | (have HQ : Hid (stepF (q + x + -1 * y) = (q + x + -y - 10000, 1)) := Lib.hid (by rw [show q + x + -1 * y = q + x + -y from by omega]; exact stepF_ge (by omega))
               go_wp2_with (at_builtin; (with_reducible refine app_one rfl _ _ 153 rfl Tryz.underlying153 info_i rfl w.heap.size _ (intV acc) (.int .i64 (q + x + -y - 10000)) ?_ ?_ rfl (by rw [List.length_map]; exact H.out.2.1) H.out.2.2.size ?_ ?_ ?_); all_goals first | rfl | (rw [List.length_map, HACC.out]; omega) | skip)
               rintro v' w2 ho hg g5 cap5 rfl
               have HN := Lib.hid (And.intro ho hg)
               clear ho hg
               go_wp2
               go_roundw
               case rel => exact ⟨i + 1, acc ++ [q + x + -y - 10000], 1, by omega, by rw [List.length_append, HACC.out]; rfl, by omega, by omega, rfl, by go_num, Lib.hid ⟨by rw [H.out.1, HRd.out, HQ.out]; simp, by have := HN.out.1; rw [intV_snoc] at this; rw [List.length_append]; exact this, below_grown H.out.2.2 HN.out.2 H.out.2.1⟩⟩
               case measure => simp [intOf]; omega)
            | (have HQ : Hid (stepF (q + x + -1 * y) = (q + x + -y + 10000, -1)) := Lib.hid (by rw [show q + x + -1 * y = q + x + -y from by omega]; exact stepF_neg (by omega))
               go_wp2_with (at_builtin; (with_reducible refine app_one rfl _ _ 153 rfl Tryz.underlying153 info_i rfl w.heap.size _ (intV acc) (.int .i64 (q + x + -y + 10000)) ?_ ?_ rfl (by rw [List.length_map]; exact H.out.2.1) H.out.2.2.size ?_ ?_ ?_); all_goals first | rfl | (rw [List.length_map, HACC.out]; omega) | skip)
               rintro v' w2 ho hg g5 cap5 rfl
               have HN := Lib.hid (And.intro ho hg)
               clear ho hg
               go_wp2
               go_roundw
               case rel => exact ⟨i + 1, acc ++ [q + x + -y + 10000], -1, by omega, by rw [List.length_append, HACC.out]; rfl, by omega, by omega, rfl, by go_num, Lib.hid ⟨by rw [H.out.1, HRd.out, HQ.out]; simp, by have := HN.out.1; rw [intV_snoc] at this; rw [List.length_append]; exact this, below_grown H.out.2.2 HN.out.2 H.out.2.1⟩⟩
               case measure => simp [intOf]; omega)
            | (have HQ : Hid (stepF (q + x + -1 * y) = (q + x + -y, 0)) := Lib.hid (by rw [show q + x + -1 * y = q + x + -y from by omega]; exact stepF_mid (by omega) (by omega))
               go_wp2_with (at_builtin; (with_reducible refine app_one rfl _ _ 153 rfl Tryz.underlying153 info_i rfl w.heap.size _ (intV acc) (.int .i64 (q + x + -y)) ?_ ?_ rfl (by rw [List.length_map]; exact H.out.2.1) H.out.2.2.size ?_ ?_ ?_); all_goals first | rfl | (rw [List.length_map, HACC.out]; omega) | skip)
               rintro v' w2 ho hg g5 cap5 rfl
               have HN := Lib.hid (And.intro ho hg)
               clear ho hg
               go_wp2
               go_roundw
               case rel => exact ⟨i + 1, acc ++ [q + x + -y], 0, by omega, by rw [List.length_append, HACC.out]; rfl, by omega, by omega, rfl, by go_num, Lib.hid ⟨by rw [H.out.1, HRd.out, HQ.out]; simp, by have := HN.out.1; rw [intV_snoc] at this; rw [List.length_append]; exact this, below_grown H.out.2.2 HN.out.2 H.out.2.1⟩⟩
               case measure => simp [intOf]; omega)
      · have hz := dgt_out hib
        rw [hz] at HRd
        clear hz hrb
        generalize dgt a i = x at *
        rcases HS.out with rfl | rfl
        · go_upto_region 18 with (fail)
          all_goals
            first
            | (have HQ : Hid (stepF (q + x + 1 * 0) = (q + x - 10000, 1)) := Lib.hid (by rw [show q + x + 1 * 0 = q + x from by omega]; exact stepF_ge (by omega))
               go_wp2_with (at_builtin; (with_reducible refine app_one rfl _ _ 153 rfl Tryz.underlying153 info_i rfl w.heap.size _ (intV acc) (.int .i64 (q + x - 10000)) ?_ ?_ rfl (by rw [List.length_map]; exact H.out.2.1) H.out.2.2.size ?_ ?_ ?_); all_goals first | rfl | (rw [List.length_map, HACC.out]; omega) | skip)
               rintro v' w2 ho hg g5 cap5 rfl
               have HN := Lib.hid (And.intro ho hg)
               clear ho hg
               go_wp2
               go_roundw
               case rel => exact ⟨i + 1, acc ++ [q + x - 10000], 1, by omega, by rw [List.length_append, HACC.out]; rfl, by omega, by omega, rfl, by go_num, Lib.hid ⟨by rw [H.out.1, HRd.out, HQ.out]; simp, by have := HN.out.1; rw [intV_snoc] at this; rw [List.length_append]; exact this, below_grown H.out.2.2 HN.out.2 H.out.2.1⟩⟩
               case measure => simp [intOf]; omega)
            | (have HQ : Hid (stepF (q + x + 1 * 0) = (q + x + 10000, -1)) := Lib.hid (by rw [show q + x + 1 * 0 = q + x from by omega]; exact stepF_neg (by omega))
               go_wp2_with (at_builtin; (with_reducible refine app_one rfl _ _ 153 rfl Tryz.underlying153 info_i rfl w.heap.size _ (intV acc) (.int .i64 (q + x + 10000)) ?_ ?_ rfl (by rw [List.length_map]; exact H.out.2.1) H.out.2.2.size ?_ ?_ ?_); all_goals first | rfl | (rw [List.length_map, HACC.out]; omega) | skip)
               rintro v' w2 ho hg g5 cap5 rfl
               have HN := Lib.hid (And.intro ho hg)
               clear ho hg
               go_wp2
               go_roundw
               case rel => exact ⟨i + 1, acc ++ [q + x + 10000], -1, by omega, by rw [List.length_append, HACC.out]; rfl, by omega, by omega, rfl, by go_num, Lib.hid ⟨by rw [H.out.1, HRd.out, HQ.out]; simp, by have := HN.out.1; rw [intV_snoc] at this; rw [List.length_append]; exact this, below_grown H.out.2.2 HN.out.2 H.out.2.1⟩⟩
               case measure => simp [intOf]; omega)
            | (have HQ : Hid (stepF (q + x + 1 * 0) = (q + x, 0)) := Lib.hid (by rw [show q + x + 1 * 0 = q + x from by omega]; exact stepF_mid (by omega) (by omega))
               go_wp2_with (at_builtin; (with_reducible refine app_one rfl _ _ 153 rfl Tryz.underlying153 info_i rfl w.heap.size _ (intV acc) (.int .i64 (q + x)) ?_ ?_ rfl (by rw [List.length_map]; exact H.out.2.1) H.out.2.2.size ?_ ?_ ?_); all_goals first | rfl | (rw [List.length_map, HACC.out]; omega) | skip)
               rintro v' w2 ho hg g5 cap5 rfl
               have HN := Lib.hid (And.intro ho hg)
               clear ho hg
               go_wp2
               go_roundw
               case rel => exact ⟨i + 1, acc ++ [q + x], 0, by omega, by rw [List.length_append, HACC.out]; rfl, by omega, by omega, rfl, by go_num, Lib.hid ⟨by rw [H.out.1, HRd.out, HQ.out]; simp, by have := HN.out.1; rw [intV_snoc] at this; rw [List.length_append]; exact this, below_grown H.out.2.2 HN.out.2 H.out.2.1⟩⟩
               case measure => simp [intOf]; omega)
        · go_upto_region 18 with (fail)
          all_goals
            first
            | (have HQ : Hid (stepF (q + x + -1 * 0) = (q + x - 10000, 1)) := Lib.hid (by rw [show q + x + -1 * 0 = q + x from by omega]; exact stepF_ge (by omega))
               go_wp2_with (at_builtin; (with_reducible refine app_one rfl _ _ 153 rfl Tryz.underlying153 info_i rfl w.heap.size _ (intV acc) (.int .i64 (q + x - 10000)) ?_ ?_ rfl (by rw [List.length_map]; exact H.out.2.1) H.out.2.2.size ?_ ?_ ?_); all_goals first | rfl | (rw [List.length_map, HACC.out]; omega) | skip)
               rintro v' w2 ho hg g5 cap5 rfl
               have HN := Lib.hid (And.intro ho hg)
               clear ho hg
               go_wp2
               go_roundw
               case rel => exact ⟨i + 1, acc ++ [q + x - 10000], 1, by omega, by rw [List.length_append, HACC.out]; rfl, by omega, by omega, rfl, by go_num, Lib.hid ⟨by rw [H.out.1, HRd.out, HQ.out]; simp, by have := HN.out.1; rw [intV_snoc] at this; rw [List.length_append]; exact this, below_grown H.out.2.2 HN.out.2 H.out.2.1⟩⟩
               case measure => simp [intOf]; omega)
            | (have HQ : Hid (stepF (q + x + -1 * 0) = (q + x + 10000, -1)) := Lib.hid (by rw [show q + x + -1 * 0 = q + x from by omega]; exact stepF_neg (by omega))
               go_wp2_with (at_builtin; (with_reducible refine app_one rfl _ _ 153 rfl Tryz.underlying153 info_i rfl w.heap.size _ (intV acc) (.int .i64 (q + x + 10000)) ?_ ?_ rfl (by rw [List.length_map]; exact H.out.2.1) H.out.2.2.size ?_ ?_ ?_); all_goals first | rfl | (rw [List.length_map, HACC.out]; omega) | skip)
               rintro v' w2 ho hg g5 cap5 rfl
               have HN := Lib.hid (And.intro ho hg)
               clear ho hg
               go_wp2
               go_roundw
               case rel => exact ⟨i + 1, acc ++ [q + x + 10000], -1, by omega, by rw [List.length_append, HACC.out]; rfl, by omega, by omega, rfl, by go_num, Lib.hid ⟨by rw [H.out.1, HRd.out, HQ.out]; simp, by have := HN.out.1; rw [intV_snoc] at this; rw [List.length_append]; exact this, below_grown H.out.2.2 HN.out.2 H.out.2.1⟩⟩
               case measure => simp [intOf]; omega)
            | (have HQ : Hid (stepF (q + x + -1 * 0) = (q + x, 0)) := Lib.hid (by rw [show q + x + -1 * 0 = q + x from by omega]; exact stepF_mid (by omega) (by omega))
               go_wp2_with (at_builtin; (with_reducible refine app_one rfl _ _ 153 rfl Tryz.underlying153 info_i rfl w.heap.size _ (intV acc) (.int .i64 (q + x)) ?_ ?_ rfl (by rw [List.length_map]; exact H.out.2.1) H.out.2.2.size ?_ ?_ ?_); all_goals first | rfl | (rw [List.length_map, HACC.out]; omega) | skip)
               rintro v' w2 ho hg g5 cap5 rfl
               have HN := Lib.hid (And.intro ho hg)
               clear ho hg
               go_wp2
               go_roundw
               case rel => exact ⟨i + 1, acc ++ [q + x], 0, by omega, by rw [List.length_append, HACC.out]; rfl, by omega, by omega, rfl, by go_num, Lib.hid ⟨by rw [H.out.1, HRd.out, HQ.out]; simp, by have := HN.out.1; rw [intV_snoc] at this; rw [List.length_append]; exact this, below_grown H.out.2.2 HN.out.2 H.out.2.1⟩⟩
               case measure => simp [intOf]; omega)
    · by_cases hib : i < b.length
      · have hibI : (i : Int) < b.length := by omega
        obtain ⟨g2, hB, hc2⟩ := ((HB.out.below H.out.2.2).cell (dgt_at hib))
        have HRd := Lib.hid (both_round sign q a b i (.inr hib))
        have hz := dgt_out hia
        rw [hz] at HRd
        clear hz hra
        subst hB
        generalize dgt b i = y at *
        rcases HS.out with rfl | rfl
        · go_upto_region 18 with (fail)
          all_goals
            first
            | (have HQ : Hid (stepF (q + 0 + 1 * y) = (q + y - 10000, 1)) := Lib.hid (by rw [show q + 0 + 1 * y = q + y from by omega]; exact stepF_ge (by omega))
               go_wp2_with (at_builtin; (with_reducible refine app_one rfl _ _ 153 rfl Tryz.underlying153 info_i rfl w.heap.size _ (intV acc) (.int .i64 (q + y - 10000)) ?_ ?_ rfl (by rw [List.length_map]; exact H.out.2.1) H.out.2.2.size ?_ ?_ ?_); all_goals first | rfl | (rw [List.length_map, HACC.out]; omega) | skip)
               rintro v' w2 ho hg g5 cap5 rfl
               have HN := Lib.hid (And.intro ho hg)
               clear ho hg
               go_wp2
               go_roundw
               case rel => exact ⟨i + 1, acc ++ [q + y - 10000], 1, by omega, by rw [List.length_append, HACC.out]; rfl, by omega, by omega, rfl, by go_num, Lib.hid ⟨by rw [H.out.1, HRd.out, HQ.out]; simp, by have := HN.out.1; rw [intV_snoc] at this; rw [List.length_append]; exact this, below_grown H.out.2.2 HN.out.2 H.out.2.1⟩⟩
               case measure => simp [intOf]; omega)
            | (have HQ : Hid (stepF (q + 0 + 1 * y) = (q + y + 10000, -1)) := Lib.hid (by rw [show q + 0 + 1 * y = q + y from by omega]; exact stepF_neg (by omega))
               go_wp2_with (at_builtin; (with_reducible refine app_one rfl _ _ 153 rfl Tryz.underlying153 info_i rfl w.heap.size _ (intV acc) (.int .i64 (q + y + 10000)) ?_ ?_ rfl (by rw [List.length_map]; exact H.out.2.1) H.out.2.2.size ?_ ?_ ?_); all_goals first | rfl | (rw [List.length_map, HACC.out]; omega) | skip)
               rintro v' w2 ho hg g5 cap5 rfl
               have HN := Lib.hid (And.intro ho hg)
               clear ho hg
               go_wp2
               go_roundw
               case rel => exact ⟨i + 1, acc ++ [q + y + 10000], -1, by omega, by rw [List.length_append, HACC.out]; rfl, by omega, by omega, rfl, by go_num, Lib.hid ⟨by rw [H.out.1, HRd.out, HQ.out]; simp, by have := HN.out.1; rw [intV_snoc] at this; rw [List.length_append]; exact this, below_grown H.out.2.2 HN.out.2 H.out.2.1⟩⟩
               case measure => simp [intOf]; omega)
            | (have HQ : Hid (stepF (q + 0 + 1 * y) = (q + y, 0)) := Lib.hid (by rw [show q + 0 + 1 * y = q + y from by omega]; exact stepF_mid (by omega) (by omega))
               go_wp2_with (at_builtin; (with_reducible refine app_one rfl _ _ 153 rfl Tryz.underlying153 info_i rfl w.heap.size _ (intV acc) (.int .i64 (q + y)) ?_ ?_ rfl (by rw [List.length_map]; exact H.out.2.1) H.out.2.2.size ?_ ?_ ?_); all_goals first | rfl | (rw [List.length_map, HACC.out]; omega) | skip)
               rintro v' w2 ho hg g5 cap5 rfl
               have HN := Lib.hid (And.intro ho hg)
               clear ho hg
               go_wp2
               go_roundw
               case rel => exact ⟨i + 1, acc ++ [q + y], 0, by omega, by rw [List.length_append, HACC.out]; rfl, by omega, by omega, rfl, by go_num, Lib.hid ⟨by rw [H.out.1, HRd.out, HQ.out]; simp, by have := HN.out.1; rw [intV_snoc] at this; rw [List.length_append]; exact this, below_grown H.out.2.2 HN.out.2 H.out.2.1⟩⟩
               case measure => simp [intOf]; omega)
        · go_upto_region 18 with (fail)
          all_goals
            first
            | (have HQ : Hid (stepF (q + 0 + -1 * y) = (q + -y - 10000, 1)) := Lib.hid (by rw [show q + 0 + -1 * y = q + -y from by omega]; exact stepF_ge (by omega))
               go_wp2_with (at_builtin; (with_reducible refine app_one rfl _ _ 153 rfl Tryz.underlying153 info_i rfl w.heap.size _ (intV acc) (.int .i64 (q + -y - 10000)) ?_ ?_ rfl (by rw [List.length_map]; exact H.out.2.1) H.out.2.2.size ?_ ?_ ?_); all_goals first | rfl | (rw [List.length_map, HACC.out]; omega) | skip)
               rintro v' w2 ho hg g5 cap5 rfl
               have HN := Lib.hid (And.intro ho hg)
               clear ho hg
               go_wp2
               go_roundw
               case rel => exact ⟨i + 1, acc ++ [q + -y - 10000], 1, by omega, by rw [List.length_append, HACC.out]; rfl, by omega, by omega, rfl, by go_num, Lib.hid ⟨by rw [H.out.1, HRd.out, HQ.out]; simp, by have := HN.out.1; rw [intV_snoc] at this; rw [List.length_append]; exact this, below_grown H.out.2.2 HN.out.2 H.out.2.1⟩⟩
               case measure => simp [intOf]; omega)
            | (have HQ : Hid (stepF (q + 0 + -1 * y) = (q + -y + 10000, -1)) := Lib.hid (by rw [show q + 0 + -1 * y = q + -y from by omega]; exact stepF_neg (by omega))
               go_wp2_with (at_builtin; (with_reducible refine app_one rfl _ _ 153 rfl Tryz.underlying153 info_i rfl w.heap.size _ (intV acc) (.int .i64 (q + -y + 10000)) ?_ ?_ rfl (by rw [List.length_map]; exact H.out.2.1) H.out.2.2.size ?_ ?_ ?_); all_goals first | rfl | (rw [List.length_map, HACC.out]; omega) | skip)
               rintro v' w2 ho hg g5 cap5 rfl
               have HN := Lib.hid (And.intro ho hg)
               clear ho hg
               go_wp2
               go_roundw
               case rel => exact ⟨i + 1, acc ++ [q + -y + 10000], -1, by omega, by rw [List.length_append, HACC.out]; rfl, by omega, by omega, rfl, by go_num, Lib.hid ⟨by rw [H.out.1, HRd.out, HQ.out]; simp, by have := HN.out.1; rw [intV_snoc] at this; rw [List.length_append]; exact this, below_grown H.out.2.2 HN.out.2 H.out.2.1⟩⟩
               case measure => simp [intOf]; omega)
            | (have HQ : Hid (stepF (q + 0 + -1 * y) = (q + -y, 0)) := Lib.hid (by rw [show q + 0 + -1 * y = q + -y from by omega]; exact stepF_mid (by omega) (by omega))
               go_wp2_with (at_builtin; (with_reducible refine app_one rfl _ _ 153 rfl Tryz.underlying153 info_i rfl w.heap.size _ (intV acc) (.int .i64 (q + -y)) ?_ ?_ rfl (by rw [List.length_map]; exact H.out.2.1) H.out.2.2.size ?_ ?_ ?_); all_goals first | rfl | (rw [List.length_map, HACC.out]; omega) | skip)
               rintro v' w2 ho hg g5 cap5 rfl
               have HN := Lib.hid (And.intro ho hg)
               clear ho hg
               go_wp2
               go_roundw
               case rel => exact ⟨i + 1, acc ++ [q + -y], 0, by omega, by rw [List.length_append, HACC.out]; rfl, by omega, by omega, rfl, by go_num, Lib.hid ⟨by rw [H.out.1, HRd.out, HQ.out]; simp, by have := HN.out.1; rw [intV_snoc] at this; rw [List.length_append]; exact this, below_grown H.out.2.2 HN.out.2 H.out.2.1⟩⟩
               case measure => simp [intOf]; omega)
      · have he : i = max a.length b.length := by omega
        have hz1 : a.drop i = [] := List.drop_of_length_le (by omega)
        have hz2 : b.drop i = [] := List.drop_of_length_le (by omega)
        have HF : Hid (bothF sign 0 a b = (acc, q)) := Lib.hid (by rw [H.out.1, hz1, hz2]; simp [bothF])
        clear he hz1 hz2
        by_cases hq : 0 < q
        · have HRR : Hid (r = acc ++ [q]) := Lib.hid (by rw [HR.out, HF.out, if_pos hq])
          go_wp2_with (at_builtin; (with_reducible refine app_one rfl _ _ 153 rfl Tryz.underlying153 info_i rfl w.heap.size _ (intV acc) (.int .i64 q) ?_ ?_ rfl (by rw [List.length_map]; exact H.out.2.1) H.out.2.2.size ?_ ?_ ?_); all_goals first | rfl | (rw [List.length_map, HACC.out]; omega) | skip)
          rintro v' w2 ho hg g5 cap5 rfl
          have HN := Lib.hid (And.intro ho hg)
          clear ho hg
          go_wp2
          go_ret
          rw [HRR.out]
          exact ⟨_, rfl, by have := HN.out.1; rw [intV_snoc] at this; rw [List.length_append]; exact this, below_grown H.out.2.2 HN.out.2 H.out.2.1⟩
        · have HRR : Hid (r = acc) := Lib.hid (by rw [HR.out, HF.out, if_neg hq])
          go_wp2
          go_ret
          rw [HRR.out]
          exact ⟨_, rfl, H.out.2.1, H.out.2.2⟩
end Go.Proofs.YtdlkdecigpaaaaaGreatDoor
namespace Go.Proofs.YtdlkdecigpaaaaaGreatDoor
set_option linter.unusedVariables false
set_option linter.unusedSimpArgs false
open Go.RowKit

theorem trim_zero {l : List Int} {k : Nat} (h : l[k]? = some 0) : trimF l (k + 1) = trimF l k := by conv => lhs; unfold trimF; rw [if_pos h]
theorem trim_stop {l : List Int} {k : Nat} (h : l[k]? ≠ some 0) : trimF l (k + 1) = k + 1 := by conv => lhs; unfold trimF; rw [if_neg h]
set_option maxRecDepth 20000 in
set_option maxHeartbeats 2000000 in
theorem clean_any (l : List Int) (b : Bool) (v : Value) (w : World) (hv : RdI w v l) (hl : l.length ≤ 1000000) :
    Calls Tryz.prog 158 #[.agg #[.bool b, v]] w fun e w' => ∃ f, e = .returned (.agg #[.bool (b && decide (0 < trimF l l.length)), f]) ∧ RdI w' f (l.take (trimF l l.length)) ∧ Below w.heap.size w w' := by
  obtain ⟨A, c, rfl⟩ := hv.open
  have HV := Lib.hid hv
  obtain ⟨hcc, hcm⟩ := hv.cap
  clear hv
  have hk := trim_le l l.length
  have HK : Hid (trimF l l.length = trimF l l.length) := Lib.hid rfl
  generalize hk0 : trimF l l.length = k0 at *
  go_enter Tryz.func158, Tryz.ntmps158
  go_wp2
  have HW : Hid (Below w.heap.size w ((w.alloc (.cells #[.bool b, .slice A l.length c] 155)).alloc (.cells #[.bool false, .slice none 0 0] 155))) := Lib.hid (bl_alloc (bl_alloc (Below.refl _ _) _) _)
  have HT := Lib.hid hk0
  clear hk0
  go_loop [3] (fun t => ∃ k : Nat, k ≤ l.length ∧ t = .int .i64 k ∧ Hid (trimF l k = k0)) (fun t => (intOf t).toNat)
  case atStart => exact ⟨l.length, by omega, rfl, Lib.hid HT.out⟩
  case round =>
    obtain ⟨k, hkl, rfl, H⟩ := hrel
    cases k with
    | zero =>
      have HZ : Hid (k0 = 0) := Lib.hid H.out.symm
      cases b
      all_goals
        rw [show ((0 : Nat) : Int) = 0 from rfl]
        go_upto_region 4 with (fail)
        go_region
        go_wp2
        refine bodyPost_ret (v := .agg #[.bool false, .slice A 0 c]) (by simp [results, Tryz.results158, go_sem]) rfl ⟨.slice A 0 c, (by first | rfl | (rw [HZ.out]; rfl)), ?_, ?_⟩
        · rw [HZ.out]; exact (HV.out.take 0 (by omega)).below (by (repeat (first | (with_reducible exact Below.refl _ _) | refine bl_drew ?_ | refine bl_drewN ?_ _ | refine bl_alloc ?_ _ | refine bl_set ?_ (Nat.le_refl _) _ | refine bl_set ?_ (Nat.le_succ _) _)))
        · (repeat (first | (with_reducible exact Below.refl _ _) | refine bl_drew ?_ | refine bl_drewN ?_ _ | refine bl_alloc ?_ _ | refine bl_set ?_ (Nat.le_refl _) _ | refine bl_set ?_ (Nat.le_succ _) _))
    | succ k =>
      obtain ⟨x, hx⟩ : ∃ x, l[k]? = some x := ⟨l[k], List.getElem?_eq_getElem (by omega)⟩
      obtain ⟨g, hA, hc⟩ := (HV.out.below HW.out).cell hx
      subst hA
      have hkI : (k : Int) < l.length := by omega
      have e1 : ((k + 1 : Nat) : Int) = (k : Int) + 1 := by omega
      rw [e1]
      clear e1
      by_cases h0 : x = 0
      · have h0b : (x == 0) = true := by simp [h0]
        have HN := Lib.hid ((trim_zero (by rw [hx, h0])).symm.trans H.out)
        clear hx h0
        go_wp2
        go_round
        case rel => exact ⟨k, by omega, rfl, HN⟩
        case measure => simp [intOf] <;> omega
      · have h0b : (x == 0) = false := by simp [h0]
        have HN := Lib.hid ((trim_stop (by rw [hx]; simp [h0])).symm.trans H.out)
        have hkc : (k : Int) + 1 ≤ c := by omega
        clear hx h0
        cases b
        all_goals
          go_upto_region 4 with (fail)
          go_region
          go_wp2
        · refine bodyPost_ret (v := .agg #[.bool false, .slice (some ⟨g, 0, none⟩) (k + 1) c]) (by simp [results, Tryz.results158, go_sem]) rfl ⟨.slice (some ⟨g, 0, none⟩) (k + 1) c, rfl, ?_, ?_⟩
          · rw [← HN.out]; exact (HV.out.take (k + 1) (by omega)).below (by (repeat (first | (with_reducible exact Below.refl _ _) | refine bl_drew ?_ | refine bl_drewN ?_ _ | refine bl_alloc ?_ _ | refine bl_set ?_ (Nat.le_refl _) _ | refine bl_set ?_ (Nat.le_succ _) _)))
          · (repeat (first | (with_reducible exact Below.refl _ _) | refine bl_drew ?_ | refine bl_drewN ?_ _ | refine bl_alloc ?_ _ | refine bl_set ?_ (Nat.le_refl _) _ | refine bl_set ?_ (Nat.le_succ _) _))
        · refine bodyPost_ret (v := .agg #[.bool true, .slice (some ⟨g, 0, none⟩) (k + 1) c]) (by simp [results, Tryz.results158, go_sem]) rfl ⟨.slice (some ⟨g, 0, none⟩) (k + 1) c, by rw [← HN.out]; simp, ?_, ?_⟩
          · rw [← HN.out]; exact (HV.out.take (k + 1) (by omega)).below (by (repeat (first | (with_reducible exact Below.refl _ _) | refine bl_drew ?_ | refine bl_drewN ?_ _ | refine bl_alloc ?_ _ | refine bl_set ?_ (Nat.le_refl _) _ | refine bl_set ?_ (Nat.le_succ _) _)))
          · (repeat (first | (with_reducible exact Below.refl _ _) | refine bl_drew ?_ | refine bl_drewN ?_ _ | refine bl_alloc ?_ _ | refine bl_set ?_ (Nat.le_refl _) _ | refine bl_set ?_ (Nat.le_succ _) _))

theorem natAbs_mod (z : Int) (h : z ≠ 0) : (z.tmod 10000).natAbs = z.natAbs % 10000 := by
  rcases Int.lt_or_le z 0 with hz | hz
  · obtain ⟨n, rfl⟩ : ∃ n : Nat, z = -(n : Int) := ⟨(-z).toNat, by omega⟩
    rw [Int.neg_tmod, Int.natAbs_neg, Int.natAbs_neg]; rfl
  · obtain ⟨n, rfl⟩ := Int.eq_ofNat_of_zero_le hz
    rfl
end Go.Proofs.YtdlkdecigpaaaaaGreatDoor
namespace Go.Proofs.YtdlkdecigpaaaaaGreatDoor
set_option linter.unusedVariables false
set_option linter.unusedSimpArgs false
open Go.RowKit

/-- The box of a number that is made: its sign, its figures so far. -/
def OfBox (z : Int) (w W : World) (acc : List Int) : Prop :=
  ∃ v, W.heap[w.heap.size]? = some (.cells #[.bool false, .slice none 0 0] 155 (0, 0)) ∧ W.heap[w.heap.size + 1]? = some (.cells #[.bool (decide (z < 0)), v] 155 (0, 0)) ∧ W.ownsRow w.heap.size 3 1 v acc.length (intV acc) ∧ Below w.heap.size w W
def OfSays (z n : Int) (acc : List Int) : Prop :=
  (z.natAbs : Int) = valF acc + 10000 ^ acc.length * n.natAbs ∧ Dig acc ∧ (0 ≤ z ∧ 0 ≤ n ∨ z ≤ 0 ∧ n ≤ 0) ∧ (n = 0 → acc.getLast? ≠ some 0)
theorem ofBox_kept {w W w2 : World} {z : Int} {v : Value} {n : Nat} {xs : List Value} (b1 : W.heap[w.heap.size]? = some (.cells #[.bool false, .slice none 0 0] 155 (0, 0))) (b2 : W.heap[w.heap.size + 1]? = some (.cells #[.bool (decide (z < 0)), v] 155 (0, 0)))
    (ho : W.ownsRow w.heap.size 3 1 v n xs) (hg : W.grownBy w2 v.ownBlock) : w2.heap[w.heap.size]? = some (.cells #[.bool false, .slice none 0 0] 155 (0, 0)) ∧ w2.heap[w.heap.size + 1]? = some (.cells #[.bool (decide (z < 0)), v] 155 (0, 0)) := by
  have hne : ∀ k o d, W.heap[k]? = some (.cells o 155 d) → v.ownBlock ≠ some k := by
    intro k o d hk e
    rcases ho.2 with ⟨hv, _⟩ | ⟨g2, c2, cur2, hv, _, hg2, _⟩
    · rw [hv] at e; simp [Value.ownBlock] at e
    · rw [hv] at e; simp [Value.ownBlock] at e
      rw [e, hk] at hg2
      injection hg2 with hg2; injection hg2 with _ h5; exact absurd h5 (by decide)
  exact ⟨(hg.block _ (hk_lt b1) (hne _ _ _ b1).symm).trans b1, (hg.block _ (hk_lt b2) (hne _ _ _ b2).symm).trans b2⟩
theorem own_noN {W : World} {base k n : Nat} {o : Array Value} {d : Nat × Nat} {v : Value} {xs : List Value} (ho : W.ownsRow base 3 1 v n xs) (hk : W.heap[k]? = some (.cells o 155 d)) : v.ownBlock ≠ some k := by
  intro e
  rcases ho.2 with ⟨hv, _⟩ | ⟨g2, c2, cur2, hv, _, hg2, _⟩
  · rw [hv] at e; simp [Value.ownBlock] at e
  · rw [hv] at e; simp [Value.ownBlock] at e
    rw [e, hk] at hg2
    injection hg2 with hg2; injection hg2 with _ h5; exact absurd h5 (by decide)
theorem ofBox_step {w w2 : World} {z d : Int} {v v' : Value} {acc : List Int} (b1 : w2.heap[w.heap.size]? = some (.cells #[.bool false, .slice none 0 0] 155 (0, 0))) (b2 : w2.heap[w.heap.size + 1]? = some (.cells #[.bool (decide (z < 0)), v] 155 (0, 0)))
    (ho : w2.ownsRow w.heap.size 3 1 v' (acc ++ [d]).length (intV (acc ++ [d]))) (hb : Below w.heap.size w w2) : OfBox z w (w2.setCell ⟨w.heap.size + 1, 1, none⟩ v') (acc ++ [d]) :=
  ⟨v', hk_set b1 (by show w.heap.size ≠ w.heap.size + 1; omega) _, set_to b2 1 v' rfl, own_keeps ho ((Keeps.refl [w.heap.size + 1] _).set (.inl (by simp)) _) (fun b e hm => by simp at hm; subst hm; exact own_noN ho b2 e), bl_set hb (by show _ ≤ w.heap.size + 1; omega) _⟩
theorem ofBox_end {w W : World} {v : Value} {acc : List Int} (b1 : W.heap[w.heap.size]? = some (.cells #[.bool false, .slice none 0 0] 155 (0, 0))) (ho : W.ownsRow w.heap.size 3 1 v acc.length (intV acc)) (hb : Below w.heap.size w W) (x y : Value) :
    RdI ((W.setCell ⟨w.heap.size, 0, none⟩ x).setCell ⟨w.heap.size, 1, none⟩ y) v acc ∧ Below w.heap.size w ((W.setCell ⟨w.heap.size, 0, none⟩ x).setCell ⟨w.heap.size, 1, none⟩ y) :=
  ⟨.of_own (own_keeps ho (((Keeps.refl [w.heap.size] _).set (.inl (by simp)) _).set (.inl (by simp)) _) (fun b e hm => by simp at hm; subst hm; exact own_noN ho b1 e)), bl_set (bl_set hb (Nat.le_refl _) _) (Nat.le_refl _) _⟩
theorem ofSays_end {z n : Int} {acc : List Int} (h : OfSays z n acc) (hn : n = 0) : Can acc := ⟨h.2.1, h.2.2.2 hn⟩
theorem ofSays_val {z n : Int} {acc : List Int} (h : OfSays z n acc) (hn : n = 0) : valF acc = z.natAbs := by have := h.1; rw [hn] at this; simp at this; omega
theorem tmod_neg {n : Int} (h : n < 0) : n.tmod 10000 = -(-n % 10000) := by
  have := Int.neg_tmod (-n) 10000
  rw [Int.neg_neg] at this
  rw [this, Int.tmod_eq_emod_of_nonneg (by omega)]
theorem tdiv_neg {n : Int} (h : n < 0) : n.tdiv 10000 = -(-n / 10000) := by
  have := Int.neg_tdiv (-n) 10000
  rw [Int.neg_neg] at this
  rw [this, Int.tdiv_eq_ediv_of_nonneg (by omega)]
theorem tdiv_abs (n : Int) : (n.tdiv 10000).natAbs = n.natAbs / 10000 := by rw [Int.natAbs_tdiv]; rfl
theorem tdiv_abs2 (n : Int) (h : 0 ≤ n := by omega) : (n / 10000).natAbs = n.natAbs / 10000 := by omega
theorem tdiv_dec (n : Int) (h : n ≠ 0) : (n.tdiv 10000).natAbs < n.natAbs := by rw [tdiv_abs]; omega
theorem ofSays_len {z n : Int} {acc : List Int} (h : OfSays z n acc) (hn : n ≠ 0) (hz : z.natAbs ≤ 9223372036854775808) : acc.length ≤ 4 := by
  obtain ⟨h1, h2, _⟩ := h
  have h0 := valF_nonneg h2
  have hp := pow_pos' acc.length
  have hm : (10000 : Int) ^ acc.length * 1 ≤ 10000 ^ acc.length * n.natAbs := Int.mul_le_mul_of_nonneg_left (by omega) (by omega)
  by_cases hl : acc.length ≤ 4
  · exact hl
  · have h5 : (10000 : Int) ^ 5 ≤ 10000 ^ acc.length := by
      have : acc.length = 5 + (acc.length - 5) := by omega
      rw [this, Int.pow_add]
      have := pow_pos' (acc.length - 5)
      have h6 : (10000 : Int) ^ 5 * 1 ≤ 10000 ^ 5 * 10000 ^ (acc.length - 5) := Int.mul_le_mul_of_nonneg_left (by omega) (by decide)
      omega
    have : (10000 : Int) ^ 5 = 100000000000000000000 := by decide
    omega
theorem ofSays_step {z n d q : Int} {acc : List Int} (h : OfSays z n acc) (hn : n ≠ 0) (hd : d = n.natAbs % 10000) (hq : q = if 0 ≤ n then (n.natAbs / 10000 : Int) else -(n.natAbs / 10000 : Int)) : OfSays z q (acc ++ [d]) := by
  obtain ⟨h1, h2, h3, h4⟩ := h
  have hqa : (q.natAbs : Int) = n.natAbs / 10000 := by rw [hq]; split <;> omega
  refine ⟨?_, h2.app (Dig.one (by omega)), ?_, ?_⟩
  · rw [valF_app, List.length_append, List.length_singleton, Int.pow_succ, h1, hqa]
    simp only [valF, Int.mul_zero, Int.add_zero]
    rw [Int.mul_assoc, Int.add_assoc, ← Int.mul_add]
    congr 2
    omega
  · rw [hq]; split <;> omega
  · intro hq0
    rw [List.getLast?_concat]
    intro e; simp at e
    rw [hq] at hq0
    split at hq0 <;> omega
set_option maxRecDepth 20000 in
set_option maxHeartbeats 4000000 in
theorem of_any (z : Int) (w : World) (h1 : -9223372036854775808 ≤ z) (h2 : z ≤ 9223372036854775807) :
    Calls Tryz.prog 100 #[.int .i64 z] w fun e w' => ∃ f l, e = .returned (.agg #[.bool (decide (z < 0)), f]) ∧ RdI w' f l ∧ Can l ∧ valF l = z.natAbs ∧ l.length ≤ 5 ∧ Below w.heap.size w w' := by
  go_enter Tryz.func100, Tryz.ntmps100
  go_wp2
  have HB0 : Hid (OfBox z w ((w.alloc (.cells #[.bool false, .slice none 0 0] 155)).alloc (.cells #[.bool (decide (z < 0)), .slice none 0 0] 155)) []) := Lib.hid ⟨.slice none 0 0, hk_alloc (new_blk _ _) _, by have := new_blk (w.alloc (.cells #[.bool false, .slice none 0 0] 155)) (.cells #[.bool (decide (z < 0)), .slice none 0 0] 155); rw [World.size_alloc] at this; exact this, World.ownsRow_nil _ _ _ _, by (repeat (first | (with_reducible exact Below.refl _ _) | refine bl_drew ?_ | refine bl_drewN ?_ _ | refine bl_alloc ?_ _ | refine bl_set ?_ (Nat.le_refl _) _ | refine bl_set ?_ (Nat.le_succ _) _))⟩
  go_loopw [0] (fun t W => ∃ (n : Int) (acc : List Int), t = .int .i64 n ∧ n.natAbs ≤ z.natAbs ∧ acc.length ≤ 5 ∧ Hid (OfSays z n acc ∧ OfBox z w W acc)) (fun t _ => (intOf t).natAbs)
  case atStart => exact ⟨z, [], rfl, Nat.le_refl _, by simp, Lib.hid ⟨⟨by simp [valF], by simp [Dig], by omega, by simp⟩, HB0.out⟩⟩
  case round =>
    obtain ⟨n, acc, rfl, hnz, hacc, H⟩ := hrel
    have hsg := H.out.1.2.2.1
    have hn1 : -9223372036854775808 ≤ n := by omega
    have hn2 : n ≤ 9223372036854775807 := by omega
    clear hsg
    obtain ⟨v, b1, b2, ho, hbw⟩ := H.out.2
    obtain ⟨A, cap, rfl⟩ := own_slice ho
    have c2 := cell_blk b2
    have f2 := frozen_blk b2
    have c1 := cell_blk b1
    have f1 := frozen_blk b1
    have HBx := Lib.hid (And.intro b1 (And.intro b2 (And.intro ho hbw)))
    clear b1 b2 ho hbw
    by_cases hn : n = 0
    · have hnb : (n != 0) = false := by simp [hn]
      have HS := Lib.hid H.out.1
      have HN := Lib.hid hn
      clear hn hnz
      go_wp2
      have cr := cell_blk (set_to (set_to HBx.out.1 0 (.bool (decide (z < 0))) rfl) 1 (.slice A acc.length cap) rfl)
      refine bodyPost_ret (v := .agg #[.bool (decide (z < 0)), .slice A acc.length cap]) (by simp [results, Tryz.results100, go_sem, cr]) rfl ⟨.slice A acc.length cap, acc, rfl, (ofBox_end HBx.out.1 HBx.out.2.2.1 HBx.out.2.2.2 _ _).1, ofSays_end HS.out HN.out, ofSays_val HS.out HN.out, hacc, (ofBox_end HBx.out.1 HBx.out.2.2.1 HBx.out.2.2.2 _ _).2⟩
    · have hnb : (n != 0) = true := by simp [hn]
      have HN0 := Lib.hid hn
      have HZ := Lib.hid (And.intro hnz (And.intro h1 h2))
      have hl4 : acc.length ≤ 4 := ofSays_len H.out.1 hn (by omega)
      clear hn hnz h1 h2
      by_cases hs : 0 ≤ n
      · clear c2 f2 c1 f1
        have c2 := cell_blk HBx.out.2.1
        go_wp2_with (at_builtin; (with_reducible refine app_one rfl _ _ 153 rfl Tryz.underlying153 info_i rfl w.heap.size _ (intV acc) _ ?_ ?_ rfl (by rw [List.length_map]; exact HBx.out.2.2.1) HBx.out.2.2.2.size ?_ ?_ ?_); all_goals first | rfl | (rw [List.length_map]; omega) | skip)
        (rintro v' w2 ho hg g5 cap5 rfl
         have HD : Hid ((n % 10000 : Int) = n.natAbs % 10000) := Lib.hid (by omega)
         have HN := Lib.hid (And.intro ho hg)
         obtain ⟨b1, b2⟩ := ofBox_kept HBx.out.1 HBx.out.2.1 HBx.out.2.2.1 hg
         have c2 := cell_blk b2
         have f2 := frozen_blk b2
         have HM := Lib.hid (And.intro b1 b2)
         clear ho hg b1 b2
         go_wp2
         go_roundw
         case rel => exact ⟨n / 10000, acc ++ [n % 10000], rfl, by (have := HZ.out.1); (have := tdiv_abs n); omega, by simp; omega, Lib.hid ⟨ofSays_step H.out.1 HN0.out HD.out (by rw [if_pos (by omega)]; omega), ofBox_step HM.out.1 HM.out.2 (by have := HN.out.1; rw [intV_snoc] at this; rw [List.length_append]; exact this) (below_grown HBx.out.2.2.2 HN.out.2 HBx.out.2.2.1)⟩⟩
         case measure => (have := tdiv_abs n); (have := HN0.out); (have hms := tdiv_dec n this); first | exact hms | (simp only [intOf]; show (n / 10000).natAbs < n.natAbs; omega))
      · have hs' : n < 0 := by omega
        clear hs
        go_wp2_with (at_builtin; (with_reducible refine app_one rfl _ _ 153 rfl Tryz.underlying153 info_i rfl w.heap.size _ (intV acc) _ ?_ ?_ rfl (by rw [List.length_map]; exact HBx.out.2.2.1) HBx.out.2.2.2.size ?_ ?_ ?_); all_goals first | rfl | (rw [List.length_map]; omega) | skip)
        all_goals first
        | (rintro v' w2 ho hg g5 cap5 rfl
           have HD : Hid ((n.tmod 10000 : Int) = n.natAbs % 10000) := Lib.hid (by have ht := tmod_neg hs'; unfold wrap64 at *; omega)
           have HN := Lib.hid (And.intro ho hg)
           obtain ⟨b1, b2⟩ := ofBox_kept HBx.out.1 HBx.out.2.1 HBx.out.2.2.1 hg
           have c2 := cell_blk b2
           have f2 := frozen_blk b2
           have HM := Lib.hid (And.intro b1 b2)
           clear ho hg b1 b2
           go_wp2
           go_roundw
           case rel => exact ⟨n.tdiv 10000, acc ++ [n.tmod 10000], rfl, by (have := HZ.out.1); (have := tdiv_abs n); omega, by simp; omega, Lib.hid ⟨ofSays_step H.out.1 HN0.out HD.out (by have := tdiv_neg hs'; rw [if_neg (by omega)]; omega), ofBox_step HM.out.1 HM.out.2 (by have := HN.out.1; rw [intV_snoc] at this; rw [List.length_append]; exact this) (below_grown HBx.out.2.2.2 HN.out.2 HBx.out.2.2.1)⟩⟩
           case measure => (have := tdiv_abs n); (have := HN0.out); (have hms := tdiv_dec n this); first | exact hms | (simp only [intOf]; show (n / 10000).natAbs < n.natAbs; omega))
        | (rintro v' w2 ho hg g5 cap5 rfl
           have HD : Hid ((wrap64 (-n.tmod 10000) : Int) = n.natAbs % 10000) := Lib.hid (by have ht := tmod_neg hs'; unfold wrap64 at *; omega)
           have HN := Lib.hid (And.intro ho hg)
           obtain ⟨b1, b2⟩ := ofBox_kept HBx.out.1 HBx.out.2.1 HBx.out.2.2.1 hg
           have c2 := cell_blk b2
           have f2 := frozen_blk b2
           have HM := Lib.hid (And.intro b1 b2)
           clear ho hg b1 b2
           go_wp2
           go_roundw
           case rel => exact ⟨n.tdiv 10000, acc ++ [wrap64 (-n.tmod 10000)], rfl, by (have := HZ.out.1); (have := tdiv_abs n); omega, by simp; omega, Lib.hid ⟨ofSays_step H.out.1 HN0.out HD.out (by have := tdiv_neg hs'; rw [if_neg (by omega)]; omega), ofBox_step HM.out.1 HM.out.2 (by have := HN.out.1; rw [intV_snoc] at this; rw [List.length_append]; exact this) (below_grown HBx.out.2.2.2 HN.out.2 HBx.out.2.2.1)⟩⟩
           case measure => (have := tdiv_abs n); (have := HN0.out); (have hms := tdiv_dec n this); first | exact hms | (simp only [intOf]; show (n / 10000).natAbs < n.natAbs; omega))
end Go.Proofs.YtdlkdecigpaaaaaGreatDoor
