/- The document's figures: less, both, clean. -/
import Derived.Test.YtdlkdecigpaaaaaGreatDoorMg7
import Derived.Test.YtdlkdecigpaaaaaGreatDoorMg10
namespace Go.Proofs.YtdlkdecigpaaaaaGreatDoor
set_option linter.unusedVariables false
set_option linter.unusedSimpArgs false
open Go.RowKit

/-- A slice of ints reads as a list. -/
def RdI (w : World) (v : Value) (l : List Int) : Prop :=
  ∃ (A : Option Addr) (c : Nat), v = .slice A l.length c ∧ l.length ≤ c ∧ c ≤ 9223372036854775807 ∧ ∀ j x, l[j]? = some x → ∃ g, A = some ⟨g, 0, none⟩ ∧ w.cell? ⟨g, j, none⟩ = some (.int .i64 x)
section
variable {w w1 : World} {v : Value} {l : List Int}
theorem RdI.below (h : RdI w v l) (hb : Below w.heap.size w w1) : RdI w1 v l := by
  obtain ⟨A, c, hv, hc, hm, hr⟩ := h
  refine ⟨A, c, hv, hc, hm, fun j x hx => ?_⟩
  obtain ⟨g, hg, hcell⟩ := hr j x hx
  exact ⟨g, hg, (hb.cell (p := ⟨g, j, none⟩) (World.block_lt_of_cell? w _ hcell)).trans hcell⟩
theorem RdI.drewN (h : RdI w v l) (n : Nat) : RdI (w.drewN n) v l := h
theorem RdI.of_own {base : Nat} {e : TypeId} (h : w.ownsRow base e 1 v l.length (intV l)) : RdI w v l := by
  rcases h.2 with ⟨rfl, hn⟩ | ⟨g, cap, cur, rfl, hb, hg, hc, hm, _⟩
  · have : l = [] := List.eq_nil_of_length_eq_zero hn
    subst this
    exact ⟨none, 0, rfl, by simp, by decide, fun j x hx => by simp at hx⟩
  · exact ⟨_, cap, rfl, hc, by unfold maxLen at hm; omega, fun j x hx => ⟨g, rfl, own_cell h (intV_at hx)⟩⟩
theorem RdI.open (h : RdI w v l) : ∃ A c, v = .slice A l.length c := by obtain ⟨A, c, hv, _⟩ := h; exact ⟨A, c, hv⟩
theorem RdI.len {A : Option Addr} {n c : Nat} (h : RdI w (.slice A n c) l) : n = l.length := by obtain ⟨A', c', hv, _⟩ := h; cases hv; rfl
theorem RdI.cell {A : Option Addr} {n c : Nat} (h : RdI w (.slice A n c) l) {j : Nat} {x : Int} (hx : l[j]? = some x) : ∃ g, A = some ⟨g, 0, none⟩ ∧ w.cell? ⟨g, j, none⟩ = some (.int .i64 x) := by
  obtain ⟨A', c', hv, _, _, hr⟩ := h; cases hv; exact hr j x hx
theorem RdI.take {A : Option Addr} {n c : Nat} (h : RdI w (.slice A n c) l) (k : Nat) (hk : k ≤ l.length) : RdI w (.slice A k c) (l.take k) := by
  obtain ⟨A', c', hv, hc, hm, hr⟩ := h
  cases hv
  refine ⟨A, c, by rw [List.length_take, Nat.min_eq_left hk], by rw [List.length_take]; omega, hm, fun j x hx => ?_⟩
  refine hr j x ?_
  rw [List.getElem?_take] at hx
  split at hx
  · exact hx
  · cases hx
theorem RdI.nil (w : World) : RdI w (.slice none 0 0) [] := ⟨none, 0, rfl, by simp, by decide, fun j x hx => by simp at hx⟩
theorem RdI.cap {A : Option Addr} {n c : Nat} (h : RdI w (.slice A n c) l) : l.length ≤ c ∧ c ≤ 9223372036854775807 := by obtain ⟨A', c', hv, hc, hm, _⟩ := h; cases hv; exact ⟨hc, hm⟩
end

theorem lessFrom_succ (a b : List Int) (k : Nat) : lessFrom a b (k + 1) = if dgt a k ≠ dgt b k then decide (dgt a k < dgt b k) else lessFrom a b k := rfl
set_option maxRecDepth 20000 in
set_option maxHeartbeats 2000000 in
theorem less2_any (a b : List Int) (va vb : Value) (w : World) (ha : RdI w va a) (hb : RdI w vb b) (hl : a.length ≤ 1000000) :
    Calls Tryz.prog 169 #[va, vb] w fun e w' => e = .returned (.bool (lessL a b)) ∧ Below w.heap.size w w' := by
  obtain ⟨A, ca, rfl⟩ := ha.open
  obtain ⟨B, cb, rfl⟩ := hb.open
  have HA := Lib.hid ha
  have HB := Lib.hid hb
  clear ha hb
  by_cases h : a.length = b.length
  · have hd : ((a.length : Int) != (b.length : Int)) = false := by rw [h]; simp
    have HR : Hid (lessL a b = lessFrom a b a.length) := Lib.hid (by unfold lessL; rw [if_neg (by omega)])
    generalize lessL a b = r at *
    have H := Lib.hid h
    clear h
    go_enter Tryz.func169, Tryz.ntmps169
    go_wp2
    clear hd
    go_loopw [5] (fun t W => ∃ k : Nat, k ≤ a.length ∧ t = .int .i64 (k - 1) ∧ Hid (r = lessFrom a b k ∧ Below w.heap.size w W)) (fun t _ => (intOf t + 1).toNat)
    case atStart => exact ⟨a.length, by omega, rfl, Lib.hid ⟨HR.out, Below.refl _ _⟩⟩
    case round =>
      obtain ⟨k, hk, rfl, HK⟩ := hrel
      cases k with
      | zero =>
        have HF : Hid (r = false) := Lib.hid HK.out.1
        go_wp2
        go_ret
        rw [HF.out]
        exact ⟨rfl, HK.out.2⟩
      | succ k =>
        have e1 : ((k + 1 : Nat) : Int) - 1 = k := by omega
        rw [e1]
        clear e1
        have HS := Lib.hid (HK.out.1.trans (lessFrom_succ a b k))
        obtain ⟨g1, hA, hc1⟩ := ((HA.out.below HK.out.2).cell (dgt_at (l := a) (i := k) (by omega)))
        obtain ⟨g2, hB, hc2⟩ := ((HB.out.below HK.out.2).cell (dgt_at (l := b) (i := k) (by have := H.out; omega)))
        subst hA
        subst hB
        have hka : (k : Int) < a.length := by omega
        have hkb : (k : Int) < b.length := by have := H.out; omega
        generalize dgt a k = x at *
        generalize dgt b k = y at *
        by_cases e : x = y
        · have hxy : (x != y) = false := by simp [e]
          have HN := Lib.hid (HS.out.trans (if_neg (by simp [e])))
          clear e
          go_upto_region 6 with (fail)
          go_quiet (fail)
          go_wp2
          go_roundw
          case rel => exact ⟨k, by omega, rfl, Lib.hid ⟨HN.out, bl_drewN HK.out.2 _⟩⟩
          case measure => simp [intOf] <;> omega
        · have hxy : (x != y) = true := by simp [e]
          have HN := Lib.hid (HS.out.trans (if_pos e))
          clear e
          go_upto_region 6 with (fail)
          go_quiet (fail)
          go_upto_region 7 with (fail)
          go_quiet (fail)
          go_wp2
          go_ret
          rw [HN.out]
          exact ⟨rfl, bl_drewN (bl_drewN HK.out.2 _) _⟩
  · have hd : ((a.length : Int) != (b.length : Int)) = true := by simp; omega
    have HR : Hid (lessL a b = decide (a.length < b.length)) := Lib.hid (by unfold lessL; rw [if_pos h])
    generalize lessL a b = r at *
    clear h
    go_enter Tryz.func169, Tryz.ntmps169
    go_wp2
    go_ret
    exact ⟨ret_bool (by rw [HR.out]; try simp), Below.refl _ _⟩

theorem info_i : (Tryz.prog.info? 3).map (fun i => (i.zero, i.size, i.bytes)) = some (some (.int .i64 0), 1, 8) := by kernel_rfl
theorem stepF_ge {f : Int} (h : f ≥ 10000) : stepF f = (f - 10000, 1) := by unfold stepF; rw [if_pos h]
theorem stepF_neg {f : Int} (h : f < 0) : stepF f = (f + 10000, -1) := by unfold stepF; rw [if_neg (by omega), if_pos h]
theorem stepF_mid {f : Int} (h : ¬ f ≥ 10000) (h2 : ¬ f < 0) : stepF f = (f, 0) := by unfold stepF; rw [if_neg h, if_neg h2]
set_option maxRecDepth 20000 in
set_option maxHeartbeats 4000000 in
theorem both_any (a b : List Int) (sign : Int) (va vb : Value) (w : World) (hs : sign = 1 ∨ sign = -1) (ha : RdI w va a) (hb : RdI w vb b) (da : Dig a) (db : Dig b) (hl : a.length ≤ 1000000) (hl2 : b.length ≤ 1000000) :
    Calls Tryz.prog 168 #[va, vb, .int .i64 sign] w fun e w' => ∃ v, e = .returned v ∧ w'.ownsRow w.heap.size 3 1 v (bothL sign a b).length (intV (bothL sign a b)) ∧ Below w.heap.size w w' := by
  obtain ⟨A, ca, rfl⟩ := ha.open
  obtain ⟨B, cb, rfl⟩ := hb.open
  have HA := Lib.hid ha
  have HB := Lib.hid hb
  have HDA := Lib.hid da
  have HDB := Lib.hid db
  have HO := Lib.hid (fun (o : Int) (a b : List Int) (ho : -1 ≤ o ∧ o ≤ 1) (da : Dig a) (db : Dig b) => both_over hs (o := o) ho da db)
  have HR : Hid (bothL sign a b = if 0 < (bothF sign 0 a b).2 then (bothF sign 0 a b).1 ++ [(bothF sign 0 a b).2] else (bothF sign 0 a b).1) := Lib.hid rfl
  have hs1 : -1 ≤ sign ∧ sign ≤ 1 := by omega
  obtain ⟨s1, s2⟩ := hs1
  have HS := Lib.hid hs
  clear ha hb da db hs
  generalize bothL sign a b = r at *
  go_enter Tryz.func168, Tryz.ntmps168
  go_wp2
  go_loopw [7, 8, 9] (fun v o t W => ∃ (i : Nat) (acc : List Int) (q : Int), i ≤ max a.length b.length ∧ acc.length = i ∧ -1 ≤ q ∧ q ≤ 1 ∧ o = .int .i64 q ∧ t = .int .i64 i ∧
    Hid (bothF sign 0 a b = (acc ++ (bothF sign q (a.drop i) (b.drop i)).1, (bothF sign q (a.drop i) (b.drop i)).2) ∧ W.ownsRow w.heap.size 3 1 v acc.length (intV acc) ∧ Below w.heap.size w W)) (fun _ _ t _ => max a.length b.length - (intOf t).toNat)
  case atStart => exact ⟨0, [], 0, by omega, rfl, by omega, by omega, rfl, rfl, Lib.hid ⟨by simp, World.ownsRow_nil _ _ _ _, Below.refl _ _⟩⟩
  case round =>
    obtain ⟨i, acc, q, hi, hacc, q1, q2, rfl, rfl, H⟩ := hrel
    have HACC := Lib.hid hacc
    clear hacc
    have hra := dgt_range HDA.out i
    have hrb := dgt_range HDB.out i
    by_cases hia : i < a.length
    · have hiaI : (i : Int) < a.length := by omega
      obtain ⟨g1, hA, hc1⟩ := ((HA.out.below H.out.2.2).cell (dgt_at hia))
      have HRd := Lib.hid (both_round sign q a b i (.inl hia))
      subst hA
      by_cases hib : i < b.length
      · have hibI : (i : Int) < b.length := by omega
        obtain ⟨g2, hB, hc2⟩ := ((HB.out.below H.out.2.2).cell (dgt_at hib))
        subst hB
        generalize dgt a i = x at *
        generalize dgt b i = y at *
        rcases HS.out with rfl | rfl
        · go_upto_region 18 with (fail)
          all_goals
            first
            | (have HQ : Hid (stepF (q + x + 1 * y) = (q + x + y - 10000, 1)) := Lib.hid (by rw [show q + x + 1 * y = q + x + y from by omega]; exact stepF_ge (by omega))
               go_wp2_with (at_builtin; (with_reducible refine app_one rfl _ _ 153 rfl Tryz.underlying153 info_i rfl w.heap.size _ (intV acc) (.int .i64 (q + x + y - 10000)) ?_ ?_ rfl (by rw [List.length_map]; exact H.out.2.1) H.out.2.2.size ?_ ?_ ?_); all_goals first | rfl | (rw [List.length_map, HACC.out]; omega) | skip)
               rintro v' w2 ho hg g5 cap5 rfl
               have HN := Lib.hid (And.intro ho hg)
               clear ho hg
               go_wp2
               go_roundw
               case rel => exact ⟨i + 1, acc ++ [q + x + y - 10000], 1, by omega, by rw [List.length_append, HACC.out]; rfl, by omega, by omega, rfl, by go_num, Lib.hid ⟨by rw [H.out.1, HRd.out, HQ.out]; simp, by have := HN.out.1; rw [intV_snoc] at this; rw [List.length_append]; exact this, below_grown H.out.2.2 HN.out.2 H.out.2.1⟩⟩
               case measure => simp [intOf]; omega)
            | (have HQ : Hid (stepF (q + x + 1 * y) = (q + x + y + 10000, -1)) := Lib.hid (by rw [show q + x + 1 * y = q + x + y from by omega]; exact stepF_neg (by omega))
               go_wp2_with (at_builtin; (with_reducible refine app_one rfl _ _ 153 rfl Tryz.underlying153 info_i rfl w.heap.size _ (intV acc) (.int .i64 (q + x + y + 10000)) ?_ ?_ rfl (by rw [List.length_map]; exact H.out.2.1) H.out.2.2.size ?_ ?_ ?_); all_goals first | rfl | (rw [List.length_map, HACC.out]; omega) | skip)
               rintro v' w2 ho hg g5 cap5 rfl
               have HN := Lib.hid (And.intro ho hg)
               clear ho hg
               go_wp2
               go_roundw
               case rel => exact ⟨i + 1, acc ++ [q + x + y + 10000], -1, by omega, by rw [List.length_append, HACC.out]; rfl, by omega, by omega, rfl, by go_num, Lib.hid ⟨by rw [H.out.1, HRd.out, HQ.out]; simp, by have := HN.out.1; rw [intV_snoc] at this; rw [List.length_append]; exact this, below_grown H.out.2.2 HN.out.2 H.out.2.1⟩⟩
               case measure => simp [intOf]; omega)
            | (have HQ : Hid (stepF (q + x + 1 * y) = (q + x + y, 0)) := Lib.hid (by rw [show q + x + 1 * y = q + x + y from by omega]; exact stepF_mid (by omega) (by omega))
               go_wp2_with (at_builtin; (with_reducible refine app_one rfl _ _ 153 rfl Tryz.underlying153 info_i rfl w.heap.size _ (intV acc) (.int .i64 (q + x + y)) ?_ ?_ rfl (by rw [List.length_map]; exact H.out.2.1) H.out.2.2.size ?_ ?_ ?_); all_goals first | rfl | (rw [List.length_map, HACC.out]; omega) | skip)
               rintro v' w2 ho hg g5 cap5 rfl
               have HN := Lib.hid (And.intro ho hg)
               clear ho hg
               go_wp2
               go_roundw
               case rel => exact ⟨i + 1, acc ++ [q + x + y], 0, by omega, by rw [List.length_append, HACC.out]; rfl, by omega, by omega, rfl, by go_num, Lib.hid ⟨by rw [H.out.1, HRd.out, HQ.out]; simp, by have := HN.out.1; rw [intV_snoc] at this; rw [List.length_append]; exact this, below_grown H.out.2.2 HN.out.2 H.out.2.1⟩⟩
               case measure => simp [intOf]; omega)
        · go_upto_region 18 with (fail)
          all_goals
            first
            | (have HQ : Hid (stepF (q + x + -1 * y) = (q + x + -y - 10000, 1)) := Lib.hid (by rw [show q + x + -1 * y = q + x + -y from by omega]; exact stepF_ge (by omega))
               go_wp2_with (at_builtin; (with_reducible refine app_one rfl _ _ 153 rfl Tryz.underlying153 info_i rfl w.heap.size _ (intV acc) (.int .i64 (q + x + -y - 10000)) ?_ ?_ rfl (by rw [List.length_map]; exact H.out.2.1) H.out.2.2.size ?_ ?_ ?_); all_goals first | rfl | (rw [List.length_map, HACC.out]; omega) | skip)
               rintro v' w2 ho hg g5 cap5 rfl
               have HN := Lib.hid (And.intro ho hg)
               clear ho hg
               go_wp2
               go_roundw
               case rel => exact ⟨i + 1, acc ++ [q + x + -y - 10000], 1, by omega, by rw [List.length_append, HACC.out]; rfl, by omega, by omega, rfl, by go_num, Lib.hid ⟨by rw [H.out.1, HRd.out, HQ.out]; simp, by have := HN.out.1; rw [intV_snoc] at this; rw [List.length_append]; exact this, below_grown H.out.2.2 HN.out.2 H.out.2.1⟩⟩
               case measure => simp [intOf]; omega)
            | (have HQ : Hid (stepF (q + x + -1 * y) = (q + x + -y + 10000, -1)) := Lib.hid (by rw [show q + x + -1 * y = q + x + -y from by omega]; exact stepF_neg (by omega))
               go_wp2_with (at_builtin; (with_reducible refine app_one rfl _ _ 153 rfl Tryz.underlying153 info_i rfl w.heap.size _ (intV acc) (.int .i64 (q + x + -y + 10000)) ?_ ?_ rfl (by rw [List.length_map]; exact H.out.2.1) H.out.2.2.size ?_ ?_ ?_); all_goals first | rfl | (rw [List.length_map, HACC.out]; omega) | skip)
               rintro v' w2 ho hg g5 cap5 rfl
               have HN := Lib.hid (And.intro ho hg)
               clear ho hg
               go_wp2
               go_roundw
               case rel => exact ⟨i + 1, acc ++ [q + x + -y + 10000], -1, by omega, by rw [List.length_append, HACC.out]; rfl, by omega, by omega, rfl, by go_num, Lib.hid ⟨by rw [H.out.1, HRd.out, HQ.out]; simp, by have := HN.out.1; rw [intV_snoc] at this; rw [List.length_append]; exact this, below_grown H.out.2.2 HN.out.2 H.out.2.1⟩⟩
               case measure => simp [intOf]; omega)
            | (have HQ : Hid (stepF (q + x + -1 * y) = (q + x + -y, 0)) := Lib.hid (by rw [show q + x + -1 * y = q + x + -y from by omega]; exact stepF_mid (by omega) (by omega))
               go_wp2_with (at_builtin; (with_reducible refine app_one rfl _ _ 153 rfl Tryz.underlying153 info_i rfl w.heap.size _ (intV acc) (.int .i64 (q + x + -y)) ?_ ?_ rfl (by rw [List.length_map]; exact H.out.2.1) H.out.2.2.size ?_ ?_ ?_); all_goals first | rfl | (rw [List.length_map, HACC.out]; omega) | skip)
               rintro v' w2 ho hg g5 cap5 rfl
               have HN := Lib.hid (And.intro ho hg)
               clear ho hg
               go_wp2
               go_roundw
               case rel => exact ⟨i + 1, acc ++ [q + x + -y], 0, by omega, by rw [List.length_append, HACC.out]; rfl, by omega, by omega, rfl, by go_num, Lib.hid ⟨by rw [H.out.1, HRd.out, HQ.out]; simp, by have := HN.out.1; rw [intV_snoc] at this; rw [List.length_append]; exact this, below_grown H.out.2.2 HN.out.2 H.out.2.1⟩⟩
               case measure => simp [intOf]; omega)
      · have hz := dgt_out hib
        rw [hz] at HRd
        clear hz hrb
        generalize dgt a i = x at *
        rcases HS.out with rfl | rfl
        · go_upto_region 18 with (fail)
          all_goals
            first
            | (have HQ : Hid (stepF (q + x + 1 * 0) = (q + x - 10000, 1)) := Lib.hid (by rw [show q + x + 1 * 0 = q + x from by omega]; exact stepF_ge (by omega))
               go_wp2_with (at_builtin; (with_reducible refine app_one rfl _ _ 153 rfl Tryz.underlying153 info_i rfl w.heap.size _ (intV acc) (.int .i64 (q + x - 10000)) ?_ ?_ rfl (by rw [List.length_map]; exact H.out.2.1) H.out.2.2.size ?_ ?_ ?_); all_goals first | rfl | (rw [List.length_map, HACC.out]; omega) | skip)
               rintro v' w2 ho hg g5 cap5 rfl
               have HN := Lib.hid (And.intro ho hg)
               clear ho hg
               go_wp2
               go_roundw
               case rel => exact ⟨i + 1, acc ++ [q + x - 10000], 1, by omega, by rw [List.length_append, HACC.out]; rfl, by omega, by omega, rfl, by go_num, Lib.hid ⟨by rw [H.out.1, HRd.out, HQ.out]; simp, by have := HN.out.1; rw [intV_snoc] at this; rw [List.length_append]; exact this, below_grown H.out.2.2 HN.out.2 H.out.2.1⟩⟩
               case measure => simp [intOf]; omega)
            | (have HQ : Hid (stepF (q + x + 1 * 0) = (q + x + 10000, -1)) := Lib.hid (by rw [show q + x + 1 * 0 = q + x from by omega]; exact stepF_neg (by omega))
               go_wp2_with (at_builtin; (with_reducible refine app_one rfl _ _ 153 rfl Tryz.underlying153 info_i rfl w.heap.size _ (intV acc) (.int .i64 (q + x + 10000)) ?_ ?_ rfl (by rw [List.length_map]; exact H.out.2.1) H.out.2.2.size ?_ ?_ ?_); all_goals first | rfl | (rw [List.length_map, HACC.out]; omega) | skip)
               rintro v' w2 ho hg g5 cap5 rfl
               have HN := Lib.hid (And.intro ho hg)
               clear ho hg
               go_wp2
               go_roundw
               case rel => exact ⟨i + 1, acc ++ [q + x + 10000], -1, by omega, by rw [List.length_append, HACC.out]; rfl, by omega, by omega, rfl, by go_num, Lib.hid ⟨by rw [H.out.1, HRd.out, HQ.out]; simp, by have := HN.out.1; rw [intV_snoc] at this; rw [List.length_append]; exact this, below_grown H.out.2.2 HN.out.2 H.out.2.1⟩⟩
               case measure => simp [intOf]; omega)
            | (have HQ : Hid (stepF (q + x + 1 * 0) = (q + x, 0)) := Lib.hid (by rw [show q + x + 1 * 0 = q + x from by omega]; exact stepF_mid (by omega) (by omega))
               go_wp2_with (at_builtin; (with_reducible refine app_one rfl _ _ 153 rfl Tryz.underlying153 info_i rfl w.heap.size _ (intV acc) (.int .i64 (q + x)) ?_ ?_ rfl (by rw [List.length_map]; exact H.out.2.1) H.out.2.2.size ?_ ?_ ?_); all_goals first | rfl | (rw [List.length_map, HACC.out]; omega) | skip)
               rintro v' w2 ho hg g5 cap5 rfl
               have HN := Lib.hid (And.intro ho hg)
               clear ho hg
               go_wp2
               go_roundw
               case rel => exact ⟨i + 1, acc ++ [q + x], 0, by omega, by rw [List.length_append, HACC.out]; rfl, by omega, by omega, rfl, by go_num, Lib.hid ⟨by rw [H.out.1, HRd.out, HQ.out]; simp, by have := HN.out.1; rw [intV_snoc] at this; rw [List.length_append]; exact this, below_grown H.out.2.2 HN.out.2 H.out.2.1⟩⟩
               case measure => simp [intOf]; omega)
        · go_upto_region 18 with (fail)
          all_goals
            first
            | (have HQ : Hid (stepF (q + x + -1 * 0) = (q + x - 10000, 1)) := Lib.hid (by rw [show q + x + -1 * 0 = q + x from by omega]; exact stepF_ge (by omega))
               go_wp2_with (at_builtin; (with_reducible refine app_one rfl _ _ 153 rfl Tryz.underlying153 info_i rfl w.heap.size _ (intV acc) (.int .i64 (q + x - 10000)) ?_ ?_ rfl (by rw [List.length_map]; exact H.out.2.1) H.out.2.2.size ?_ ?_ ?_); all_goals first | rfl | (rw [List.length_map, HACC.out]; omega) | skip)
               rintro v' w2 ho hg g5 cap5 rfl
               have HN := Lib.hid (And.intro ho hg)
               clear ho hg
               go_wp2
               go_roundw
               case rel => exact ⟨i + 1, acc ++ [q + x - 10000], 1, by omega, by rw [List.length_append, HACC.out]; rfl, by omega, by omega, rfl, by go_num, Lib.hid ⟨by rw [H.out.1, HRd.out, HQ.out]; simp, by have := HN.out.1; rw [intV_snoc] at this; rw [List.length_append]; exact this, below_grown H.out.2.2 HN.out.2 H.out.2.1⟩⟩
               case measure => simp [intOf]; omega)
            | (have HQ : Hid (stepF (q + x + -1 * 0) = (q + x + 10000, -1)) := Lib.hid (by rw [show q + x + -1 * 0 = q + x from by omega]; exact stepF_neg (by omega))
               go_wp2_with (at_builtin; (with_reducible refine app_one rfl _ _ 153 rfl Tryz.underlying153 info_i rfl w.heap.size _ (intV acc) (.int .i64 (q + x + 10000)) ?_ ?_ rfl (by rw [List.length_map]; exact H.out.2.1) H.out.2.2.size ?_ ?_ ?_); all_goals first | rfl | (rw [List.length_map, HACC.out]; omega) | skip)
               rintro v' w2 ho hg g5 cap5 rfl
               have HN := Lib.hid (And.intro ho hg)
               clear ho hg
               go_wp2
               go_roundw
               case rel => exact ⟨i + 1, acc ++ [q + x + 10000], -1, by omega, by rw [List.length_append, HACC.out]; rfl, by omega, by omega, rfl, by go_num, Lib.hid ⟨by rw [H.out.1, HRd.out, HQ.out]; simp, by have := HN.out.1; rw [intV_snoc] at this; rw [List.length_append]; exact this, below_grown H.out.2.2 HN.out.2 H.out.2.1⟩⟩
               case measure => simp [intOf]; omega)
            | (have HQ : Hid (stepF (q + x + -1 * 0) = (q + x, 0)) := Lib.hid (by rw [show q + x + -1 * 0 = q + x from by omega]; exact stepF_mid (by omega) (by omega))
               go_wp2_with (at_builtin; (with_reducible refine app_one rfl _ _ 153 rfl Tryz.underlying153 info_i rfl w.heap.size _ (intV acc) (.int .i64 (q + x)) ?_ ?_ rfl (by rw [List.length_map]; exact H.out.2.1) H.out.2.2.size ?_ ?_ ?_); all_goals first | rfl | (rw [List.length_map, HACC.out]; omega) | skip)
               rintro v' w2 ho hg g5 cap5 rfl
               have HN := Lib.hid (And.intro ho hg)
               clear ho hg
               go_wp2
               go_roundw
               case rel => exact ⟨i + 1, acc ++ [q + x], 0, by omega, by rw [List.length_append, HACC.out]; rfl, by omega, by omega, rfl, by go_num, Lib.hid ⟨by rw [H.out.1, HRd.out, HQ.out]; simp, by have := HN.out.1; rw [intV_snoc] at this; rw [List.length_append]; exact this, below_grown H.out.2.2 HN.out.2 H.out.2.1⟩⟩
               case measure => simp [intOf]; omega)
    · by_cases hib : i < b.length
      · have hibI : (i : Int) < b.length := by omega
        obtain ⟨g2, hB, hc2⟩ := ((HB.out.below H.out.2.2).cell (dgt_at hib))
        have HRd := Lib.hid (both_round sign q a b i (.inr hib))
        have hz := dgt_out hia
        rw [hz] at HRd
        clear hz hra
        subst hB
        generalize dgt b i = y at *
        rcases HS.out with rfl | rfl
        · go_upto_region 18 with (fail)
          all_goals
            first
            | (have HQ : Hid (stepF (q + 0 + 1 * y) = (q + y - 10000, 1)) := Lib.hid (by rw [show q + 0 + 1 * y = q + y from by omega]; exact stepF_ge (by omega))
               go_wp2_with (at_builtin; (with_reducible refine app_one rfl _ _ 153 rfl Tryz.underlying153 info_i rfl w.heap.size _ (intV acc) (.int .i64 (q + y - 10000)) ?_ ?_ rfl (by rw [List.length_map]; exact H.out.2.1) H.out.2.2.size ?_ ?_ ?_); all_goals first | rfl | (rw [List.length_map, HACC.out]; omega) | skip)
               rintro v' w2 ho hg g5 cap5 rfl
               have HN := Lib.hid (And.intro ho hg)
               clear ho hg
               go_wp2
               go_roundw
               case rel => exact ⟨i + 1, acc ++ [q + y - 10000], 1, by omega, by rw [List.length_append, HACC.out]; rfl, by omega, by omega, rfl, by go_num, Lib.hid ⟨by rw [H.out.1, HRd.out, HQ.out]; simp, by have := HN.out.1; rw [intV_snoc] at this; rw [List.length_append]; exact this, below_grown H.out.2.2 HN.out.2 H.out.2.1⟩⟩
               case measure => simp [intOf]; omega)
            | (have HQ : Hid (stepF (q + 0 + 1 * y) = (q + y + 10000, -1)) := Lib.hid (by rw [show q + 0 + 1 * y = q + y from by omega]; exact stepF_neg (by omega))
               go_wp2_with (at_builtin; (with_reducible refine app_one rfl _ _ 153 rfl Tryz.underlying153 info_i rfl w.heap.size _ (intV acc) (.int .i64 (q + y + 10000)) ?_ ?_ rfl (by rw [List.length_map]; exact H.out.2.1) H.out.2.2.size ?_ ?_ ?_); all_goals first | rfl | (rw [List.length_map, HACC.out]; omega) | skip)
               rintro v' w2 ho hg g5 cap5 rfl
               have HN := Lib.hid (And.intro ho hg)
               clear ho hg
               go_wp2
               go_roundw
               case rel => exact ⟨i + 1, acc ++ [q + y + 10000], -1, by omega, by rw [List.length_append, HACC.out]; rfl, by omega, by omega, rfl, by go_num, Lib.hid ⟨by rw [H.out.1, HRd.out, HQ.out]; simp, by have := HN.out.1; rw [intV_snoc] at this; rw [List.length_append]; exact this, below_grown H.out.2.2 HN.out.2 H.out.2.1⟩⟩
               case measure => simp [intOf]; omega)
            | (have HQ : Hid (stepF (q + 0 + 1 * y) = (q + y, 0)) := Lib.hid (by rw [show q + 0 + 1 * y = q + y from by omega]; exact stepF_mid (by omega) (by omega))
               go_wp2_with (at_builtin; (with_reducible refine app_one rfl _ _ 153 rfl Tryz.underlying153 info_i rfl w.heap.size _ (intV acc) (.int .i64 (q + y)) ?_ ?_ rfl (by rw [List.length_map]; exact H.out.2.1) H.out.2.2.size ?_ ?_ ?_); all_goals first | rfl | (rw [List.length_map, HACC.out]; omega) | skip)
               rintro v' w2 ho hg g5 cap5 rfl
               have HN := Lib.hid (And.intro ho hg)
               clear ho hg
               go_wp2
               go_roundw
               case rel => exact ⟨i + 1, acc ++ [q + y], 0, by omega, by rw [List.length_append, HACC.out]; rfl, by omega, by omega, rfl, by go_num, Lib.hid ⟨by rw [H.out.1, HRd.out, HQ.out]; simp, by have := HN.out.1; rw [intV_snoc] at this; rw [List.length_append]; exact this, below_grown H.out.2.2 HN.out.2 H.out.2.1⟩⟩
               case measure => simp [intOf]; omega)
        · go_upto_region 18 with (fail)
          all_goals
            first
            | (have HQ : Hid (stepF (q + 0 + -1 * y) = (q + -y - 10000, 1)) := Lib.hid (by rw [show q + 0 + -1 * y = q + -y from by omega]; exact stepF_ge (by omega))
               go_wp2_with (at_builtin; (with_reducible refine app_one rfl _ _ 153 rfl Tryz.underlying153 info_i rfl w.heap.size _ (intV acc) (.int .i64 (q + -y - 10000)) ?_ ?_ rfl (by rw [List.length_map]; exact H.out.2.1) H.out.2.2.size ?_ ?_ ?_); all_goals first | rfl | (rw [List.length_map, HACC.out]; omega) | skip)
               rintro v' w2 ho hg g5 cap5 rfl
               have HN := Lib.hid (And.intro ho hg)
               clear ho hg
               go_wp2
               go_roundw
               case rel => exact ⟨i + 1, acc ++ [q + -y - 10000], 1, by omega, by rw [List.length_append, HACC.out]; rfl, by omega, by omega, rfl, by go_num, Lib.hid ⟨by rw [H.out.1, HRd.out, HQ.out]; simp, by have := HN.out.1; rw [intV_snoc] at this; rw [List.length_append]; exact this, below_grown H.out.2.2 HN.out.2 H.out.2.1⟩⟩
               case measure => simp [intOf]; omega)
            | (have HQ : Hid (stepF (q + 0 + -1 * y) = (q + -y + 10000, -1)) := Lib.hid (by rw [show q + 0 + -1 * y = q + -y from by omega]; exact stepF_neg (by omega))
               go_wp2_with (at_builtin; (with_reducible refine app_one rfl _ _ 153 rfl Tryz.underlying153 info_i rfl w.heap.size _ (intV acc) (.int .i64 (q + -y + 10000)) ?_ ?_ rfl (by rw [List.length_map]; exact H.out.2.1) H.out.2.2.size ?_ ?_ ?_); all_goals first | rfl | (rw [List.length_map, HACC.out]; omega) | skip)
               rintro v' w2 ho hg g5 cap5 rfl
               have HN := Lib.hid (And.intro ho hg)
               clear ho hg
               go_wp2
               go_roundw
               case rel => exact ⟨i + 1, acc ++ [q + -y + 10000], -1, by omega, by rw [List.length_append, HACC.out]; rfl, by omega, by omega, rfl, by go_num, Lib.hid ⟨by rw [H.out.1, HRd.out, HQ.out]; simp, by have := HN.out.1; rw [intV_snoc] at this; rw [List.length_append]; exact this, below_grown H.out.2.2 HN.out.2 H.out.2.1⟩⟩
               case measure => simp [intOf]; omega)
            | (have HQ : Hid (stepF (q + 0 + -1 * y) = (q + -y, 0)) := Lib.hid (by rw [show q + 0 + -1 * y = q + -y from by omega]; exact stepF_mid (by omega) (by omega))
               go_wp2_with (at_builtin; (with_reducible refine app_one rfl _ _ 153 rfl Tryz.underlying153 info_i rfl w.heap.size _ (intV acc) (.int .i64 (q + -y)) ?_ ?_ rfl (by rw [List.length_map]; exact H.out.2.1) H.out.2.2.size ?_ ?_ ?_); all_goals first | rfl | (rw [List.length_map, HACC.out]; omega) | skip)
               rintro v' w2 ho hg g5 cap5 rfl
               have HN := Lib.hid (And.intro ho hg)
               clear ho hg
               go_wp2
               go_roundw
               case rel => exact ⟨i + 1, acc ++ [q + -y], 0, by omega, by rw [List.length_append, HACC.out]; rfl, by omega, by omega, rfl, by go_num, Lib.hid ⟨by rw [H.out.1, HRd.out, HQ.out]; simp, by have := HN.out.1; rw [intV_snoc] at this; rw [List.length_append]; exact this, below_grown H.out.2.2 HN.out.2 H.out.2.1⟩⟩
               case measure => simp [intOf]; omega)
      · have he : i = max a.length b.length := by omega
        have hz1 : a.drop i = [] := List.drop_of_length_le (by omega)
        have hz2 : b.drop i = [] := List.drop_of_length_le (by omega)
        have HF : Hid (bothF sign 0 a b = (acc, q)) := Lib.hid (by rw [H.out.1, hz1, hz2]; simp [bothF])
        clear he hz1 hz2
        by_cases hq : 0 < q
        · have HRR : Hid (r = acc ++ [q]) := Lib.hid (by rw [HR.out, HF.out, if_pos hq])
          go_wp2_with (at_builtin; (with_reducible refine app_one rfl _ _ 153 rfl Tryz.underlying153 info_i rfl w.heap.size _ (intV acc) (.int .i64 q) ?_ ?_ rfl (by rw [List.length_map]; exact H.out.2.1) H.out.2.2.size ?_ ?_ ?_); all_goals first | rfl | (rw [List.length_map, HACC.out]; omega) | skip)
          rintro v' w2 ho hg g5 cap5 rfl
          have HN := Lib.hid (And.intro ho hg)
          clear ho hg
          go_wp2
          go_ret
          rw [HRR.out]
          exact ⟨_, rfl, by have := HN.out.1; rw [intV_snoc] at this; rw [List.length_append]; exact this, below_grown H.out.2.2 HN.out.2 H.out.2.1⟩
        · have HRR : Hid (r = acc) := Lib.hid (by rw [HR.out, HF.out, if_neg hq])
          go_wp2
          go_ret
          rw [HRR.out]
          exact ⟨_, rfl, H.out.2.1, H.out.2.2⟩
end Go.Proofs.YtdlkdecigpaaaaaGreatDoor
