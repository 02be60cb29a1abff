/- Put together: The document's numbers: Neg, Less, Fits; The document's numbers: Fits. -/
import Derived.Test.YtdlkdecigpaaaaaGreatDoorMg13
namespace Go.Proofs.YtdlkdecigpaaaaaGreatDoor
set_option linter.unusedVariables false
set_option linter.unusedSimpArgs false
open Go.RowKit

theorem NumV.shape {w : World} {v : Value} {z : Int} (h : NumV w v z) : ∃ b A n c, v = .agg #[.bool b, .slice A n c] := by
  obtain ⟨f, l, rfl, hr, _⟩ := h
  obtain ⟨A, c, rfl⟩ := hr.open
  exact ⟨_, _, _, _, rfl⟩
theorem NumV.sign {w : World} {b : Bool} {f : Value} {z : Int} (h : NumV w (.agg #[.bool b, f]) z) : b = decide (z < 0) := by
  obtain ⟨f, l, hv, _⟩ := h
  injection hv with hv; simp at hv; exact hv.1
def NegBox (p : Bool) (fa : Value) (w W : World) : Prop :=
  W.heap[w.heap.size]? = some (.cells #[.bool p, fa] 155 (0, 0)) ∧ W.heap[w.heap.size + 1]? = some (.cells #[.bool false, .slice none 0 0] 155 (0, 0)) ∧ Below w.heap.size w W
theorem negBox (p : Bool) (fa : Value) (w : World) : NegBox p fa w ((w.alloc (.cells #[.bool p, fa] 155)).alloc (.cells #[.bool false, .slice none 0 0] 155)) :=
  ⟨hk_alloc (new_blk _ _) _, by have := new_blk (w.alloc (.cells #[.bool p, fa] 155)) (.cells #[.bool false, .slice none 0 0] 155); rw [World.size_alloc] at this; exact this, bl_alloc (bl_alloc (Below.refl _ _) _) _⟩
set_option maxRecDepth 20000 in
set_option maxHeartbeats 4000000 in
theorem neg_any (va : Value) (x : Int) (k : Nat) (w : World) (ha : NumV w va x) (hx : (x.natAbs : Int) < 10000 ^ k) (hk : k ≤ 100000) :
    Calls Tryz.prog 149 #[va] w fun e w' => ∃ v, e = .returned v ∧ NumV w' v (-x) ∧ Below w.heap.size w w' := by
  obtain ⟨fa, a, rfl, ra, ca, xa⟩ := ha
  have la := can_len ca (by rw [xa]; exact hx)
  obtain ⟨A, cA, rfl⟩ := ra.open
  have la5 : a.length ≤ 1000000 := by omega
  have HA := Lib.hid ra
  have HC := Lib.hid ca
  have HS : Hid (valF a = (-x).natAbs ∧ (-x ≠ 0 → (!decide (x < 0)) = decide (-x < 0))) := Lib.hid ⟨by omega, fun h => by by_cases h1 : x < 0 <;> simp [h1] <;> omega⟩
  clear hx la ra ca xa
  generalize decide (x < 0) = p at *
  have hq : ∃ q, (!p) = q := ⟨_, rfl⟩
  obtain ⟨q, hq⟩ := hq
  rw [hq] at HS
  go_enter Tryz.func149, Tryz.ntmps149
  go_upto_region 1 with (fail)
  refine abs_world (F := NegBox p (.slice A a.length cA) w) (negBox p _ w) ?_
  intro wr hbx
  have HX := Lib.hid hbx
  have c1 := cell_blk hbx.1
  have HA := Lib.hid (HA.out.below hbx.2.2)
  clear hbx
  go_wp2_with (go_at_call 158; refine (clean_any a q _ _ HA.out la5).mono ?_; rintro e w2 ⟨f2, rfl, hr2, hb2⟩; obtain ⟨A2, k2, rfl⟩ := hr2.open; have d3 := cell_blk (hk_below HX.out.2.1 hb2); have e3 := frozen_blk (hk_below HX.out.2.1 hb2); have HX2 := Lib.hid (And.intro (hk_below HX.out.2.1 hb2) (bl_step HX.out.2.2 hb2)); have HR2 := Lib.hid hr2; clear hr2 hb2)
  have cr := cell_blk (set_to (set_to HX2.out.1 0 (.bool (q && decide (0 < trimF a a.length))) rfl) 1 (.slice A2 (a.take (trimF a a.length)).length k2) rfl)
  rw [List.length_take] at cr
  have HR3 := HR2.out
  rw [List.length_take] at HR3
  refine bodyPost_ret (v := .agg #[.bool (q && decide (0 < trimF a a.length)), .slice A2 (min (trimF a a.length) a.length) k2]) (by simp [results, Tryz.results149, go_sem, cr]) rfl ⟨_, rfl, clean_num HC.out.1 HS.out.1 HS.out.2 (num_cells HR3 HX2.out.1), bl_set (bl_set HX2.out.2 (by simp) _) (by simp) _⟩

theorem ret_v {a b : Bool} {w w' : World} (h : a = b) (hb : Below w.heap.size w w') : Ending.returned (.bool a) = .returned (.bool b) ∧ Below w.heap.size w w' := ⟨by rw [h], hb⟩
def LessBox (va vb : Array Value) (w W : World) : Prop :=
  W.heap[w.heap.size]? = some (.cells va 155 (0, 0)) ∧ W.heap[w.heap.size + 1]? = some (.cells vb 155 (0, 0)) ∧ Below w.heap.size w W
theorem lessBox (va vb : Array Value) (w : World) : LessBox va vb w ((w.alloc (.cells va 155)).alloc (.cells vb 155)) :=
  ⟨hk_alloc (new_blk _ _) _, by have := new_blk (w.alloc (.cells va 155)) (.cells vb 155); rw [World.size_alloc] at this; exact this, bl_alloc (bl_alloc (Below.refl _ _) _) _⟩
abbrev Four (g h : Nat) (a b c d : Value) (W : World) : Prop := W.cell? ⟨g, 0, none⟩ = some a ∧ W.cell? ⟨g, 1, none⟩ = some b ∧ W.cell? ⟨h, 0, none⟩ = some c ∧ W.cell? ⟨h, 1, none⟩ = some d
section
variable {w W W1 : World} {g h k i j : Nat} {a b c d x y : Value} {va vb : Array Value}
theorem four_drew (H : Four g h a b c d W) : Four g h a b c d W.drew := H
theorem cell_alloc' {r : Value} (H : W.cell? ⟨g, i, none⟩ = some r) (o : Obj) : (W.alloc o).cell? ⟨g, i, none⟩ = some r := by
  have hb : Below W.heap.size W (W.alloc o) := bl_alloc (Below.refl _ _) o
  exact (hb.cell (p := ⟨g, i, none⟩) (World.block_lt_of_cell? W _ H)).trans H
theorem four_alloc (H : Four g h a b c d W) (o : Obj) : Four g h a b c d (W.alloc o) := ⟨cell_alloc' H.1 o, cell_alloc' H.2.1 o, cell_alloc' H.2.2.1 o, cell_alloc' H.2.2.2 o⟩
theorem four_set2 (h1 : g ≠ k) (h2 : h ≠ k) (H : Four g h a b c d W) : Four g h a b c d ((W.setCell ⟨k, i, none⟩ x).setCell ⟨k, j, none⟩ y) := ⟨cset2 h1 H.1, cset2 h1 H.2.1, cset2 h2 H.2.2.1, cset2 h2 H.2.2.2⟩
theorem LessBox.drew (H : LessBox va vb w W) : LessBox va vb w W.drew := ⟨H.1, H.2.1, bl_drew H.2.2⟩
theorem LessBox.alloc (H : LessBox va vb w W) (o : Obj) : LessBox va vb w (W.alloc o) := ⟨hk_alloc H.1 o, hk_alloc H.2.1 o, bl_alloc H.2.2 o⟩
theorem LessBox.step (H : LessBox va vb w W) (hb : Below W.heap.size W W1) : LessBox va vb w W1 := ⟨hk_below H.1 hb, hk_below H.2.1 hb, bl_step H.2.2 hb⟩
theorem LessBox.four (H : LessBox #[a, b] #[c, d] w W) : Four w.heap.size (w.heap.size + 1) a b c d W := ⟨cell_blk H.1 0, cell_blk H.1 1, cell_blk H.2.1 0, cell_blk H.2.1 1⟩
theorem LessBox.size (H : LessBox va vb w W) : w.heap.size + 2 ≤ W.heap.size := hk_lt H.2.1
end
set_option maxRecDepth 20000 in
set_option maxHeartbeats 400000 in
theorem lessN_any (va vb : Value) (x y : Int) (k : Nat) (w : World) (ha : NumV w va x) (hb : NumV w vb y) (hx : (x.natAbs : Int) < 10000 ^ k) (hy : (y.natAbs : Int) < 10000 ^ k) (hk : k ≤ 100000) :
    Calls Tryz.prog 161 #[va, vb] w fun e w' => e = .returned (.bool (decide (x < y))) ∧ Below w.heap.size w w' := by
  have HA := Lib.hid ha
  have HB := Lib.hid hb
  have HK := Lib.hid (And.intro hx (And.intro (show ((-y).natAbs : Int) < 10000 ^ k from by rw [Int.natAbs_neg]; exact hy) (And.intro hy hk)))
  obtain ⟨fa, a, rfl, ra, ca, xa⟩ := ha
  obtain ⟨A, cA, rfl⟩ := ra.open
  obtain ⟨fb, b, rfl, rb, cb, yb⟩ := hb
  obtain ⟨B, cB, rfl⟩ := rb.open
  clear hx hy hk ra rb ca cb xa yb
  have HE : Hid (decide (x + -y < 0) = decide (x < y)) := Lib.hid (by rw [decide_eq_decide]; omega)
  have HNEG := Lib.hid (fun (W : World) (h : NumV W (.agg #[.bool (decide (y < 0)), .slice B b.length cB]) y) => neg_any _ y k W h HK.out.2.2.1 HK.out.2.2.2)
  have HADD := Lib.hid (fun (W : World) (v1 v2 : Value) (h : NumV W v1 x) (h2 : NumV W v2 (-y)) => add_any v1 v2 x (-y) k W h h2 HK.out.1 HK.out.2.1 HK.out.2.2.2)
  clear HK
  generalize decide (x < 0) = p at *
  generalize decide (y < 0) = q at *
  generalize decide (x < y) = r at *
  go_enter Tryz.func161, Tryz.ntmps161
  go_upto_region 1 with (fail)
  refine abs_world (F := LessBox #[.bool p, .slice A a.length cA] #[.bool q, .slice B b.length cB] w) (lessBox _ _ w) ?_
  intro wr hbx
  have HX := Lib.hid hbx
  have K0 := hbx.four
  have sz0 := hbx.size
  have HA := Lib.hid (HA.out.below hbx.2.2)
  have HB := Lib.hid (HB.out.below hbx.2.2)
  clear hbx
  go_region_held3 (fun W' => W'.cell? ⟨w.heap.size, 0, none⟩ = some (.bool p) ∧ W'.cell? ⟨w.heap.size, 1, none⟩ = some (.slice A a.length cA) ∧ W'.cell? ⟨w.heap.size + 1, 0, none⟩ = some (.bool q) ∧ W'.cell? ⟨w.heap.size + 1, 1, none⟩ = some (.slice B b.length cB)) ((repeat (first | with_reducible exact K0 | with_reducible exact K1 | with_reducible exact K2 | with_reducible refine four_drew ?_ | with_reducible refine four_alloc ?_ _ | with_reducible refine four_set2 (by (try simp only [World.size_alloc]); omega) (by (try simp only [World.size_alloc]); omega) ?_)))
    (first
      | (go_at_call 149; refine (HNEG.out _ (HB.out.below (by (repeat (first | (with_reducible exact Below.refl _ _) | refine bl_drew ?_ | refine bl_drewN ?_ _ | refine bl_alloc ?_ _ | refine bl_set ?_ (Nat.le_refl _) _ | refine bl_set ?_ (Nat.le_succ _) _))))).mono ?_; rintro e w1 ⟨v1, rfl, hn1, hb1⟩; have HN1 := Lib.hid hn1; obtain ⟨q1, A1, n1, k1, rfl⟩ := hn1.shape; have hx1 := LessBox.step (va := #[.bool p, .slice A a.length cA]) (vb := #[.bool q, .slice B b.length cB]) (w := w) (by repeat (first | with_reducible exact HX.out | with_reducible exact HX1.out | with_reducible refine LessBox.drew ?_ | with_reducible refine LessBox.alloc ?_ _)) hb1; have K1 := hx1.four; have sz1 := hx1.size; have HX1 := Lib.hid hx1; have HA1 := Lib.hid (HA.out.below (show Below wr.heap.size wr w1 from bl_step (by (repeat (first | (with_reducible exact Below.refl _ _) | refine bl_drew ?_ | refine bl_drewN ?_ _ | refine bl_alloc ?_ _ | refine bl_set ?_ (Nat.le_refl _) _ | refine bl_set ?_ (Nat.le_succ _) _))) hb1)); have sb1 := hb1.size; (try simp only [World.size_alloc] at sb1); (try have B1 := Lib.hid (hk_below (b := wr.heap.size) (o := (.cells #[.bool false, .slice none 0 0] 155 (0, 0))) (new_blk wr.drew (.cells #[.bool false, .slice none 0 0] 155)) hb1)); (try have e1 := frozen_blk B1.out); (try have d1 := cell_blk B1.out); clear hn1 hb1 hx1)
      | (go_at_call 159; refine (HADD.out _ _ _ (HA1.out.below (by (repeat (first | (with_reducible exact Below.refl _ _) | refine bl_drew ?_ | refine bl_drewN ?_ _ | refine bl_alloc ?_ _ | refine bl_set ?_ (Nat.le_refl _) _ | refine bl_set ?_ (Nat.le_succ _) _)))) (HN1.out.below (by (repeat (first | (with_reducible exact Below.refl _ _) | refine bl_drew ?_ | refine bl_drewN ?_ _ | refine bl_alloc ?_ _ | refine bl_set ?_ (Nat.le_refl _) _ | refine bl_set ?_ (Nat.le_succ _) _))))).mono ?_; rintro e w2 ⟨v2, rfl, hn2, hb2⟩; have HN2 := Lib.hid hn2; obtain ⟨q2, A2, n2, k2, rfl⟩ := hn2.shape; have hx2 := LessBox.step (va := #[.bool p, .slice A a.length cA]) (vb := #[.bool q, .slice B b.length cB]) (w := w) (by repeat (first | with_reducible exact HX.out | with_reducible exact HX1.out | with_reducible refine LessBox.drew ?_ | with_reducible refine LessBox.alloc ?_ _)) hb2; have K2 := hx2.four; have sz2 := hx2.size; have HX2 := Lib.hid hx2; have sb2 := hb2.size; (try simp only [World.size_alloc] at sb2); (try have B2 := Lib.hid (hk_below (b := wr.heap.size) (o := (.cells #[.bool false, .slice none 0 0] 155 (0, 0))) B1.out hb2)); (try have e2 := frozen_blk B2.out); (try have d2 := cell_blk B2.out); (try have B3 := Lib.hid (hk_below (b := w1.heap.size) (o := (.cells #[.bool false, .slice none 0 0] 155 (0, 0))) (new_blk w1 (.cells #[.bool false, .slice none 0 0] 155)) hb2)); (try have e3 := frozen_blk B3.out); (try have d3 := cell_blk B3.out); clear hn2 hb2 hx2))
  all_goals
    go_wp2
    go_ret
    refine ⟨ret_bool (HN2.out.sign.trans HE.out), ?_⟩
    have hb := HX2.out.2.2
    first
    | exact bl_alloc hb _
    | exact bl_set (bl_set hb (by show w.heap.size ≤ wr.heap.size; omega) _) (by show w.heap.size ≤ wr.heap.size; omega) _
    | exact bl_set (bl_set hb (by show w.heap.size ≤ w1.heap.size; omega) _) (by show w.heap.size ≤ w1.heap.size; omega) _
end Go.Proofs.YtdlkdecigpaaaaaGreatDoor
namespace Go.Proofs.YtdlkdecigpaaaaaGreatDoor
set_option linter.unusedVariables false
set_option linter.unusedSimpArgs false
open Go.RowKit

theorem of_num (z : Int) (w : World) (h1 : -9223372036854775808 ≤ z) (h2 : z ≤ 9223372036854775807) :
    Calls Tryz.prog 100 #[.int .i64 z] w fun e w' => ∃ v, e = .returned v ∧ NumV w' v z ∧ Below w.heap.size w w' :=
  (of_any z w h1 h2).mono fun e w' h => by
    obtain ⟨f, l, he, hr, hc, hv, _, hb⟩ := h
    exact ⟨_, he, ⟨f, l, rfl, hr, hc, hv⟩, hb⟩
theorem pow5 {k : Nat} (h : 5 ≤ k) : (9223372036854775808 : Int) < 10000 ^ k := by
  have e : k = 5 + (k - 5) := by omega
  rw [e, Int.pow_add]
  have := pow_pos' (k - 5)
  have h6 : (10000 : Int) ^ 5 * 1 ≤ 10000 ^ 5 * 10000 ^ (k - 5) := Int.mul_le_mul_of_nonneg_left (by omega) (by decide)
  have : (10000 : Int) ^ 5 = 100000000000000000000 := by decide
  omega
abbrev Two (g : Nat) (a b : Value) (W : World) : Prop := W.cell? ⟨g, 0, none⟩ = some a ∧ W.cell? ⟨g, 1, none⟩ = some b
def OneBox (va : Array Value) (w W : World) : Prop := W.heap[w.heap.size]? = some (.cells va 155 (0, 0)) ∧ Below w.heap.size w W
theorem oneBox (va : Array Value) (w : World) : OneBox va w (w.alloc (.cells va 155)) := ⟨new_blk _ _, bl_alloc (Below.refl _ _) _⟩
section
variable {w W W1 : World} {g : Nat} {a b : Value} {va : Array Value}
theorem two_drew (H : Two g a b W) : Two g a b W.drew := H
theorem OneBox.drew (H : OneBox va w W) : OneBox va w W.drew := ⟨H.1, bl_drew H.2⟩
theorem OneBox.step (H : OneBox va w W) (hb : Below W.heap.size W W1) : OneBox va w W1 := ⟨hk_below H.1 hb, bl_step H.2 hb⟩
theorem OneBox.two (H : OneBox #[a, b] w W) : Two w.heap.size a b W := ⟨cell_blk H.1 0, cell_blk H.1 1⟩
end
def fitsB (z : Int) : Bool := !decide (z < -9223372036854775808) && !decide (9223372036854775807 < z)
set_option maxRecDepth 20000 in
set_option maxHeartbeats 2000000 in
theorem fits_any (va : Value) (x : Int) (k : Nat) (w : World) (ha : NumV w va x) (hx : (x.natAbs : Int) < 10000 ^ k) (hk : k ≤ 100000) (hk5 : 5 ≤ k) :
    Calls Tryz.prog 151 #[va] w fun e w' => e = .returned (.bool (fitsB x)) ∧ Below w.heap.size w w' := by
  have HA := Lib.hid ha
  obtain ⟨p, A, n, c, rfl⟩ := ha.shape
  have HL1 := Lib.hid (fun (W : World) (v1 v2 : Value) (h : NumV W v1 x) (h2 : NumV W v2 (-9223372036854775808)) => lessN_any v1 v2 x (-9223372036854775808) k W h h2 hx (by have := pow5 hk5; omega) hk)
  have HL2 := Lib.hid (fun (W : World) (v1 v2 : Value) (h : NumV W v1 9223372036854775807) (h2 : NumV W v2 x) => lessN_any v1 v2 9223372036854775807 x k W h h2 (by have := pow5 hk5; omega) hx hk)
  have HF : Hid (fitsB x = (!decide (x < -9223372036854775808) && !decide (9223372036854775807 < x))) := Lib.hid rfl
  clear ha hx hk hk5
  generalize decide (x < -9223372036854775808) = q1 at *
  generalize decide (9223372036854775807 < x) = q2 at *
  generalize fitsB x = r at *
  cases q1 with
  | true =>
    cases r with
    | true => exact absurd HF.out (by simp)
    | false =>
      clear HL2 HF
      go_enter Tryz.func151, Tryz.ntmps151
      go_upto_region 1 with (fail)
      refine abs_world (F := OneBox #[.bool p, .slice A n c] w) (oneBox _ w) ?_
      intro wr hbx
      have HX := Lib.hid hbx
      have K0 := hbx.two
      have HA := Lib.hid (HA.out.below hbx.2)
      clear hbx
      go_region_with (first
        | (go_at_call 100; (refine (of_num _ _ (by decide) (by decide)).mono ?_); rintro e w1 ⟨v1, rfl, hn1, hb1⟩; have HN1 := Lib.hid hn1; obtain ⟨q1, A1, n1, k1, rfl⟩ := hn1.shape; replace hb1 := bl_undrew hb1; have HX1 := Lib.hid (HX.out.step hb1); have K1 := HX1.out.two; have HA1 := Lib.hid (HA.out.below hb1); clear hn1 hb1)
        | (go_at_call 161; refine (HL1.out _ _ _ HA1.out HN1.out).mono ?_; rintro e w2 ⟨rfl, hb2⟩; have HX2 := Lib.hid (HX1.out.step hb2); have K2 := HX2.out.two; have HA2 := Lib.hid (HA1.out.below hb2); clear hb2)
        )
      all_goals
        clear K0 K1 K2
        go_wp2
        go_ret
        exact ⟨rfl, HX2.out.2⟩
  | false =>
    cases q2 with
    | true =>
      cases r with
      | true => exact absurd HF.out (by simp)
      | false =>
        clear HF
        go_enter Tryz.func151, Tryz.ntmps151
        go_upto_region 1 with (fail)
        refine abs_world (F := OneBox #[.bool p, .slice A n c] w) (oneBox _ w) ?_
        intro wr hbx
        have HX := Lib.hid hbx
        have K0 := hbx.two
        have HA := Lib.hid (HA.out.below hbx.2)
        clear hbx
        go_region_with (first
          | (go_at_call 100; have hthere := HX2; clear hthere; (refine (of_num _ _ (by decide) (by decide)).mono ?_); rintro e w3 ⟨v1, rfl, hn1, hb1⟩; have HN3 := Lib.hid hn1; obtain ⟨q3, A3, n3, k3, rfl⟩ := hn1.shape; have HX3 := Lib.hid (HX2.out.step hb1); have K3 := HX3.out.two; have HA3 := Lib.hid (HA2.out.below hb1); clear hn1 hb1)
          | (go_at_call 161; have hthere := HX3; clear hthere; refine (HL2.out _ _ _ HN3.out HA3.out).mono ?_; rintro e w4 ⟨rfl, hb2⟩; have HX4 := Lib.hid (HX3.out.step hb2); have K4 := HX4.out.two; have HA4 := Lib.hid (HA3.out.below hb2); clear hb2)
          | (go_at_call 100; (refine (of_num _ _ (by decide) (by decide)).mono ?_); rintro e w1 ⟨v1, rfl, hn1, hb1⟩; have HN1 := Lib.hid hn1; obtain ⟨q1, A1, n1, k1, rfl⟩ := hn1.shape; replace hb1 := bl_undrew hb1; have HX1 := Lib.hid (HX.out.step hb1); have K1 := HX1.out.two; have HA1 := Lib.hid (HA.out.below hb1); clear hn1 hb1)
          | (go_at_call 161; refine (HL1.out _ _ _ HA1.out HN1.out).mono ?_; rintro e w2 ⟨rfl, hb2⟩; have HX2 := Lib.hid (HX1.out.step hb2); have K2 := HX2.out.two; have HA2 := Lib.hid (HA1.out.below hb2); clear hb2)
          )
        all_goals
          clear K0 K1 K2 K3 K4
          go_wp2
          go_ret
          exact ⟨rfl, HX4.out.2⟩
    | false =>
      cases r with
      | false => exact absurd HF.out (by simp)
      | true =>
        clear HF
        go_enter Tryz.func151, Tryz.ntmps151
        go_upto_region 1 with (fail)
        refine abs_world (F := OneBox #[.bool p, .slice A n c] w) (oneBox _ w) ?_
        intro wr hbx
        have HX := Lib.hid hbx
        have K0 := hbx.two
        have HA := Lib.hid (HA.out.below hbx.2)
        clear hbx
        go_region_with (first
          | (go_at_call 100; have hthere := HX2; clear hthere; (refine (of_num _ _ (by decide) (by decide)).mono ?_); rintro e w3 ⟨v1, rfl, hn1, hb1⟩; have HN3 := Lib.hid hn1; obtain ⟨q3, A3, n3, k3, rfl⟩ := hn1.shape; have HX3 := Lib.hid (HX2.out.step hb1); have K3 := HX3.out.two; have HA3 := Lib.hid (HA2.out.below hb1); clear hn1 hb1)
          | (go_at_call 161; have hthere := HX3; clear hthere; refine (HL2.out _ _ _ HN3.out HA3.out).mono ?_; rintro e w4 ⟨rfl, hb2⟩; have HX4 := Lib.hid (HX3.out.step hb2); have K4 := HX4.out.two; have HA4 := Lib.hid (HA3.out.below hb2); clear hb2)
          | (go_at_call 100; (refine (of_num _ _ (by decide) (by decide)).mono ?_); rintro e w1 ⟨v1, rfl, hn1, hb1⟩; have HN1 := Lib.hid hn1; obtain ⟨q1, A1, n1, k1, rfl⟩ := hn1.shape; replace hb1 := bl_undrew hb1; have HX1 := Lib.hid (HX.out.step hb1); have K1 := HX1.out.two; have HA1 := Lib.hid (HA.out.below hb1); clear hn1 hb1)
          | (go_at_call 161; refine (HL1.out _ _ _ HA1.out HN1.out).mono ?_; rintro e w2 ⟨rfl, hb2⟩; have HX2 := Lib.hid (HX1.out.step hb2); have K2 := HX2.out.two; have HA2 := Lib.hid (HA1.out.below hb2); clear hb2)
          )
        all_goals
          clear K0 K1 K2 K3 K4
          go_wp2
          go_ret
          exact ⟨rfl, HX4.out.2⟩
end Go.Proofs.YtdlkdecigpaaaaaGreatDoor
