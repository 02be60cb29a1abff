/- The document's numbers: Add, Neg. -/
import Derived.Deep.RegionHeld3
import Derived.Test.YtdlkdecigpaaaaaGreatDoorMg12
namespace Go.Proofs.YtdlkdecigpaaaaaGreatDoor
set_option linter.unusedVariables false
set_option linter.unusedSimpArgs false
open Go.RowKit

/-- A value is the document's number of an integer. -/
def NumV (w : World) (v : Value) (z : Int) : Prop := ∃ f l, v = .agg #[.bool (decide (z < 0)), f] ∧ RdI w f l ∧ Can l ∧ valF l = z.natAbs
theorem NumV.below {w w1 : World} {v : Value} {z : Int} (h : NumV w v z) (hb : Below w.heap.size w w1) : NumV w1 v z := by
  obtain ⟨f, l, hv, hr, hc⟩ := h; exact ⟨f, l, hv, hr.below hb, hc⟩
theorem bl_undrew {w w1 : World} (h : Below w.drew.heap.size w.drew w1) : Below w.heap.size w w1 := ⟨h.os, h.tape, h.output, h.size, h.block⟩
theorem cset2 {w : World} {g k i a b : Nat} {x y : Value} {r : Option Value} (hne : g ≠ k) (h : w.cell? ⟨g, i, none⟩ = r) : ((w.setCell ⟨k, a, none⟩ x).setCell ⟨k, b, none⟩ y).cell? ⟨g, i, none⟩ = r := by
  rw [← h]
  show (match ((w.setCell ⟨k, a, none⟩ x).setCell ⟨k, b, none⟩ y).heap[g]? with | some (.cells cs _ _) => _ | _ => _) = _
  rw [Below.heap_setCell _ _ _ _ hne, Below.heap_setCell _ _ _ _ hne]; rfl
theorem num_cells {w : World} {k : Nat} {cs : Array Value} {a b : Nat} {x y v : Value} {l : List Int} (h : RdI w v l) (hk : w.heap[k]? = some (.cells cs 155 (0, 0))) {bb : Bool} (h0 : cs[0]? = some (.bool bb) := by rfl) : RdI ((w.setCell ⟨k, a, none⟩ x).setCell ⟨k, b, none⟩ y) v l := by
  obtain ⟨A, c, rfl, hc, hm, hr⟩ := h
  refine ⟨A, c, rfl, hc, hm, fun j x hx => ?_⟩
  obtain ⟨g, hA, hcell⟩ := hr j x hx
  refine ⟨g, hA, cset2 (fun e => ?_) hcell⟩
  subst e
  have hj := (List.getElem?_eq_some_iff.1 hx).1
  obtain ⟨g2, hA2, hc2⟩ := hr 0 l[0] (List.getElem?_eq_getElem (by omega))
  rw [hA] at hA2
  injection hA2 with hA2; injection hA2 with hA2 _ _
  rw [← hA2, cell_blk hk, h0] at hc2
  injection hc2 with hc2; cases hc2
theorem can_len {l : List Int} {k : Nat} (h : Can l) (hv : valF l < 10000 ^ k) : l.length ≤ k := by
  by_cases hl : l.length ≤ k
  · exact hl
  · have h1 := valF_ge h (by intro e; rw [e] at hl; simp at hl)
    have : (10000 : Int) ^ k ≤ 10000 ^ (l.length - 1) := by
      have e : l.length - 1 = k + (l.length - 1 - k) := by omega
      rw [e, Int.pow_add]
      have h4 := pow_pos' k
      have h5 := pow_pos' (l.length - 1 - k)
      have h6 : (10000 : Int) ^ k * 1 ≤ 10000 ^ k * 10000 ^ (l.length - 1 - k) := Int.mul_le_mul_of_nonneg_left (by omega) (by omega)
      omega
    omega
theorem dig_len_can {l : List Int} (hd : Dig l) : Can (l.take (trimF l l.length)) ∧ valF (l.take (trimF l l.length)) = valF l := by
  have h1 := trim_can hd l.length (Nat.le_refl _)
  have h2 := trim_val l l.length (Nat.le_refl _)
  rw [List.take_of_length_le (Nat.le_refl l.length)] at h2
  exact ⟨h1, h2⟩
/-- What clean makes of figures. -/
theorem clean_num {l : List Int} {b : Bool} {z : Int} {w : World} {f : Value} (hd : Dig l) (hv : valF l = z.natAbs) (hb : z ≠ 0 → b = decide (z < 0)) (hf : RdI w f (l.take (trimF l l.length))) :
    NumV w (.agg #[.bool (b && decide (0 < trimF l l.length)), f]) z := by
  obtain ⟨h1, h2⟩ := dig_len_can hd
  refine ⟨f, _, ?_, hf, h1, by rw [h2, hv]⟩
  by_cases hz : z = 0
  · subst hz
    have h0 : valF (l.take (trimF l l.length)) = 0 := by rw [h2, hv]; rfl
    have : trimF l l.length = 0 := by
      by_cases e : trimF l l.length = 0
      · exact e
      · have := valF_pos h1 (by intro e2; have := congrArg List.length e2; rw [List.length_take, List.length_nil] at this; have := trim_le l l.length; omega)
        omega
    rw [this]; simp
  · rw [hb hz]
    have : 0 < trimF l l.length := by
      by_cases e : trimF l l.length = 0
      · rw [e] at h2; simp [valF] at h2; omega
      · omega
    simp [this]
section
variable {a b : List Int} {x y : Int}
theorem num_same (ha : Can a) (hb : Can b) (hx : valF a = x.natAbs) (hy : valF b = y.natAbs) (h : decide (x < 0) = decide (y < 0)) : valF (bothL 1 a b) = (x + y).natAbs := by
  rw [bothL_add ha.1 hb.1, hx, hy]
  simp only [decide_eq_decide] at h; omega
theorem num_less (ha : Can a) (hb : Can b) (hx : valF a = x.natAbs) (hy : valF b = y.natAbs) (h : decide (x < 0) ≠ decide (y < 0)) (hl : lessL a b = true) : valF (bothL (-1) b a) = (x + y).natAbs ∧ decide (y < 0) = decide (x + y < 0) := by
  rw [lessL_val ha hb, hx, hy] at hl
  simp only [decide_eq_true_eq] at hl
  rw [bothL_sub hb.1 ha.1 (by omega), hx, hy]
  rw [ne_eq, decide_eq_decide] at h
  rw [decide_eq_decide]
  omega
theorem num_more (ha : Can a) (hb : Can b) (hx : valF a = x.natAbs) (hy : valF b = y.natAbs) (h : decide (x < 0) ≠ decide (y < 0)) (hl : lessL a b = false) : valF (bothL (-1) a b) = (x + y).natAbs ∧ (x + y ≠ 0 → decide (x < 0) = decide (x + y < 0)) := by
  rw [lessL_val ha hb, hx, hy] at hl
  simp only [decide_eq_false_iff_not] at hl
  rw [bothL_sub ha.1 hb.1 (by omega), hx, hy]
  rw [ne_eq, decide_eq_decide] at h
  rw [decide_eq_decide]
  omega
end
theorem bothL_lens (s : Int) {a b : List Int} (ha : a.length ≤ 100000) (hb : b.length ≤ 100000) : (bothL s a b).length ≤ 1000000 := by have := bothL_len s a b; omega
def AddBox (p q : Bool) (fa fb : Value) (w W : World) : Prop :=
  W.heap[w.heap.size]? = some (.cells #[.bool p, fa] 155 (0, 0)) ∧ W.heap[w.heap.size + 1]? = some (.cells #[.bool q, fb] 155 (0, 0)) ∧ W.heap[w.heap.size + 1 + 1]? = some (.cells #[.bool false, .slice none 0 0] 155 (0, 0)) ∧ Below w.heap.size w W
theorem addBox (p q : Bool) (fa fb : Value) (w : World) : AddBox p q fa fb w (((w.alloc (.cells #[.bool p, fa] 155)).alloc (.cells #[.bool q, fb] 155)).alloc (.cells #[.bool false, .slice none 0 0] 155)) :=
  ⟨hk_alloc (hk_alloc (new_blk _ _) _) _, hk_alloc (by have := new_blk (w.alloc (.cells #[.bool p, fa] 155)) (.cells #[.bool q, fb] 155); rw [World.size_alloc] at this; exact this) _,
    by have := new_blk ((w.alloc (.cells #[.bool p, fa] 155)).alloc (.cells #[.bool q, fb] 155)) (.cells #[.bool false, .slice none 0 0] 155); rw [World.size_alloc, World.size_alloc] at this; exact this, bl_alloc (bl_alloc (bl_alloc (Below.refl _ _) _) _) _⟩
theorem AddBox.step {p q : Bool} {fa fb : Value} {w W W1 : World} (h : AddBox p q fa fb w W) (hb : Below W.heap.size W W1) : AddBox p q fa fb w W1 :=
  ⟨hk_below h.1 hb, hk_below h.2.1 hb, hk_below h.2.2.1 hb, bl_step h.2.2.2 hb⟩
theorem less_dec {a b : List Int} {r : Bool} (h : lessL a b = r) (va vb : Value) (w : World) (ha : RdI w va a) (hb : RdI w vb b) (hl : a.length ≤ 1000000) :
    Calls Tryz.prog 169 #[va, vb] w fun e w' => e = .returned (.bool r) ∧ Below w.heap.size w w' := h ▸ less2_any a b va vb w ha hb hl
set_option maxRecDepth 20000 in
set_option maxHeartbeats 4000000 in
theorem add_any (va vb : Value) (x y : Int) (k : Nat) (w : World) (ha : NumV w va x) (hb : NumV w vb y) (hx : (x.natAbs : Int) < 10000 ^ k) (hy : (y.natAbs : Int) < 10000 ^ k) (hk : k ≤ 100000) :
    Calls Tryz.prog 159 #[va, vb] w fun e w' => ∃ v, e = .returned v ∧ NumV w' v (x + y) ∧ Below w.heap.size w w' := by
  obtain ⟨fa, a, rfl, ra, ca, xa⟩ := ha
  obtain ⟨fb, b, rfl, rb, cb, yb⟩ := hb
  obtain ⟨A, cA, rfl⟩ := ra.open
  obtain ⟨B, cB, rfl⟩ := rb.open
  have la := can_len ca (by rw [xa]; exact hx)
  have lb := can_len cb (by rw [yb]; exact hy)
  have la5 : a.length ≤ 1000000 := by omega
  have lb5 : b.length ≤ 1000000 := by omega
  have HL := Lib.hid (fun s => bothL_lens s (a := a) (b := b) (by omega) (by omega))
  have HL2 := Lib.hid (fun s => bothL_lens s (a := b) (b := a) (by omega) (by omega))
  have HC := Lib.hid (And.intro ca cb)
  have HV := Lib.hid (And.intro xa yb)
  have HA := Lib.hid ra
  have HB := Lib.hid rb
  clear hx hy la lb xa yb ca cb ra rb
  by_cases hs : decide (x < 0) = decide (y < 0)
  · have hsb : (decide (x < 0) == decide (y < 0)) = true := by rw [hs]; simp
    have HS := Lib.hid hs
    have HSM := Lib.hid (num_same HC.out.1 HC.out.2 HV.out.1 HV.out.2 hs)
    have HSG : Hid (x + y ≠ 0 → decide (x < 0) = decide (x + y < 0)) := Lib.hid (fun _ => by rw [decide_eq_decide] at *; omega)
    clear hs
    generalize decide (x < 0) = p at *
    generalize decide (y < 0) = q at *
    go_enter Tryz.func159, Tryz.ntmps159
    go_wp2
    refine abs_world (F := AddBox p q (.slice A a.length cA) (.slice B b.length cB) w) (addBox p q _ _ w) ?_
    intro wr hbx
    have HX := Lib.hid hbx
    have c1 := cell_blk hbx.1
    have c2 := cell_blk hbx.2.1
    have c3 := cell_blk hbx.2.2.1
    have f3 := frozen_blk hbx.2.2.1
    have hA := hbx.2.2.2
    clear hbx
    have HA := Lib.hid (HA.out.below hA)
    have HB := Lib.hid (HB.out.below hA)
    clear hA
    go_region_held3 (fun W' => W'.cell? ⟨w.heap.size, 0, none⟩ = some (.bool p) ∧ W'.cell? ⟨w.heap.size, 1, none⟩ = some (.slice A a.length cA) ∧ W'.cell? ⟨w.heap.size + 1, 0, none⟩ = some (.bool q) ∧ W'.cell? ⟨w.heap.size + 1, 1, none⟩ = some (.slice B b.length cB)) (first | exact ⟨c1 0, c1 1, c2 0, c2 1⟩ | exact ⟨d1 0, d1 1, d2 0, d2 1⟩ | exact ⟨g1 0, g1 1, g2 0, g2 1⟩ | exact ⟨cset2 (by omega) (g1 0), cset2 (by omega) (g1 1), cset2 (by omega) (g2 0), cset2 (by omega) (g2 1)⟩)
      (first
        | (go_at_call 168; refine (both_any a b (1) _ _ _ (.inl rfl) (HA.out.below (by (repeat (first | (with_reducible exact Below.refl _ _) | refine bl_drew ?_ | refine bl_drewN ?_ _ | refine bl_alloc ?_ _ | refine bl_set ?_ (Nat.le_refl _) _ | refine bl_set ?_ (Nat.le_succ _) _)))) (HB.out.below (by (repeat (first | (with_reducible exact Below.refl _ _) | refine bl_drew ?_ | refine bl_drewN ?_ _ | refine bl_alloc ?_ _ | refine bl_set ?_ (Nat.le_refl _) _ | refine bl_set ?_ (Nat.le_succ _) _)))) HC.out.1.1 HC.out.2.1 la5 lb5).mono ?_; rintro e w1 ⟨v1, rfl, ho1, hb1⟩; replace hb1 := bl_undrew hb1; have hr1 := RdI.of_own ho1; obtain ⟨A1, k1, rfl⟩ := hr1.open; have d1 := cell_blk (hk_below HX.out.1 hb1); have d2 := cell_blk (hk_below HX.out.2.1 hb1); have HX1 := Lib.hid (And.intro (hk_below HX.out.1 hb1) (And.intro (hk_below HX.out.2.1 hb1) (And.intro (hk_below HX.out.2.2.1 hb1) (bl_step HX.out.2.2.2 hb1)))); have HO1 := Lib.hid hr1; clear ho1 hr1 hb1)
        | (go_at_call 158; refine (clean_any (bothL (1) a b) _ _ _ HO1.out (HL.out 1)).mono ?_; rintro e w2 ⟨f2, rfl, hr2, hb2⟩; obtain ⟨A2, k2, rfl⟩ := hr2.open; have g1 := cell_blk (hk_below HX1.out.1 hb2); have g2 := cell_blk (hk_below HX1.out.2.1 hb2); have d3 := cell_blk (hk_below HX1.out.2.2.1 hb2); have e3 := frozen_blk (hk_below HX1.out.2.2.1 hb2); have HX2 := Lib.hid (And.intro (hk_below HX1.out.2.2.1 hb2) (bl_step HX1.out.2.2.2 hb2)); have HR2 := Lib.hid hr2; clear hr2 hb2))
    clear c1 c2 c3 f3
    go_wp2
    have cr := cell_blk (set_to (set_to HX2.out.1 0 (.bool (p && decide (0 < trimF (bothL (1) a b) (bothL (1) a b).length))) rfl) 1 (.slice A2 ((bothL (1) a b).take (trimF (bothL (1) a b) (bothL (1) a b).length)).length k2) rfl)
    rw [List.length_take] at cr
    have HR3 := HR2.out
    rw [List.length_take] at HR3
    refine bodyPost_ret (v := .agg #[.bool (p && decide (0 < trimF (bothL (1) a b) (bothL (1) a b).length)), .slice A2 (min (trimF (bothL (1) a b) (bothL (1) a b).length) (bothL (1) a b).length) k2]) (by simp [results, Tryz.results159, go_sem, cr]) rfl ⟨_, rfl, clean_num (bothL_dig (.inl rfl) HC.out.1.1 HC.out.2.1) HSM.out HSG.out (num_cells HR3 HX2.out.1), bl_set (bl_set HX2.out.2 (by simp; omega) _) (by simp; omega) _⟩
  · have hsb : (decide (x < 0) == decide (y < 0)) = false := by simpa using hs
    cases hl : lessL a b with
    | true =>
      obtain ⟨hv, hg⟩ := num_less HC.out.1 HC.out.2 HV.out.1 HV.out.2 hs hl
      have HSM := Lib.hid hv
      have HSG : Hid (x + y ≠ 0 → decide (y < 0) = decide (x + y < 0)) := Lib.hid (fun _ => hg)
      have HLL := Lib.hid hl
      clear hs hv hg hl
      generalize decide (x < 0) = p at *
      generalize decide (y < 0) = q at *
      go_enter Tryz.func159, Tryz.ntmps159
      go_upto_region 3 with (fail)
      refine abs_world (F := AddBox p q (.slice A a.length cA) (.slice B b.length cB) w) (addBox p q _ _ w) ?_
      intro wr hbx
      have HX := Lib.hid hbx
      have c1 := cell_blk hbx.1
      have c2 := cell_blk hbx.2.1
      have c3 := cell_blk hbx.2.2.1
      have f3 := frozen_blk hbx.2.2.1
      have hA := hbx.2.2.2
      clear hbx
      have HA := Lib.hid (HA.out.below hA)
      have HB := Lib.hid (HB.out.below hA)
      clear hA
      go_wp2_with (go_at_call 169; refine (less_dec HLL.out _ _ _ HA.out HB.out la5).mono ?_; rintro e w0 ⟨rfl, hb0⟩; have HX0 := Lib.hid (AddBox.step HX.out hb0); have HA0 := Lib.hid (HA.out.below hb0); have HB0 := Lib.hid (HB.out.below hb0); clear hb0 c1 c2 c3 f3)
      have HX := HX0
      have HA := HA0
      have HB := HB0
      have c1 := cell_blk HX0.out.1
      have c2 := cell_blk HX0.out.2.1
      have c3 := cell_blk HX0.out.2.2.1
      have f3 := frozen_blk HX0.out.2.2.1
      go_region_held3 (fun W' => W'.cell? ⟨w.heap.size, 0, none⟩ = some (.bool p) ∧ W'.cell? ⟨w.heap.size, 1, none⟩ = some (.slice A a.length cA) ∧ W'.cell? ⟨w.heap.size + 1, 0, none⟩ = some (.bool q) ∧ W'.cell? ⟨w.heap.size + 1, 1, none⟩ = some (.slice B b.length cB)) (first | exact ⟨c1 0, c1 1, c2 0, c2 1⟩ | exact ⟨d1 0, d1 1, d2 0, d2 1⟩ | exact ⟨g1 0, g1 1, g2 0, g2 1⟩ | exact ⟨cset2 (by omega) (g1 0), cset2 (by omega) (g1 1), cset2 (by omega) (g2 0), cset2 (by omega) (g2 1)⟩)
        (first
          | (go_at_call 168; refine (both_any b a (-1) _ _ _ (.inr rfl) (HB.out.below (by (repeat (first | (with_reducible exact Below.refl _ _) | refine bl_drew ?_ | refine bl_drewN ?_ _ | refine bl_alloc ?_ _ | refine bl_set ?_ (Nat.le_refl _) _ | refine bl_set ?_ (Nat.le_succ _) _)))) (HA.out.below (by (repeat (first | (with_reducible exact Below.refl _ _) | refine bl_drew ?_ | refine bl_drewN ?_ _ | refine bl_alloc ?_ _ | refine bl_set ?_ (Nat.le_refl _) _ | refine bl_set ?_ (Nat.le_succ _) _)))) HC.out.2.1 HC.out.1.1 lb5 la5).mono ?_; rintro e w1 ⟨v1, rfl, ho1, hb1⟩; replace hb1 := bl_undrew hb1; have hr1 := RdI.of_own ho1; obtain ⟨A1, k1, rfl⟩ := hr1.open; have d1 := cell_blk (hk_below HX.out.1 hb1); have d2 := cell_blk (hk_below HX.out.2.1 hb1); have HX1 := Lib.hid (And.intro (hk_below HX.out.1 hb1) (And.intro (hk_below HX.out.2.1 hb1) (And.intro (hk_below HX.out.2.2.1 hb1) (bl_step HX.out.2.2.2 hb1)))); have HO1 := Lib.hid hr1; clear ho1 hr1 hb1)
          | (go_at_call 158; refine (clean_any (bothL (-1) b a) _ _ _ HO1.out (HL2.out (-1))).mono ?_; rintro e w2 ⟨f2, rfl, hr2, hb2⟩; obtain ⟨A2, k2, rfl⟩ := hr2.open; have g1 := cell_blk (hk_below HX1.out.1 hb2); have g2 := cell_blk (hk_below HX1.out.2.1 hb2); have d3 := cell_blk (hk_below HX1.out.2.2.1 hb2); have e3 := frozen_blk (hk_below HX1.out.2.2.1 hb2); have HX2 := Lib.hid (And.intro (hk_below HX1.out.2.2.1 hb2) (bl_step HX1.out.2.2.2 hb2)); have HR2 := Lib.hid hr2; clear hr2 hb2))
      clear c1 c2 c3 f3
      go_wp2
      have cr := cell_blk (set_to (set_to HX2.out.1 0 (.bool (q && decide (0 < trimF (bothL (-1) b a) (bothL (-1) b a).length))) rfl) 1 (.slice A2 ((bothL (-1) b a).take (trimF (bothL (-1) b a) (bothL (-1) b a).length)).length k2) rfl)
      rw [List.length_take] at cr
      have HR3 := HR2.out
      rw [List.length_take] at HR3
      refine bodyPost_ret (v := .agg #[.bool (q && decide (0 < trimF (bothL (-1) b a) (bothL (-1) b a).length)), .slice A2 (min (trimF (bothL (-1) b a) (bothL (-1) b a).length) (bothL (-1) b a).length) k2]) (by simp [results, Tryz.results159, go_sem, cr]) rfl ⟨_, rfl, clean_num (bothL_dig (.inr rfl) HC.out.2.1 HC.out.1.1) HSM.out HSG.out (num_cells HR3 HX2.out.1), bl_set (bl_set HX2.out.2 (by simp; omega) _) (by simp; omega) _⟩
    | false =>
      obtain ⟨hv, hg⟩ := num_more HC.out.1 HC.out.2 HV.out.1 HV.out.2 hs hl
      have HSM := Lib.hid hv
      have HSG := Lib.hid hg
      have HLL := Lib.hid hl
      clear hs hv hg hl
      generalize decide (x < 0) = p at *
      generalize decide (y < 0) = q at *
      go_enter Tryz.func159, Tryz.ntmps159
      go_upto_region 3 with (fail)
      refine abs_world (F := AddBox p q (.slice A a.length cA) (.slice B b.length cB) w) (addBox p q _ _ w) ?_
      intro wr hbx
      have HX := Lib.hid hbx
      have c1 := cell_blk hbx.1
      have c2 := cell_blk hbx.2.1
      have c3 := cell_blk hbx.2.2.1
      have f3 := frozen_blk hbx.2.2.1
      have hA := hbx.2.2.2
      clear hbx
      have HA := Lib.hid (HA.out.below hA)
      have HB := Lib.hid (HB.out.below hA)
      clear hA
      go_wp2_with (go_at_call 169; refine (less_dec HLL.out _ _ _ HA.out HB.out la5).mono ?_; rintro e w0 ⟨rfl, hb0⟩; have HX0 := Lib.hid (AddBox.step HX.out hb0); have HA0 := Lib.hid (HA.out.below hb0); have HB0 := Lib.hid (HB.out.below hb0); clear hb0 c1 c2 c3 f3)
      have HX := HX0
      have HA := HA0
      have HB := HB0
      have c1 := cell_blk HX0.out.1
      have c2 := cell_blk HX0.out.2.1
      have c3 := cell_blk HX0.out.2.2.1
      have f3 := frozen_blk HX0.out.2.2.1
      go_region_held3 (fun W' => W'.cell? ⟨w.heap.size, 0, none⟩ = some (.bool p) ∧ W'.cell? ⟨w.heap.size, 1, none⟩ = some (.slice A a.length cA) ∧ W'.cell? ⟨w.heap.size + 1, 0, none⟩ = some (.bool q) ∧ W'.cell? ⟨w.heap.size + 1, 1, none⟩ = some (.slice B b.length cB)) (first | exact ⟨c1 0, c1 1, c2 0, c2 1⟩ | exact ⟨d1 0, d1 1, d2 0, d2 1⟩ | exact ⟨g1 0, g1 1, g2 0, g2 1⟩ | exact ⟨cset2 (by omega) (g1 0), cset2 (by omega) (g1 1), cset2 (by omega) (g2 0), cset2 (by omega) (g2 1)⟩)
        (first
          | (go_at_call 168; refine (both_any a b (-1) _ _ _ (.inr rfl) (HA.out.below (by (repeat (first | (with_reducible exact Below.refl _ _) | refine bl_drew ?_ | refine bl_drewN ?_ _ | refine bl_alloc ?_ _ | refine bl_set ?_ (Nat.le_refl _) _ | refine bl_set ?_ (Nat.le_succ _) _)))) (HB.out.below (by (repeat (first | (with_reducible exact Below.refl _ _) | refine bl_drew ?_ | refine bl_drewN ?_ _ | refine bl_alloc ?_ _ | refine bl_set ?_ (Nat.le_refl _) _ | refine bl_set ?_ (Nat.le_succ _) _)))) HC.out.1.1 HC.out.2.1 la5 lb5).mono ?_; rintro e w1 ⟨v1, rfl, ho1, hb1⟩; replace hb1 := bl_undrew hb1; have hr1 := RdI.of_own ho1; obtain ⟨A1, k1, rfl⟩ := hr1.open; have d1 := cell_blk (hk_below HX.out.1 hb1); have d2 := cell_blk (hk_below HX.out.2.1 hb1); have HX1 := Lib.hid (And.intro (hk_below HX.out.1 hb1) (And.intro (hk_below HX.out.2.1 hb1) (And.intro (hk_below HX.out.2.2.1 hb1) (bl_step HX.out.2.2.2 hb1)))); have HO1 := Lib.hid hr1; clear ho1 hr1 hb1)
          | (go_at_call 158; refine (clean_any (bothL (-1) a b) _ _ _ HO1.out (HL.out (-1))).mono ?_; rintro e w2 ⟨f2, rfl, hr2, hb2⟩; obtain ⟨A2, k2, rfl⟩ := hr2.open; have g1 := cell_blk (hk_below HX1.out.1 hb2); have g2 := cell_blk (hk_below HX1.out.2.1 hb2); have d3 := cell_blk (hk_below HX1.out.2.2.1 hb2); have e3 := frozen_blk (hk_below HX1.out.2.2.1 hb2); have HX2 := Lib.hid (And.intro (hk_below HX1.out.2.2.1 hb2) (bl_step HX1.out.2.2.2 hb2)); have HR2 := Lib.hid hr2; clear hr2 hb2))
      clear c1 c2 c3 f3
      go_wp2
      have cr := cell_blk (set_to (set_to HX2.out.1 0 (.bool (p && decide (0 < trimF (bothL (-1) a b) (bothL (-1) a b).length))) rfl) 1 (.slice A2 ((bothL (-1) a b).take (trimF (bothL (-1) a b) (bothL (-1) a b).length)).length k2) rfl)
      rw [List.length_take] at cr
      have HR3 := HR2.out
      rw [List.length_take] at HR3
      refine bodyPost_ret (v := .agg #[.bool (p && decide (0 < trimF (bothL (-1) a b) (bothL (-1) a b).length)), .slice A2 (min (trimF (bothL (-1) a b) (bothL (-1) a b).length) (bothL (-1) a b).length) k2]) (by simp [results, Tryz.results159, go_sem, cr]) rfl ⟨_, rfl, clean_num (bothL_dig (.inr rfl) HC.out.1.1 HC.out.2.1) HSM.out HSG.out (num_cells HR3 HX2.out.1), bl_set (bl_set HX2.out.2 (by simp; omega) _) (by simp; omega) _⟩
end Go.Proofs.YtdlkdecigpaaaaaGreatDoor
