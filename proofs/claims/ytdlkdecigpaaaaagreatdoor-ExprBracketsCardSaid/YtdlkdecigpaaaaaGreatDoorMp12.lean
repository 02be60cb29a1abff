/- Put together: The document's numbers: Add, Neg; The document's numbers: Neg, Less, Fits; The document's numbers: Mul; The document's numbers: Fits. -/
import Derived.Deep.RegionHeld3
import Derived.Test.YtdlkdecigpaaaaaGreatDoorMp9
namespace Go.Proofs.YtdlkdecigpaaaaaGreatDoor
set_option linter.unusedVariables false
set_option linter.unusedSimpArgs false
open Go.RowKit

/-- A value is the document's number of an integer. -/
def NumV (w : World) (v : Value) (z : Int) : Prop := ∃ f l, v = .agg #[.bool (decide (z < 0)), f] ∧ RdI w f l ∧ Can l ∧ valF l = z.natAbs
theorem NumV.below {w w1 : World} {v : Value} {z : Int} (h : NumV w v z) (hb : Below w.heap.size w w1) : NumV w1 v z := by
  obtain ⟨f, l, hv, hr, hc⟩ := h; exact ⟨f, l, hv, hr.below hb, hc⟩
theorem bl_undrew {w w1 : World} (h : Below w.drew.heap.size w.drew w1) : Below w.heap.size w w1 := ⟨h.os, h.tape, h.output, h.size, h.block⟩
theorem cset2 {w : World} {g k i a b : Nat} {x y : Value} {r : Option Value} (hne : g ≠ k) (h : w.cell? ⟨g, i, none⟩ = r) : ((w.setCell ⟨k, a, none⟩ x).setCell ⟨k, b, none⟩ y).cell? ⟨g, i, none⟩ = r := by
  rw [← h]
  show (match ((w.setCell ⟨k, a, none⟩ x).setCell ⟨k, b, none⟩ y).heap[g]? with | some (.cells cs _ _) => _ | _ => _) = _
  rw [Below.heap_setCell _ _ _ _ hne, Below.heap_setCell _ _ _ _ hne]; rfl
theorem num_cells {w : World} {k : Nat} {cs : Array Value} {a b : Nat} {x y v : Value} {l : List Int} (h : RdI w v l) (hk : w.heap[k]? = some (.cells cs 155 (0, 0))) {bb : Bool} (h0 : cs[0]? = some (.bool bb) := by rfl) : RdI ((w.setCell ⟨k, a, none⟩ x).setCell ⟨k, b, none⟩ y) v l := by
  obtain ⟨A, c, rfl, hc, hm, hr⟩ := h
  refine ⟨A, c, rfl, hc, hm, fun j x hx => ?_⟩
  obtain ⟨g, hA, hcell⟩ := hr j x hx
  refine ⟨g, hA, cset2 (fun e => ?_) hcell⟩
  subst e
  have hj := (List.getElem?_eq_some_iff.1 hx).1
  obtain ⟨g2, hA2, hc2⟩ := hr 0 l[0] (List.getElem?_eq_getElem (by omega))
  rw [hA] at hA2
  injection hA2 with hA2; injection hA2 with hA2 _ _
  rw [← hA2, cell_blk hk, h0] at hc2
  injection hc2 with hc2; cases hc2
theorem can_len {l : List Int} {k : Nat} (h : Can l) (hv : valF l < 10000 ^ k) : l.length ≤ k := by
  by_cases hl : l.length ≤ k
  · exact hl
  · have h1 := valF_ge h (by intro e; rw [e] at hl; simp at hl)
    have : (10000 : Int) ^ k ≤ 10000 ^ (l.length - 1) := by
      have e : l.length - 1 = k + (l.length - 1 - k) := by omega
      rw [e, Int.pow_add]
      have h4 := pow_pos' k
      have h5 := pow_pos' (l.length - 1 - k)
      have h6 : (10000 : Int) ^ k * 1 ≤ 10000 ^ k * 10000 ^ (l.length - 1 - k) := Int.mul_le_mul_of_nonneg_left (by omega) (by omega)
      omega
    omega
theorem dig_len_can {l : List Int} (hd : Dig l) : Can (l.take (trimF l l.length)) ∧ valF (l.take (trimF l l.length)) = valF l := by
  have h1 := trim_can hd l.length (Nat.le_refl _)
  have h2 := trim_val l l.length (Nat.le_refl _)
  rw [List.take_of_length_le (Nat.le_refl l.length)] at h2
  exact ⟨h1, h2⟩
/-- What clean makes of figures. -/
theorem clean_num {l : List Int} {b : Bool} {z : Int} {w : World} {f : Value} (hd : Dig l) (hv : valF l = z.natAbs) (hb : z ≠ 0 → b = decide (z < 0)) (hf : RdI w f (l.take (trimF l l.length))) :
    NumV w (.agg #[.bool (b && decide (0 < trimF l l.length)), f]) z := by
  obtain ⟨h1, h2⟩ := dig_len_can hd
  refine ⟨f, _, ?_, hf, h1, by rw [h2, hv]⟩
  by_cases hz : z = 0
  · subst hz
    have h0 : valF (l.take (trimF l l.length)) = 0 := by rw [h2, hv]; rfl
    have : trimF l l.length = 0 := by
      by_cases e : trimF l l.length = 0
      · exact e
      · have := valF_pos h1 (by intro e2; have := congrArg List.length e2; rw [List.length_take, List.length_nil] at this; have := trim_le l l.length; omega)
        omega
    rw [this]; simp
  · rw [hb hz]
    have : 0 < trimF l l.length := by
      by_cases e : trimF l l.length = 0
      · rw [e] at h2; simp [valF] at h2; omega
      · omega
    simp [this]
section
variable {a b : List Int} {x y : Int}
theorem num_same (ha : Can a) (hb : Can b) (hx : valF a = x.natAbs) (hy : valF b = y.natAbs) (h : decide (x < 0) = decide (y < 0)) : valF (bothL 1 a b) = (x + y).natAbs := by
  rw [bothL_add ha.1 hb.1, hx, hy]
  simp only [decide_eq_decide] at h; omega
theorem num_less (ha : Can a) (hb : Can b) (hx : valF a = x.natAbs) (hy : valF b = y.natAbs) (h : decide (x < 0) ≠ decide (y < 0)) (hl : lessL a b = true) : valF (bothL (-1) b a) = (x + y).natAbs ∧ decide (y < 0) = decide (x + y < 0) := by
  rw [lessL_val ha hb, hx, hy] at hl
  simp only [decide_eq_true_eq] at hl
  rw [bothL_sub hb.1 ha.1 (by omega), hx, hy]
  rw [ne_eq, decide_eq_decide] at h
  rw [decide_eq_decide]
  omega
theorem num_more (ha : Can a) (hb : Can b) (hx : valF a = x.natAbs) (hy : valF b = y.natAbs) (h : decide (x < 0) ≠ decide (y < 0)) (hl : lessL a b = false) : valF (bothL (-1) a b) = (x + y).natAbs ∧ (x + y ≠ 0 → decide (x < 0) = decide (x + y < 0)) := by
  rw [lessL_val ha hb, hx, hy] at hl
  simp only [decide_eq_false_iff_not] at hl
  rw [bothL_sub ha.1 hb.1 (by omega), hx, hy]
  rw [ne_eq, decide_eq_decide] at h
  rw [decide_eq_decide]
  omega
end
theorem bothL_lens (s : Int) {a b : List Int} (ha : a.length ≤ 100000) (hb : b.length ≤ 100000) : (bothL s a b).length ≤ 1000000 := by have := bothL_len s a b; omega
def AddBox (p q : Bool) (fa fb : Value) (w W : World) : Prop :=
  W.heap[w.heap.size]? = some (.cells #[.bool p, fa] 155 (0, 0)) ∧ W.heap[w.heap.size + 1]? = some (.cells #[.bool q, fb] 155 (0, 0)) ∧ W.heap[w.heap.size + 1 + 1]? = some (.cells #[.bool false, .slice none 0 0] 155 (0, 0)) ∧ Below w.heap.size w W
theorem addBox (p q : Bool) (fa fb : Value) (w : World) : AddBox p q fa fb w (((w.alloc (.cells #[.bool p, fa] 155)).alloc (.cells #[.bool q, fb] 155)).alloc (.cells #[.bool false, .slice none 0 0] 155)) :=
  ⟨hk_alloc (hk_alloc (new_blk _ _) _) _, hk_alloc (by have := new_blk (w.alloc (.cells #[.bool p, fa] 155)) (.cells #[.bool q, fb] 155); rw [World.size_alloc] at this; exact this) _,
    by have := new_blk ((w.alloc (.cells #[.bool p, fa] 155)).alloc (.cells #[.bool q, fb] 155)) (.cells #[.bool false, .slice none 0 0] 155); rw [World.size_alloc, World.size_alloc] at this; exact this, bl_alloc (bl_alloc (bl_alloc (Below.refl _ _) _) _) _⟩
theorem AddBox.step {p q : Bool} {fa fb : Value} {w W W1 : World} (h : AddBox p q fa fb w W) (hb : Below W.heap.size W W1) : AddBox p q fa fb w W1 :=
  ⟨hk_below h.1 hb, hk_below h.2.1 hb, hk_below h.2.2.1 hb, bl_step h.2.2.2 hb⟩
theorem less_dec {a b : List Int} {r : Bool} (h : lessL a b = r) (va vb : Value) (w : World) (ha : RdI w va a) (hb : RdI w vb b) (hl : a.length ≤ 1000000) :
    Calls Tryz.prog 169 #[va, vb] w fun e w' => e = .returned (.bool r) ∧ Below w.heap.size w w' := h ▸ less2_any a b va vb w ha hb hl
set_option maxRecDepth 20000 in
set_option maxHeartbeats 4000000 in
theorem add_any (va vb : Value) (x y : Int) (k : Nat) (w : World) (ha : NumV w va x) (hb : NumV w vb y) (hx : (x.natAbs : Int) < 10000 ^ k) (hy : (y.natAbs : Int) < 10000 ^ k) (hk : k ≤ 100000) :
    Calls Tryz.prog 159 #[va, vb] w fun e w' => ∃ v, e = .returned v ∧ NumV w' v (x + y) ∧ Below w.heap.size w w' := by
  obtain ⟨fa, a, rfl, ra, ca, xa⟩ := ha
  obtain ⟨fb, b, rfl, rb, cb, yb⟩ := hb
  obtain ⟨A, cA, rfl⟩ := ra.open
  obtain ⟨B, cB, rfl⟩ := rb.open
  have la := can_len ca (by rw [xa]; exact hx)
  have lb := can_len cb (by rw [yb]; exact hy)
  have la5 : a.length ≤ 1000000 := by omega
  have lb5 : b.length ≤ 1000000 := by omega
  have HL := Lib.hid (fun s => bothL_lens s (a := a) (b := b) (by omega) (by omega))
  have HL2 := Lib.hid (fun s => bothL_lens s (a := b) (b := a) (by omega) (by omega))
  have HC := Lib.hid (And.intro ca cb)
  have HV := Lib.hid (And.intro xa yb)
  have HA := Lib.hid ra
  have HB := Lib.hid rb
  clear hx hy la lb xa yb ca cb ra rb
  by_cases hs : decide (x < 0) = decide (y < 0)
  · have hsb : (decide (x < 0) == decide (y < 0)) = true := by rw [hs]; simp
    have HS := Lib.hid hs
    have HSM := Lib.hid (num_same HC.out.1 HC.out.2 HV.out.1 HV.out.2 hs)
    have HSG : Hid (x + y ≠ 0 → decide (x < 0) = decide (x + y < 0)) := Lib.hid (fun _ => by rw [decide_eq_decide] at *; omega)
    clear hs
    generalize decide (x < 0) = p at *
    generalize decide (y < 0) = q at *
    go_enter Tryz.func159, Tryz.ntmps159
    go_wp2
    refine abs_world (F := AddBox p q (.slice A a.length cA) (.slice B b.length cB) w) (addBox p q _ _ w) ?_
    intro wr hbx
    have HX := Lib.hid hbx
    have c1 := cell_blk hbx.1
    have c2 := cell_blk hbx.2.1
    have c3 := cell_blk hbx.2.2.1
    have f3 := frozen_blk hbx.2.2.1
    have hA := hbx.2.2.2
    clear hbx
    have HA := Lib.hid (HA.out.below hA)
    have HB := Lib.hid (HB.out.below hA)
    clear hA
    go_region_held3 (fun W' => W'.cell? ⟨w.heap.size, 0, none⟩ = some (.bool p) ∧ W'.cell? ⟨w.heap.size, 1, none⟩ = some (.slice A a.length cA) ∧ W'.cell? ⟨w.heap.size + 1, 0, none⟩ = some (.bool q) ∧ W'.cell? ⟨w.heap.size + 1, 1, none⟩ = some (.slice B b.length cB)) (first | exact ⟨c1 0, c1 1, c2 0, c2 1⟩ | exact ⟨d1 0, d1 1, d2 0, d2 1⟩ | exact ⟨g1 0, g1 1, g2 0, g2 1⟩ | exact ⟨cset2 (by omega) (g1 0), cset2 (by omega) (g1 1), cset2 (by omega) (g2 0), cset2 (by omega) (g2 1)⟩)
      (first
        | (go_at_call 168; refine (both_any a b (1) _ _ _ (.inl rfl) (HA.out.below (by (repeat (first | (with_reducible exact Below.refl _ _) | refine bl_drew ?_ | refine bl_drewN ?_ _ | refine bl_alloc ?_ _ | refine bl_set ?_ (Nat.le_refl _) _ | refine bl_set ?_ (Nat.le_succ _) _)))) (HB.out.below (by (repeat (first | (with_reducible exact Below.refl _ _) | refine bl_drew ?_ | refine bl_drewN ?_ _ | refine bl_alloc ?_ _ | refine bl_set ?_ (Nat.le_refl _) _ | refine bl_set ?_ (Nat.le_succ _) _)))) HC.out.1.1 HC.out.2.1 la5 lb5).mono ?_; rintro e w1 ⟨v1, rfl, ho1, hb1⟩; replace hb1 := bl_undrew hb1; have hr1 := RdI.of_own ho1; obtain ⟨A1, k1, rfl⟩ := hr1.open; have d1 := cell_blk (hk_below HX.out.1 hb1); have d2 := cell_blk (hk_below HX.out.2.1 hb1); have HX1 := Lib.hid (And.intro (hk_below HX.out.1 hb1) (And.intro (hk_below HX.out.2.1 hb1) (And.intro (hk_below HX.out.2.2.1 hb1) (bl_step HX.out.2.2.2 hb1)))); have HO1 := Lib.hid hr1; clear ho1 hr1 hb1)
        | (go_at_call 158; refine (clean_any (bothL (1) a b) _ _ _ HO1.out (HL.out 1)).mono ?_; rintro e w2 ⟨f2, rfl, hr2, hb2⟩; obtain ⟨A2, k2, rfl⟩ := hr2.open; have g1 := cell_blk (hk_below HX1.out.1 hb2); have g2 := cell_blk (hk_below HX1.out.2.1 hb2); have d3 := cell_blk (hk_below HX1.out.2.2.1 hb2); have e3 := frozen_blk (hk_below HX1.out.2.2.1 hb2); have HX2 := Lib.hid (And.intro (hk_below HX1.out.2.2.1 hb2) (bl_step HX1.out.2.2.2 hb2)); have HR2 := Lib.hid hr2; clear hr2 hb2))
    clear c1 c2 c3 f3
    go_wp2
    have cr := cell_blk (set_to (set_to HX2.out.1 0 (.bool (p && decide (0 < trimF (bothL (1) a b) (bothL (1) a b).length))) rfl) 1 (.slice A2 ((bothL (1) a b).take (trimF (bothL (1) a b) (bothL (1) a b).length)).length k2) rfl)
    rw [List.length_take] at cr
    have HR3 := HR2.out
    rw [List.length_take] at HR3
    refine bodyPost_ret (v := .agg #[.bool (p && decide (0 < trimF (bothL (1) a b) (bothL (1) a b).length)), .slice A2 (min (trimF (bothL (1) a b) (bothL (1) a b).length) (bothL (1) a b).length) k2]) (by simp [results, Tryz.results159, go_sem, cr]) rfl ⟨_, rfl, clean_num (bothL_dig (.inl rfl) HC.out.1.1 HC.out.2.1) HSM.out HSG.out (num_cells HR3 HX2.out.1), bl_set (bl_set HX2.out.2 (by simp; omega) _) (by simp; omega) _⟩
  · have hsb : (decide (x < 0) == decide (y < 0)) = false := by simpa using hs
    cases hl : lessL a b with
    | true =>
      obtain ⟨hv, hg⟩ := num_less HC.out.1 HC.out.2 HV.out.1 HV.out.2 hs hl
      have HSM := Lib.hid hv
      have HSG : Hid (x + y ≠ 0 → decide (y < 0) = decide (x + y < 0)) := Lib.hid (fun _ => hg)
      have HLL := Lib.hid hl
      clear hs hv hg hl
      generalize decide (x < 0) = p at *
      generalize decide (y < 0) = q at *
      go_enter Tryz.func159, Tryz.ntmps159
      go_upto_region 3 with (fail)
      refine abs_world (F := AddBox p q (.slice A a.length cA) (.slice B b.length cB) w) (addBox p q _ _ w) ?_
      intro wr hbx
      have HX := Lib.hid hbx
      have c1 := cell_blk hbx.1
      have c2 := cell_blk hbx.2.1
      have c3 := cell_blk hbx.2.2.1
      have f3 := frozen_blk hbx.2.2.1
      have hA := hbx.2.2.2
      clear hbx
      have HA := Lib.hid (HA.out.below hA)
      have HB := Lib.hid (HB.out.below hA)
      clear hA
      go_wp2_with (go_at_call 169; refine (less_dec HLL.out _ _ _ HA.out HB.out la5).mono ?_; rintro e w0 ⟨rfl, hb0⟩; have HX0 := Lib.hid (AddBox.step HX.out hb0); have HA0 := Lib.hid (HA.out.below hb0); have HB0 := Lib.hid (HB.out.below hb0); clear hb0 c1 c2 c3 f3)
      have HX := HX0
      have HA := HA0
      have HB := HB0
      have c1 := cell_blk HX0.out.1
      have c2 := cell_blk HX0.out.2.1
      have c3 := cell_blk HX0.out.2.2.1
      have f3 := frozen_blk HX0.out.2.2.1
      go_region_held3 (fun W' => W'.cell? ⟨w.heap.size, 0, none⟩ = some (.bool p) ∧ W'.cell? ⟨w.heap.size, 1, none⟩ = some (.slice A a.length cA) ∧ W'.cell? ⟨w.heap.size + 1, 0, none⟩ = some (.bool q) ∧ W'.cell? ⟨w.heap.size + 1, 1, none⟩ = some (.slice B b.length cB)) (first | exact ⟨c1 0, c1 1, c2 0, c2 1⟩ | exact ⟨d1 0, d1 1, d2 0, d2 1⟩ | exact ⟨g1 0, g1 1, g2 0, g2 1⟩ | exact ⟨cset2 (by omega) (g1 0), cset2 (by omega) (g1 1), cset2 (by omega) (g2 0), cset2 (by omega) (g2 1)⟩)
        (first
          | (go_at_call 168; refine (both_any b a (-1) _ _ _ (.inr rfl) (HB.out.below (by (repeat (first | (with_reducible exact Below.refl _ _) | refine bl_drew ?_ | refine bl_drewN ?_ _ | refine bl_alloc ?_ _ | refine bl_set ?_ (Nat.le_refl _) _ | refine bl_set ?_ (Nat.le_succ _) _)))) (HA.out.below (by (repeat (first | (with_reducible exact Below.refl _ _) | refine bl_drew ?_ | refine bl_drewN ?_ _ | refine bl_alloc ?_ _ | refine bl_set ?_ (Nat.le_refl _) _ | refine bl_set ?_ (Nat.le_succ _) _)))) HC.out.2.1 HC.out.1.1 lb5 la5).mono ?_; rintro e w1 ⟨v1, rfl, ho1, hb1⟩; replace hb1 := bl_undrew hb1; have hr1 := RdI.of_own ho1; obtain ⟨A1, k1, rfl⟩ := hr1.open; have d1 := cell_blk (hk_below HX.out.1 hb1); have d2 := cell_blk (hk_below HX.out.2.1 hb1); have HX1 := Lib.hid (And.intro (hk_below HX.out.1 hb1) (And.intro (hk_below HX.out.2.1 hb1) (And.intro (hk_below HX.out.2.2.1 hb1) (bl_step HX.out.2.2.2 hb1)))); have HO1 := Lib.hid hr1; clear ho1 hr1 hb1)
          | (go_at_call 158; refine (clean_any (bothL (-1) b a) _ _ _ HO1.out (HL2.out (-1))).mono ?_; rintro e w2 ⟨f2, rfl, hr2, hb2⟩; obtain ⟨A2, k2, rfl⟩ := hr2.open; have g1 := cell_blk (hk_below HX1.out.1 hb2); have g2 := cell_blk (hk_below HX1.out.2.1 hb2); have d3 := cell_blk (hk_below HX1.out.2.2.1 hb2); have e3 := frozen_blk (hk_below HX1.out.2.2.1 hb2); have HX2 := Lib.hid (And.intro (hk_below HX1.out.2.2.1 hb2) (bl_step HX1.out.2.2.2 hb2)); have HR2 := Lib.hid hr2; clear hr2 hb2))
      clear c1 c2 c3 f3
      go_wp2
      have cr := cell_blk (set_to (set_to HX2.out.1 0 (.bool (q && decide (0 < trimF (bothL (-1) b a) (bothL (-1) b a).length))) rfl) 1 (.slice A2 ((bothL (-1) b a).take (trimF (bothL (-1) b a) (bothL (-1) b a).length)).length k2) rfl)
      rw [List.length_take] at cr
      have HR3 := HR2.out
      rw [List.length_take] at HR3
      refine bodyPost_ret (v := .agg #[.bool (q && decide (0 < trimF (bothL (-1) b a) (bothL (-1) b a).length)), .slice A2 (min (trimF (bothL (-1) b a) (bothL (-1) b a).length) (bothL (-1) b a).length) k2]) (by simp [results, Tryz.results159, go_sem, cr]) rfl ⟨_, rfl, clean_num (bothL_dig (.inr rfl) HC.out.2.1 HC.out.1.1) HSM.out HSG.out (num_cells HR3 HX2.out.1), bl_set (bl_set HX2.out.2 (by simp; omega) _) (by simp; omega) _⟩
    | false =>
      obtain ⟨hv, hg⟩ := num_more HC.out.1 HC.out.2 HV.out.1 HV.out.2 hs hl
      have HSM := Lib.hid hv
      have HSG := Lib.hid hg
      have HLL := Lib.hid hl
      clear hs hv hg hl
      generalize decide (x < 0) = p at *
      generalize decide (y < 0) = q at *
      go_enter Tryz.func159, Tryz.ntmps159
      go_upto_region 3 with (fail)
      refine abs_world (F := AddBox p q (.slice A a.length cA) (.slice B b.length cB) w) (addBox p q _ _ w) ?_
      intro wr hbx
      have HX := Lib.hid hbx
      have c1 := cell_blk hbx.1
      have c2 := cell_blk hbx.2.1
      have c3 := cell_blk hbx.2.2.1
      have f3 := frozen_blk hbx.2.2.1
      have hA := hbx.2.2.2
      clear hbx
      have HA := Lib.hid (HA.out.below hA)
      have HB := Lib.hid (HB.out.below hA)
      clear hA
      go_wp2_with (go_at_call 169; refine (less_dec HLL.out _ _ _ HA.out HB.out la5).mono ?_; rintro e w0 ⟨rfl, hb0⟩; have HX0 := Lib.hid (AddBox.step HX.out hb0); have HA0 := Lib.hid (HA.out.below hb0); have HB0 := Lib.hid (HB.out.below hb0); clear hb0 c1 c2 c3 f3)
      have HX := HX0
      have HA := HA0
      have HB := HB0
      have c1 := cell_blk HX0.out.1
      have c2 := cell_blk HX0.out.2.1
      have c3 := cell_blk HX0.out.2.2.1
      have f3 := frozen_blk HX0.out.2.2.1
      go_region_held3 (fun W' => W'.cell? ⟨w.heap.size, 0, none⟩ = some (.bool p) ∧ W'.cell? ⟨w.heap.size, 1, none⟩ = some (.slice A a.length cA) ∧ W'.cell? ⟨w.heap.size + 1, 0, none⟩ = some (.bool q) ∧ W'.cell? ⟨w.heap.size + 1, 1, none⟩ = some (.slice B b.length cB)) (first | exact ⟨c1 0, c1 1, c2 0, c2 1⟩ | exact ⟨d1 0, d1 1, d2 0, d2 1⟩ | exact ⟨g1 0, g1 1, g2 0, g2 1⟩ | exact ⟨cset2 (by omega) (g1 0), cset2 (by omega) (g1 1), cset2 (by omega) (g2 0), cset2 (by omega) (g2 1)⟩)
        (first
          | (go_at_call 168; refine (both_any a b (-1) _ _ _ (.inr rfl) (HA.out.below (by (repeat (first | (with_reducible exact Below.refl _ _) | refine bl_drew ?_ | refine bl_drewN ?_ _ | refine bl_alloc ?_ _ | refine bl_set ?_ (Nat.le_refl _) _ | refine bl_set ?_ (Nat.le_succ _) _)))) (HB.out.below (by (repeat (first | (with_reducible exact Below.refl _ _) | refine bl_drew ?_ | refine bl_drewN ?_ _ | refine bl_alloc ?_ _ | refine bl_set ?_ (Nat.le_refl _) _ | refine bl_set ?_ (Nat.le_succ _) _)))) HC.out.1.1 HC.out.2.1 la5 lb5).mono ?_; rintro e w1 ⟨v1, rfl, ho1, hb1⟩; replace hb1 := bl_undrew hb1; have hr1 := RdI.of_own ho1; obtain ⟨A1, k1, rfl⟩ := hr1.open; have d1 := cell_blk (hk_below HX.out.1 hb1); have d2 := cell_blk (hk_below HX.out.2.1 hb1); have HX1 := Lib.hid (And.intro (hk_below HX.out.1 hb1) (And.intro (hk_below HX.out.2.1 hb1) (And.intro (hk_below HX.out.2.2.1 hb1) (bl_step HX.out.2.2.2 hb1)))); have HO1 := Lib.hid hr1; clear ho1 hr1 hb1)
          | (go_at_call 158; refine (clean_any (bothL (-1) a b) _ _ _ HO1.out (HL.out (-1))).mono ?_; rintro e w2 ⟨f2, rfl, hr2, hb2⟩; obtain ⟨A2, k2, rfl⟩ := hr2.open; have g1 := cell_blk (hk_below HX1.out.1 hb2); have g2 := cell_blk (hk_below HX1.out.2.1 hb2); have d3 := cell_blk (hk_below HX1.out.2.2.1 hb2); have e3 := frozen_blk (hk_below HX1.out.2.2.1 hb2); have HX2 := Lib.hid (And.intro (hk_below HX1.out.2.2.1 hb2) (bl_step HX1.out.2.2.2 hb2)); have HR2 := Lib.hid hr2; clear hr2 hb2))
      clear c1 c2 c3 f3
      go_wp2
      have cr := cell_blk (set_to (set_to HX2.out.1 0 (.bool (p && decide (0 < trimF (bothL (-1) a b) (bothL (-1) a b).length))) rfl) 1 (.slice A2 ((bothL (-1) a b).take (trimF (bothL (-1) a b) (bothL (-1) a b).length)).length k2) rfl)
      rw [List.length_take] at cr
      have HR3 := HR2.out
      rw [List.length_take] at HR3
      refine bodyPost_ret (v := .agg #[.bool (p && decide (0 < trimF (bothL (-1) a b) (bothL (-1) a b).length)), .slice A2 (min (trimF (bothL (-1) a b) (bothL (-1) a b).length) (bothL (-1) a b).length) k2]) (by simp [results, Tryz.results159, go_sem, cr]) rfl ⟨_, rfl, clean_num (bothL_dig (.inr rfl) HC.out.1.1 HC.out.2.1) HSM.out HSG.out (num_cells HR3 HX2.out.1), bl_set (bl_set HX2.out.2 (by simp; omega) _) (by simp; omega) _⟩
end Go.Proofs.YtdlkdecigpaaaaaGreatDoor
namespace Go.Proofs.YtdlkdecigpaaaaaGreatDoor
set_option linter.unusedVariables false
set_option linter.unusedSimpArgs false
open Go.RowKit

theorem NumV.shape {w : World} {v : Value} {z : Int} (h : NumV w v z) : ∃ b A n c, v = .agg #[.bool b, .slice A n c] := by
  obtain ⟨f, l, rfl, hr, _⟩ := h
  obtain ⟨A, c, rfl⟩ := hr.open
  exact ⟨_, _, _, _, rfl⟩
theorem NumV.sign {w : World} {b : Bool} {f : Value} {z : Int} (h : NumV w (.agg #[.bool b, f]) z) : b = decide (z < 0) := by
  obtain ⟨f, l, hv, _⟩ := h
  injection hv with hv; simp at hv; exact hv.1
def NegBox (p : Bool) (fa : Value) (w W : World) : Prop :=
  W.heap[w.heap.size]? = some (.cells #[.bool p, fa] 155 (0, 0)) ∧ W.heap[w.heap.size + 1]? = some (.cells #[.bool false, .slice none 0 0] 155 (0, 0)) ∧ Below w.heap.size w W
theorem negBox (p : Bool) (fa : Value) (w : World) : NegBox p fa w ((w.alloc (.cells #[.bool p, fa] 155)).alloc (.cells #[.bool false, .slice none 0 0] 155)) :=
  ⟨hk_alloc (new_blk _ _) _, by have := new_blk (w.alloc (.cells #[.bool p, fa] 155)) (.cells #[.bool false, .slice none 0 0] 155); rw [World.size_alloc] at this; exact this, bl_alloc (bl_alloc (Below.refl _ _) _) _⟩
set_option maxRecDepth 20000 in
set_option maxHeartbeats 4000000 in
theorem neg_any (va : Value) (x : Int) (k : Nat) (w : World) (ha : NumV w va x) (hx : (x.natAbs : Int) < 10000 ^ k) (hk : k ≤ 100000) :
    Calls Tryz.prog 149 #[va] w fun e w' => ∃ v, e = .returned v ∧ NumV w' v (-x) ∧ Below w.heap.size w w' := by
  obtain ⟨fa, a, rfl, ra, ca, xa⟩ := ha
  have la := can_len ca (by rw [xa]; exact hx)
  obtain ⟨A, cA, rfl⟩ := ra.open
  have la5 : a.length ≤ 1000000 := by omega
  have HA := Lib.hid ra
  have HC := Lib.hid ca
  have HS : Hid (valF a = (-x).natAbs ∧ (-x ≠ 0 → (!decide (x < 0)) = decide (-x < 0))) := Lib.hid ⟨by omega, fun h => by by_cases h1 : x < 0 <;> simp [h1] <;> omega⟩
  clear hx la ra ca xa
  generalize decide (x < 0) = p at *
  have hq : ∃ q, (!p) = q := ⟨_, rfl⟩
  obtain ⟨q, hq⟩ := hq
  rw [hq] at HS
  go_enter Tryz.func149, Tryz.ntmps149
  go_upto_region 1 with (fail)
  refine abs_world (F := NegBox p (.slice A a.length cA) w) (negBox p _ w) ?_
  intro wr hbx
  have HX := Lib.hid hbx
  have c1 := cell_blk hbx.1
  have HA := Lib.hid (HA.out.below hbx.2.2)
  clear hbx
  go_wp2_with (go_at_call 158; refine (clean_any a q _ _ HA.out la5).mono ?_; rintro e w2 ⟨f2, rfl, hr2, hb2⟩; obtain ⟨A2, k2, rfl⟩ := hr2.open; have d3 := cell_blk (hk_below HX.out.2.1 hb2); have e3 := frozen_blk (hk_below HX.out.2.1 hb2); have HX2 := Lib.hid (And.intro (hk_below HX.out.2.1 hb2) (bl_step HX.out.2.2 hb2)); have HR2 := Lib.hid hr2; clear hr2 hb2)
  have cr := cell_blk (set_to (set_to HX2.out.1 0 (.bool (q && decide (0 < trimF a a.length))) rfl) 1 (.slice A2 (a.take (trimF a a.length)).length k2) rfl)
  rw [List.length_take] at cr
  have HR3 := HR2.out
  rw [List.length_take] at HR3
  refine bodyPost_ret (v := .agg #[.bool (q && decide (0 < trimF a a.length)), .slice A2 (min (trimF a a.length) a.length) k2]) (by simp [results, Tryz.results149, go_sem, cr]) rfl ⟨_, rfl, clean_num HC.out.1 HS.out.1 HS.out.2 (num_cells HR3 HX2.out.1), bl_set (bl_set HX2.out.2 (by simp) _) (by simp) _⟩

theorem ret_v {a b : Bool} {w w' : World} (h : a = b) (hb : Below w.heap.size w w') : Ending.returned (.bool a) = .returned (.bool b) ∧ Below w.heap.size w w' := ⟨by rw [h], hb⟩
def LessBox (va vb : Array Value) (w W : World) : Prop :=
  W.heap[w.heap.size]? = some (.cells va 155 (0, 0)) ∧ W.heap[w.heap.size + 1]? = some (.cells vb 155 (0, 0)) ∧ Below w.heap.size w W
theorem lessBox (va vb : Array Value) (w : World) : LessBox va vb w ((w.alloc (.cells va 155)).alloc (.cells vb 155)) :=
  ⟨hk_alloc (new_blk _ _) _, by have := new_blk (w.alloc (.cells va 155)) (.cells vb 155); rw [World.size_alloc] at this; exact this, bl_alloc (bl_alloc (Below.refl _ _) _) _⟩
abbrev Four (g h : Nat) (a b c d : Value) (W : World) : Prop := W.cell? ⟨g, 0, none⟩ = some a ∧ W.cell? ⟨g, 1, none⟩ = some b ∧ W.cell? ⟨h, 0, none⟩ = some c ∧ W.cell? ⟨h, 1, none⟩ = some d
section
variable {w W W1 : World} {g h k i j : Nat} {a b c d x y : Value} {va vb : Array Value}
theorem four_drew (H : Four g h a b c d W) : Four g h a b c d W.drew := H
theorem cell_alloc' {r : Value} (H : W.cell? ⟨g, i, none⟩ = some r) (o : Obj) : (W.alloc o).cell? ⟨g, i, none⟩ = some r := by
  have hb : Below W.heap.size W (W.alloc o) := bl_alloc (Below.refl _ _) o
  exact (hb.cell (p := ⟨g, i, none⟩) (World.block_lt_of_cell? W _ H)).trans H
theorem four_alloc (H : Four g h a b c d W) (o : Obj) : Four g h a b c d (W.alloc o) := ⟨cell_alloc' H.1 o, cell_alloc' H.2.1 o, cell_alloc' H.2.2.1 o, cell_alloc' H.2.2.2 o⟩
theorem four_set2 (h1 : g ≠ k) (h2 : h ≠ k) (H : Four g h a b c d W) : Four g h a b c d ((W.setCell ⟨k, i, none⟩ x).setCell ⟨k, j, none⟩ y) := ⟨cset2 h1 H.1, cset2 h1 H.2.1, cset2 h2 H.2.2.1, cset2 h2 H.2.2.2⟩
theorem LessBox.drew (H : LessBox va vb w W) : LessBox va vb w W.drew := ⟨H.1, H.2.1, bl_drew H.2.2⟩
theorem LessBox.alloc (H : LessBox va vb w W) (o : Obj) : LessBox va vb w (W.alloc o) := ⟨hk_alloc H.1 o, hk_alloc H.2.1 o, bl_alloc H.2.2 o⟩
theorem LessBox.step (H : LessBox va vb w W) (hb : Below W.heap.size W W1) : LessBox va vb w W1 := ⟨hk_below H.1 hb, hk_below H.2.1 hb, bl_step H.2.2 hb⟩
theorem LessBox.four (H : LessBox #[a, b] #[c, d] w W) : Four w.heap.size (w.heap.size + 1) a b c d W := ⟨cell_blk H.1 0, cell_blk H.1 1, cell_blk H.2.1 0, cell_blk H.2.1 1⟩
theorem LessBox.size (H : LessBox va vb w W) : w.heap.size + 2 ≤ W.heap.size := hk_lt H.2.1
end
set_option maxRecDepth 20000 in
set_option maxHeartbeats 400000 in
theorem lessN_any (va vb : Value) (x y : Int) (k : Nat) (w : World) (ha : NumV w va x) (hb : NumV w vb y) (hx : (x.natAbs : Int) < 10000 ^ k) (hy : (y.natAbs : Int) < 10000 ^ k) (hk : k ≤ 100000) :
    Calls Tryz.prog 161 #[va, vb] w fun e w' => e = .returned (.bool (decide (x < y))) ∧ Below w.heap.size w w' := by
  have HA := Lib.hid ha
  have HB := Lib.hid hb
  have HK := Lib.hid (And.intro hx (And.intro (show ((-y).natAbs : Int) < 10000 ^ k from by rw [Int.natAbs_neg]; exact hy) (And.intro hy hk)))
  obtain ⟨fa, a, rfl, ra, ca, xa⟩ := ha
  obtain ⟨A, cA, rfl⟩ := ra.open
  obtain ⟨fb, b, rfl, rb, cb, yb⟩ := hb
  obtain ⟨B, cB, rfl⟩ := rb.open
  clear hx hy hk ra rb ca cb xa yb
  have HE : Hid (decide (x + -y < 0) = decide (x < y)) := Lib.hid (by rw [decide_eq_decide]; omega)
  have HNEG := Lib.hid (fun (W : World) (h : NumV W (.agg #[.bool (decide (y < 0)), .slice B b.length cB]) y) => neg_any _ y k W h HK.out.2.2.1 HK.out.2.2.2)
  have HADD := Lib.hid (fun (W : World) (v1 v2 : Value) (h : NumV W v1 x) (h2 : NumV W v2 (-y)) => add_any v1 v2 x (-y) k W h h2 HK.out.1 HK.out.2.1 HK.out.2.2.2)
  clear HK
  generalize decide (x < 0) = p at *
  generalize decide (y < 0) = q at *
  generalize decide (x < y) = r at *
  go_enter Tryz.func161, Tryz.ntmps161
  go_upto_region 1 with (fail)
  refine abs_world (F := LessBox #[.bool p, .slice A a.length cA] #[.bool q, .slice B b.length cB] w) (lessBox _ _ w) ?_
  intro wr hbx
  have HX := Lib.hid hbx
  have K0 := hbx.four
  have sz0 := hbx.size
  have HA := Lib.hid (HA.out.below hbx.2.2)
  have HB := Lib.hid (HB.out.below hbx.2.2)
  clear hbx
  go_region_held3 (fun W' => W'.cell? ⟨w.heap.size, 0, none⟩ = some (.bool p) ∧ W'.cell? ⟨w.heap.size, 1, none⟩ = some (.slice A a.length cA) ∧ W'.cell? ⟨w.heap.size + 1, 0, none⟩ = some (.bool q) ∧ W'.cell? ⟨w.heap.size + 1, 1, none⟩ = some (.slice B b.length cB)) ((repeat (first | with_reducible exact K0 | with_reducible exact K1 | with_reducible exact K2 | with_reducible refine four_drew ?_ | with_reducible refine four_alloc ?_ _ | with_reducible refine four_set2 (by (try simp only [World.size_alloc]); omega) (by (try simp only [World.size_alloc]); omega) ?_)))
    (first
      | (go_at_call 149; refine (HNEG.out _ (HB.out.below (by (repeat (first | (with_reducible exact Below.refl _ _) | refine bl_drew ?_ | refine bl_drewN ?_ _ | refine bl_alloc ?_ _ | refine bl_set ?_ (Nat.le_refl _) _ | refine bl_set ?_ (Nat.le_succ _) _))))).mono ?_; rintro e w1 ⟨v1, rfl, hn1, hb1⟩; have HN1 := Lib.hid hn1; obtain ⟨q1, A1, n1, k1, rfl⟩ := hn1.shape; have hx1 := LessBox.step (va := #[.bool p, .slice A a.length cA]) (vb := #[.bool q, .slice B b.length cB]) (w := w) (by repeat (first | with_reducible exact HX.out | with_reducible exact HX1.out | with_reducible refine LessBox.drew ?_ | with_reducible refine LessBox.alloc ?_ _)) hb1; have K1 := hx1.four; have sz1 := hx1.size; have HX1 := Lib.hid hx1; have HA1 := Lib.hid (HA.out.below (show Below wr.heap.size wr w1 from bl_step (by (repeat (first | (with_reducible exact Below.refl _ _) | refine bl_drew ?_ | refine bl_drewN ?_ _ | refine bl_alloc ?_ _ | refine bl_set ?_ (Nat.le_refl _) _ | refine bl_set ?_ (Nat.le_succ _) _))) hb1)); have sb1 := hb1.size; (try simp only [World.size_alloc] at sb1); (try have B1 := Lib.hid (hk_below (b := wr.heap.size) (o := (.cells #[.bool false, .slice none 0 0] 155 (0, 0))) (new_blk wr.drew (.cells #[.bool false, .slice none 0 0] 155)) hb1)); (try have e1 := frozen_blk B1.out); (try have d1 := cell_blk B1.out); clear hn1 hb1 hx1)
      | (go_at_call 159; refine (HADD.out _ _ _ (HA1.out.below (by (repeat (first | (with_reducible exact Below.refl _ _) | refine bl_drew ?_ | refine bl_drewN ?_ _ | refine bl_alloc ?_ _ | refine bl_set ?_ (Nat.le_refl _) _ | refine bl_set ?_ (Nat.le_succ _) _)))) (HN1.out.below (by (repeat (first | (with_reducible exact Below.refl _ _) | refine bl_drew ?_ | refine bl_drewN ?_ _ | refine bl_alloc ?_ _ | refine bl_set ?_ (Nat.le_refl _) _ | refine bl_set ?_ (Nat.le_succ _) _))))).mono ?_; rintro e w2 ⟨v2, rfl, hn2, hb2⟩; have HN2 := Lib.hid hn2; obtain ⟨q2, A2, n2, k2, rfl⟩ := hn2.shape; have hx2 := LessBox.step (va := #[.bool p, .slice A a.length cA]) (vb := #[.bool q, .slice B b.length cB]) (w := w) (by repeat (first | with_reducible exact HX.out | with_reducible exact HX1.out | with_reducible refine LessBox.drew ?_ | with_reducible refine LessBox.alloc ?_ _)) hb2; have K2 := hx2.four; have sz2 := hx2.size; have HX2 := Lib.hid hx2; have sb2 := hb2.size; (try simp only [World.size_alloc] at sb2); (try have B2 := Lib.hid (hk_below (b := wr.heap.size) (o := (.cells #[.bool false, .slice none 0 0] 155 (0, 0))) B1.out hb2)); (try have e2 := frozen_blk B2.out); (try have d2 := cell_blk B2.out); (try have B3 := Lib.hid (hk_below (b := w1.heap.size) (o := (.cells #[.bool false, .slice none 0 0] 155 (0, 0))) (new_blk w1 (.cells #[.bool false, .slice none 0 0] 155)) hb2)); (try have e3 := frozen_blk B3.out); (try have d3 := cell_blk B3.out); clear hn2 hb2 hx2))
  all_goals
    go_wp2
    go_ret
    refine ⟨ret_bool (HN2.out.sign.trans HE.out), ?_⟩
    have hb := HX2.out.2.2
    first
    | exact bl_alloc hb _
    | exact bl_set (bl_set hb (by show w.heap.size ≤ wr.heap.size; omega) _) (by show w.heap.size ≤ wr.heap.size; omega) _
    | exact bl_set (bl_set hb (by show w.heap.size ≤ w1.heap.size; omega) _) (by show w.heap.size ≤ w1.heap.size; omega) _
end Go.Proofs.YtdlkdecigpaaaaaGreatDoor
namespace Go.Proofs.YtdlkdecigpaaaaaGreatDoor
set_option linter.unusedVariables false
set_option linter.unusedSimpArgs false
open Go.RowKit

theorem valF_rep (n : Nat) : valF (List.replicate n 0) = 0 := by induction n with | zero => rfl | succ n ih => simp [List.replicate_succ, valF, ih]
theorem dig_rep (n : Nat) : Dig (List.replicate n 0) := fun x hx => by have := List.eq_of_mem_replicate hx; omega
theorem valF_take {l : List Int} {k : Nat} (h : k < l.length) : valF (l.take (k + 1)) = valF (l.take k) + 10000 ^ k * dgt l k := by
  rw [List.take_add_one, dgt_at h, Option.toList_some, valF_app, List.length_take, Nat.min_eq_left (by omega)]; simp [valF]
/-- One more figure of a row. -/
structure RowSays (b : Int) (a : List Int) (i k : Nat) (R : List Int) (o : Int) : Prop where
  len : R.length = i + k
  dig : Dig R
  o0 : 0 ≤ o
  o1 : o ≤ 9999
  val : valF R + 10000 ^ (i + k) * o = 10000 ^ i * (b * valF (a.take k))
section
variable {b o : Int} {a R : List Int} {i k : Nat}
theorem rowSays_nil (b : Int) (a : List Int) (i : Nat) : RowSays b a i 0 (List.replicate i 0) 0 := ⟨by simp, dig_rep i, by omega, by omega, by simp [valF_rep, valF]⟩
theorem RowSays.step (h : RowSays b a i k R o) (hk : k < a.length) (ha : Dig a) (hb : 0 ≤ b ∧ b ≤ 9999) : RowSays b a i (k + 1) (R ++ [(dgt a k * b + o) % 10000]) ((dgt a k * b + o) / 10000) := by
  have hd := dgt_range ha k
  have h1 : 0 ≤ dgt a k * b := Int.mul_nonneg hd.1 hb.1
  have h2 : dgt a k * b ≤ 9999 * 9999 := Int.mul_le_mul hd.2 hb.2 hb.1 (by omega)
  have := h.o0; have := h.o1
  refine ⟨by rw [List.length_append, h.len]; simp; omega, h.dig.app (Dig.one (by omega)), by omega, by omega, ?_⟩
  rw [valF_app, h.len, valF_take hk]
  have hv := h.val
  have hsum : (dgt a k * b + o) % 10000 + 10000 * ((dgt a k * b + o) / 10000) = dgt a k * b + o := by omega
  have e : (10000 : Int) ^ (i + (k + 1)) = 10000 ^ (i + k) * 10000 := by rw [← Nat.add_assoc, Int.pow_succ]
  simp only [valF, Int.mul_zero, Int.add_zero]
  rw [e, Int.add_assoc, Int.mul_assoc, ← Int.mul_add, hsum, Int.mul_add, Int.mul_add b, Int.mul_add (10000 ^ i)]
  rw [← hv, Int.pow_add]
  have e3 : (10000 : Int) ^ i * 10000 ^ k * (dgt a k * b) = 10000 ^ i * (b * (10000 ^ k * dgt a k)) := by
    rw [Int.mul_assoc]; congr 1; rw [← Int.mul_assoc, Int.mul_comm _ b]
  rw [e3]; omega
theorem RowSays.done (h : RowSays b a i a.length R o) : Dig (R ++ [o]) ∧ valF (R ++ [o]) = 10000 ^ i * (b * valF a) := by
  refine ⟨h.dig.app (Dig.one ⟨h.o0, h.o1⟩), ?_⟩
  have := h.val
  rw [List.take_of_length_le (Nat.le_refl _)] at this
  rw [valF_app, h.len, ← this]; simp [valF]
end
def MulBox (p q : Bool) (fa fb : Value) (out : Array Value) (w W : World) : Prop :=
  W.heap[w.heap.size]? = some (.cells #[.bool p, fa] 155 (0, 0)) ∧ W.heap[w.heap.size + 1]? = some (.cells #[.bool q, fb] 155 (0, 0)) ∧ W.heap[w.heap.size + 1 + 1]? = some (.cells #[.bool false, .slice none 0 0] 155 (0, 0)) ∧
    W.heap[w.heap.size + 1 + 1 + 1]? = some (.cells out 155 (0, 0)) ∧ Below w.heap.size w W
theorem mulBox (p q : Bool) (fa fb : Value) (w : World) : MulBox p q fa fb #[.bool false, .slice none 0 0] w ((((w.alloc (.cells #[.bool p, fa] 155)).alloc (.cells #[.bool q, fb] 155)).alloc (.cells #[.bool false, .slice none 0 0] 155)).alloc (.cells #[.bool false, .slice none 0 0] 155)) :=
  ⟨hk_alloc (addBox p q fa fb w).1 _, hk_alloc (addBox p q fa fb w).2.1 _, hk_alloc (addBox p q fa fb w).2.2.1 _,
    by have := new_blk (((w.alloc (.cells #[.bool p, fa] 155)).alloc (.cells #[.bool q, fb] 155)).alloc (.cells #[.bool false, .slice none 0 0] 155)) (.cells #[.bool false, .slice none 0 0] 155); rw [World.size_alloc, World.size_alloc, World.size_alloc] at this; exact this, bl_alloc (addBox p q fa fb w).2.2.2 _⟩
section
variable {w W W1 : World} {p q : Bool} {fa fb : Value} {out : Array Value}
theorem MulBox.step (h : MulBox p q fa fb out w W) (hb : Below W.heap.size W W1) : MulBox p q fa fb out w W1 := ⟨hk_below h.1 hb, hk_below h.2.1 hb, hk_below h.2.2.1 hb, hk_below h.2.2.2.1 hb, bl_step h.2.2.2.2 hb⟩
theorem MulBox.turn {a b c d : Value} (h : MulBox p q fa fb #[a, b] w W) : MulBox p q fa fb #[c, d] w ((W.setCell ⟨w.heap.size + 1 + 1 + 1, 0, none⟩ c).setCell ⟨w.heap.size + 1 + 1 + 1, 1, none⟩ d) :=
  ⟨hk_set (hk_set h.1 (by show w.heap.size ≠ w.heap.size + 1 + 1 + 1; omega) _) (by show w.heap.size ≠ w.heap.size + 1 + 1 + 1; omega) _, hk_set (hk_set h.2.1 (by show w.heap.size + 1 ≠ w.heap.size + 1 + 1 + 1; omega) _) (by show w.heap.size + 1 ≠ w.heap.size + 1 + 1 + 1; omega) _,
    hk_set (hk_set h.2.2.1 (by show w.heap.size + 1 + 1 ≠ w.heap.size + 1 + 1 + 1; omega) _) (by show w.heap.size + 1 + 1 ≠ w.heap.size + 1 + 1 + 1; omega) _, set_to (set_to h.2.2.2.1 0 c rfl) 1 d rfl, bl_set (bl_set h.2.2.2.2 (by show w.heap.size ≤ w.heap.size + 1 + 1 + 1; omega) _) (by show w.heap.size ≤ w.heap.size + 1 + 1 + 1; omega) _⟩
end
theorem cell_below {w W : World} {p : Addr} {v : Value} (hc : w.cell? p = some v) (hb : Below w.heap.size w W) : W.cell? p = some v := (hb.cell (World.block_lt_of_cell? w _ hc)).trans hc
theorem run_make_i (w : World) (i : Nat) (hi : i ≤ 1000000) : (Instr.makeSlice 153 (.int .i64 i) (.int .i64 i)).run Tryz.prog w = .ok (.slice (some ⟨w.heap.size, 0, none⟩) i i) (w.alloc (.cells (madeCells #[.int .i64 0] i) 3)) := by
  obtain ⟨i0, hi0, hz0, hz1, hz2⟩ := info_parts info_i
  have h := run_make (P := Tryz.prog) w 153 3 i0 (.int .i64 0) Tryz.underlying153 hi0 hz0 .i64 .i64 i i (by omega) (Int.le_refl _) (by rw [hz2]; omega) (by omega)
  rw [hz1, show (Value.int .i64 0).cells = #[.int .i64 0] from rfl] at h
  simpa using h
theorem own_made (w : World) (i : Nat) (hi : i ≤ 1000000) : (w.alloc (.cells (madeCells #[.int .i64 0] i) 3)).ownsRow w.heap.size 3 1 (.slice (some ⟨w.heap.size, 0, none⟩) i i) (List.replicate i (0 : Int)).length (intV (List.replicate i 0)) := by
  have h := World.ownsRow_lit (base := w.heap.size) (e := 3) (size := 1) w (madeCells #[.int .i64 0] i) i (Nat.le_refl _) (by unfold maxLen; omega) (by rw [size_madeCells]; omega)
  have e : (madeCells #[.int .i64 0] i).toList = intV (List.replicate i 0) := by
    apply List.ext_getElem?
    intro j
    by_cases hj : j < i <;> simp [madeCells, hj, Nat.mod_one]
  rw [e] at h
  rw [List.length_replicate]; exact h
theorem clean_pos (l : List Int) (v : Value) (w : World) (hv : RdI w v l) (hd : Dig l) (hl : l.length ≤ 1000000) :
    Calls Tryz.prog 158 #[.agg #[.bool false, v]] w fun e w' => ∃ v', e = .returned v' ∧ NumV w' v' (valF l) ∧ Below w.heap.size w w' :=
  (clean_any l false v w hv hl).mono fun e w' h => by
    obtain ⟨f, he, hr, hb⟩ := h
    have := valF_nonneg hd
    exact ⟨_, he, clean_num hd (by omega) (fun _ => by simp; omega) hr, hb⟩
theorem num_set {w : World} {k : Nat} {cs : Array Value} {a b : Nat} {x y v : Value} {z : Int} (h : NumV w v z) (hk : w.heap[k]? = some (.cells cs 155 (0, 0))) {bb : Bool} (h0 : cs[0]? = some (.bool bb) := by rfl) : NumV ((w.setCell ⟨k, a, none⟩ x).setCell ⟨k, b, none⟩ y) v z := by
  obtain ⟨f, l, hv, hr, hc⟩ := h
  exact ⟨f, l, hv, num_cells hr hk h0, hc⟩
theorem valF_take_le {b : List Int} (hb : Dig b) (i : Nat) : valF (b.take i) ≤ valF b := by
  have h := valF_app (b.take i) (b.drop i)
  rw [List.take_append_drop] at h
  have h1 : 0 ≤ valF (b.drop i) := valF_nonneg (fun x hx => hb x (List.mem_of_mem_drop hx))
  have h2 := Int.mul_nonneg (Int.le_of_lt (pow_pos' (b.take i).length)) h1
  omega
theorem mul_bound {a b : List Int} {k : Nat} (ha : Dig a) (hb : Dig b) (hx : valF a < 10000 ^ k) (hy : valF b < 10000 ^ k) (i : Nat) : 0 ≤ valF a * valF (b.take i) ∧ valF a * valF (b.take i) < 10000 ^ (k + k) := by
  have h0 := valF_nonneg ha
  have h1 := valF_nonneg (hb.take i)
  have h2 := valF_take_le hb i
  refine ⟨Int.mul_nonneg h0 h1, ?_⟩
  have hp := pow_pos' k
  rw [Int.pow_add]
  have h3 : valF a * valF (b.take i) ≤ valF a * 10000 ^ k := Int.mul_le_mul_of_nonneg_left (by omega) h0
  have h4 : valF a * 10000 ^ k < 10000 ^ k * 10000 ^ k := Int.mul_lt_mul_of_pos_right hx hp
  omega
theorem num_fig {w : World} {o : Bool} {f : Value} {a b : List Int} {x y : Int} (h : NumV w (.agg #[.bool o, f]) (valF a * valF (b.take b.length))) (ha : Dig a) (hb : Dig b) (hx : valF a = x.natAbs) (hy : valF b = y.natAbs) :
    ∃ l, RdI w f l ∧ Can l ∧ valF l = (x * y).natAbs := by
  obtain ⟨f', l, hv, hr, hc, hl⟩ := h
  injection hv with hv; simp at hv
  obtain ⟨_, rfl⟩ := hv
  refine ⟨l, hr, hc, ?_⟩
  rw [hl, List.take_of_length_le (Nat.le_refl _), hx, hy, Int.natAbs_mul]
  simp [Int.natAbs_mul]
theorem mul_sign (x y : Int) (h : x * y ≠ 0) : (decide (x < 0) != decide (y < 0)) = decide (x * y < 0) := by
  have hx : x ≠ 0 := fun e => h (by rw [e]; simp)
  have hy : y ≠ 0 := fun e => h (by rw [e]; simp)
  rcases Int.lt_or_lt_of_ne hx with h1 | h1 <;> rcases Int.lt_or_lt_of_ne hy with h2 | h2
  · have := Int.mul_pos_of_neg_of_neg h1 h2
    rw [decide_eq_true h1, decide_eq_true h2, decide_eq_false (by omega)]; rfl
  · have := Int.mul_neg_of_neg_of_pos h1 h2
    rw [decide_eq_true h1, decide_eq_false (by omega : ¬ y < 0), decide_eq_true this]; rfl
  · have := Int.mul_neg_of_pos_of_neg h1 h2
    rw [decide_eq_false (by omega : ¬ x < 0), decide_eq_true h2, decide_eq_true this]; rfl
  · have := Int.mul_pos h1 h2
    rw [decide_eq_false (by omega : ¬ x < 0), decide_eq_false (by omega : ¬ y < 0), decide_eq_false (by omega)]; rfl
theorem add_row {a b : List Int} {k : Nat} (ha : Dig a) (hb : Dig b) (hx : valF a < 10000 ^ k) (hy : valF b < 10000 ^ k) (hk : k ≤ 10000) (i : Nat) (y1 : Int) (R : List Int) (hi : i < b.length) (hy1 : dgt b i = y1) (hR : valF R = 10000 ^ i * (y1 * valF a))
    (W : World) (v1 v2 : Value) (h1 : NumV W v1 (valF a * valF (b.take i))) (h2 : NumV W v2 (valF R)) :
    Calls Tryz.prog 159 #[v1, v2] W fun e w' => ∃ v, e = .returned v ∧ NumV w' v (valF a * valF (b.take (i + 1))) ∧ Below W.heap.size W w' := by
  have b1 := mul_bound ha hb hx hy i
  have b2 := mul_bound ha hb hx hy (i + 1)
  have hs : valF a * valF (b.take (i + 1)) = valF a * valF (b.take i) + valF R := by
    rw [valF_take hi, hR, hy1, Int.mul_add]
    congr 1
    rw [Int.mul_left_comm, Int.mul_comm (valF a)]
  have hr0 : 0 ≤ valF R := by
    rw [hR, ← hy1]
    exact Int.mul_nonneg (Int.le_of_lt (pow_pos' i)) (Int.mul_nonneg (dgt_range hb i).1 (valF_nonneg ha))
  rw [hs]
  rw [hs] at b2
  exact add_any v1 v2 _ _ (k + k) W h1 h2 (by omega) (by omega) (by omega)
set_option maxRecDepth 20000 in
set_option maxHeartbeats 4000000 in
theorem mul_any (va vb : Value) (x y : Int) (k : Nat) (w : World) (ha : NumV w va x) (hb : NumV w vb y) (hx : (x.natAbs : Int) < 10000 ^ k) (hy : (y.natAbs : Int) < 10000 ^ k) (hk : k ≤ 10000) :
    Calls Tryz.prog 160 #[va, vb] w fun e w' => ∃ v, e = .returned v ∧ NumV w' v (x * y) ∧ Below w.heap.size w w' := by
  obtain ⟨fa, a, rfl, ra, ca, xa⟩ := ha
  obtain ⟨fb, b, rfl, rb, cb, yb⟩ := hb
  obtain ⟨A, cA, rfl⟩ := ra.open
  obtain ⟨B, cB, rfl⟩ := rb.open
  have la := can_len ca (by rw [xa]; exact hx)
  have lb := can_len cb (by rw [yb]; exact hy)
  have la5 : a.length ≤ 10000 := by omega
  have lb5 : b.length ≤ 10000 := by omega
  have HC := Lib.hid (And.intro ca cb)
  have HV := Lib.hid (And.intro xa yb)
  have HA := Lib.hid ra
  have HB := Lib.hid rb
  have HK := Lib.hid (And.intro hx (And.intro hy hk))
  have HS : Hid (x * y ≠ 0 → (decide (x < 0) != decide (y < 0)) = decide (x * y < 0)) := Lib.hid (mul_sign x y)
  have hva : valF a < 10000 ^ k := by rw [xa]; exact hx
  have hvb : valF b < 10000 ^ k := by rw [yb]; exact hy
  have HLEN : Hid (∀ l, Can l → valF l = (x * y).natAbs → l.length ≤ 1000000) := Lib.hid (fun l hc hl => by
    have h := (mul_bound ca.1 cb.1 hva hvb b.length).2
    rw [List.take_of_length_le (Nat.le_refl _), xa, yb] at h
    have := can_len hc (k := k + k) (by rw [hl, Int.natAbs_mul]; simpa using h)
    omega)
  have HADD := Lib.hid (fun (i : Nat) (y1 : Int) (R : List Int) (hi : i < b.length) (hy1 : dgt b i = y1) (hR : valF R = 10000 ^ i * (y1 * valF a)) (W : World) (v1 v2 : Value) (h1 : NumV W v1 (valF a * valF (b.take i))) (h2 : NumV W v2 (valF R)) =>
    add_row ca.1 cb.1 hva hvb hk i y1 R hi hy1 hR W v1 v2 h1 h2)
  clear hx hy la lb xa yb ca cb ra rb hk hva hvb
  generalize decide (x < 0) = p at *
  generalize decide (y < 0) = q at *
  have hmk := fun (w : World) (i : Nat) (hi : i ≤ 1000000) => run_make_i w i hi
  go_enter Tryz.func160, Tryz.ntmps160
  go_upto_region 2 with (fail)
  refine abs_world (F := MulBox p q (.slice A a.length cA) (.slice B b.length cB) #[.bool false, .slice none 0 0] w) (mulBox p q _ _ w) ?_
  intro wr hbx
  have c2 := cell_blk hbx.2.1
  have HX := Lib.hid hbx
  have HO : Hid (NumV wr (.agg #[.bool false, .slice none 0 0]) (valF a * valF (b.take 0))) := Lib.hid ⟨_, [], by simp [valF], .nil _, ⟨by simp [Dig], by simp⟩, by simp [valF]⟩
  clear hbx
  go_wp2
  go_loopw [15] (fun t W => ∃ (i : Nat) (o : Bool) (O : Option Addr) (n c : Nat), i ≤ b.length ∧ t = .int .i64 i ∧ Hid (MulBox p q (.slice A a.length cA) (.slice B b.length cB) #[.bool o, .slice O n c] w W ∧ NumV W (.agg #[.bool o, .slice O n c]) (valF a * valF (b.take i)))) (fun t _ => b.length - (intOf t).toNat)
  case atStart => exact ⟨0, false, none, 0, 0, by omega, rfl, Lib.hid ⟨HX.out, HO.out⟩⟩
  case round =>
    obtain ⟨i, o, O, n, c, hi, rfl, H⟩ := hrel
    obtain ⟨W0, hW0⟩ : ∃ W0, W0 = wr := ⟨_, rfl⟩
    subst hW0
    clear c2 HX HO
    have hbx := H.out.1
    have c1 := cell_blk hbx.1
    have c2 := cell_blk hbx.2.1
    have c4 := cell_blk hbx.2.2.2.1
    have f4 := frozen_blk hbx.2.2.2.1
    by_cases hlt : i < b.length
    · have hiI : (i : Int) < b.length := by omega
      have hi6 : i ≤ 1000000 := by omega
      have HA1 := Lib.hid (HA.out.below hbx.2.2.2.2)
      have HB1 := Lib.hid (HB.out.below hbx.2.2.2.2)
      clear hbx
      have hmi := hmk W0 i hi6
      have HD := Lib.hid (dgt_range HC.out.2.1 i)
      obtain ⟨g2, hB, hc2⟩ := HB1.out.cell (dgt_at hlt)
      obtain ⟨y1, hy0⟩ : ∃ y1, dgt b i = y1 := ⟨_, rfl⟩
      have HD2 := Lib.hid hy0
      rw [hy0] at HD hc2
      clear hy0
      subst hB
      have HMI := Lib.hid (own_made W0 i hi6)
      have HDA := Lib.hid (fun k => dgt_range HC.out.1.1 k)
      have HW0 : Hid (Below W0.heap.size W0 (W0.alloc (.cells (madeCells #[.int .i64 0] i) 3))) := Lib.hid (bl_alloc (Below.refl _ _) _)
      have HC2 := Lib.hid hc2
      clear hc2
      go_upto_region 7 with (fail)
      refine abs_world (F := fun W => W.ownsRow W0.heap.size 3 1 (.slice (some ⟨W0.heap.size, 0, none⟩) i i) (List.replicate i (0 : Int)).length (intV (List.replicate i 0)) ∧ Below W0.heap.size W0 W) ⟨HMI.out, HW0.out⟩ ?_
      rintro w5 ⟨ho5, hb5⟩
      have HI := Lib.hid (And.intro ho5 hb5)
      have hx5 := H.out.1.step hb5
      clear c1 c2 c4 f4 HMI HW0 hmi ho5 hb5
      have c1 := cell_blk hx5.1
      clear hx5
      go_wp2
      go_loopw [7, 8, 23] (fun v ov t W => ∃ (k : Nat) (R : List Int) (o1 : Int), k ≤ a.length ∧ R.length = i + k ∧ 0 ≤ o1 ∧ o1 ≤ 9999 ∧ ov = .int .i64 o1 ∧ t = .int .i64 k ∧ Hid (RowSays y1 a i k R o1 ∧ W.ownsRow W0.heap.size 3 1 v R.length (intV R) ∧ Below W0.heap.size W0 W)) (fun _ _ t _ => a.length - (intOf t).toNat)
      case atStart => exact ⟨0, List.replicate i 0, 0, by omega, by simp, by omega, by omega, rfl, rfl, Lib.hid ⟨rowSays_nil _ _ _, HI.out⟩⟩
      case round =>
        obtain ⟨k1, R, o1, hk1, hRl, ho0, ho1, rfl, rfl, HR⟩ := hrel
        obtain ⟨V, vc, rfl⟩ := own_slice HR.out.2.1
        have HRl := Lib.hid hRl
        clear hRl
        clear c1
        have hb6 := HR.out.2.2
        have hx6 := H.out.1.step hb6
        have c1 := cell_blk hx6.1
        have c2 := cell_blk hx6.2.1
        by_cases hka : k1 < a.length
        · have hkI : (k1 : Int) < a.length := by omega
          obtain ⟨g1, hA, hc1⟩ := (HA1.out.below hb6).cell (dgt_at hka)
          have hcb := cell_below HC2.out hb6
          subst hA
          have hda := HDA.out k1
          obtain ⟨d0, d1⟩ := HD.out
          have m0 : 0 ≤ dgt a k1 * y1 := Int.mul_nonneg hda.1 d0
          have m1 : dgt a k1 * y1 ≤ 9999 * 9999 := Int.mul_le_mul hda.2 d1 d0 (by omega)
          have HST := Lib.hid (RowSays.step HR.out.1 hka HC.out.1.1 HD.out)
          obtain ⟨hda0, hda1⟩ := hda
          generalize dgt a k1 = x1 at *
          clear hb6 hx6
          go_upto_region 10 with (fail)
          go_quiet (fail)
          have HR8 := Lib.hid (And.intro (own_drewN HR.out.2.1 nq) (bl_drewN HR.out.2.2 nq))
          generalize wr.drewN nq = w8 at *
          go_wp2_with (at_builtin; (with_reducible refine app_one rfl _ _ 153 rfl Tryz.underlying153 info_i rfl W0.heap.size (.slice V R.length vc) (intV R) (.int .i64 ((x1 * y1 + o1) % 10000)) ?_ ?_ rfl ?_ ?_ ?_ ?_ ?_); all_goals first | rfl | exact HR8.out.2.size | (rw [List.length_map]; exact HR8.out.1) | (rw [List.length_map, HRl.out]; omega) | skip)
          rintro v' w7 ho hg g5 cap5 rfl
          have HN := Lib.hid (And.intro ho hg)
          clear ho hg
          go_wp2
          go_roundw
          case rel => exact ⟨k1 + 1, R ++ [(x1 * y1 + o1) % 10000], (x1 * y1 + o1) / 10000, by omega, by rw [List.length_append, HRl.out]; rfl, by omega, by omega, rfl, by go_num, Lib.hid ⟨HST.out, by have := HN.out.1; rw [intV_snoc] at this; rw [List.length_append]; exact this, below_grown HR8.out.2 HN.out.2 HR8.out.1⟩⟩
          case measure => simp [intOf]; omega
        · obtain rfl : k1 = a.length := by omega
          have HDN := Lib.hid HR.out.1.done
          clear c1 c2 hb6 hx6
          go_upto_region 15 with (at_builtin; (with_reducible refine app_one rfl _ _ 153 rfl Tryz.underlying153 info_i rfl W0.heap.size (.slice V R.length vc) (intV R) (.int .i64 o1) ?_ ?_ rfl ?_ ?_ ?_ ?_ ?_); all_goals first | rfl | exact HR.out.2.2.size | (rw [List.length_map]; exact HR.out.2.1) | (rw [List.length_map, HRl.out]; omega) | skip)
          rintro v' w7 ho hg g5 cap5 rfl
          rw [intV_snoc] at ho
          have hb7 := below_grown HR.out.2.2 hg HR.out.2.1
          have hx7 := H.out.1.step hb7
          have c4 := cell_blk hx7.2.2.2.1
          have HX7 := Lib.hid hx7
          have HR7 := Lib.hid (RdI.of_own (l := R ++ [o1]) (by rw [List.length_append]; exact ho))
          have HO7 := Lib.hid (H.out.2.below hb7)
          have HRl7 : Hid ((R ++ [o1]).length ≤ 1000000) := Lib.hid (by rw [List.length_append, HRl.out]; simp; omega)
          clear hg ho hb7 hx7
          go_upto_region 15 with (fail)
          go_region_with (first
            | (go_at_call 158; refine (clean_pos (R ++ [o1]) _ _ (HR7.out.below (by (repeat (first | (with_reducible exact Below.refl _ _) | refine bl_drew ?_ | refine bl_drewN ?_ _ | refine bl_alloc ?_ _ | refine bl_set ?_ (Nat.le_refl _) _ | refine bl_set ?_ (Nat.le_succ _) _)))) HDN.out.1 HRl7.out).mono ?_; rintro e w8 ⟨v8, rfl, hn8, hb8⟩; replace hb8 := bl_undrew hb8; have HN8 := Lib.hid hn8; obtain ⟨q8, A8, n8, k8, rfl⟩ := hn8.shape; have hx8 := HX7.out.step hb8; have c8 := cell_blk hx8.2.2.2.1; have HX8 := Lib.hid hx8; have HO8 := Lib.hid (HO7.out.below hb8); clear hn8 hb8 hx8)
            | (go_at_call 159; refine (HADD.out i y1 (R ++ [o1]) hlt HD2.out HDN.out.2 _ _ _ HO8.out HN8.out).mono ?_; rintro e w9 ⟨v9, rfl, hn9, hb9⟩; have HN9 := Lib.hid hn9; obtain ⟨q9, A9, n9, k9, rfl⟩ := hn9.shape; have hx9 := HX8.out.step hb9; have c9 := cell_blk hx9.2.2.2.1; have f9 := frozen_blk hx9.2.2.2.1; have HX9 := Lib.hid hx9; clear hn9 hb9 hx9)
            )
          all_goals
            clear c4 c8
            go_wp2
            go_roundw
            case rel => exact ⟨i + 1, q9, A9, n9, k9, by omega, by go_num, Lib.hid ⟨HX9.out.turn, num_set HN9.out HX9.out.2.2.2.1⟩⟩
            case measure => simp [intOf]; omega
    · obtain rfl : i = b.length := by omega
      have HNE := Lib.hid H.out.2
      obtain ⟨l, hl⟩ := num_fig H.out.2 HC.out.1.1 HC.out.2.1 HV.out.1 HV.out.2
      have HLB := Lib.hid (HLEN.out l hl.2.1 hl.2.2)
      have HL := Lib.hid hl
      have HX := Lib.hid hbx
      clear hbx hl
      go_wp2_with (go_at_call 158; refine (clean_any l (p != q) _ _ HL.out.1 HLB.out).mono ?_; rintro e w2 ⟨f2, rfl, hr2, hb2⟩; obtain ⟨A2, k2, rfl⟩ := hr2.open; have hx2 := HX.out.step hb2; have d3 := cell_blk hx2.2.2.1; have e3 := frozen_blk hx2.2.2.1; have HX2 := Lib.hid hx2; have HR2 := Lib.hid hr2; clear hr2 hb2 hx2)
      have cr := cell_blk (set_to (set_to HX2.out.2.2.1 0 (.bool ((p != q) && decide (0 < trimF l l.length))) rfl) 1 (.slice A2 (l.take (trimF l l.length)).length k2) rfl)
      rw [List.length_take] at cr
      have HR3 := HR2.out
      rw [List.length_take] at HR3
      refine bodyPost_ret (v := .agg #[.bool ((p != q) && decide (0 < trimF l l.length)), .slice A2 (min (trimF l l.length) l.length) k2]) (by simp [results, Tryz.results160, go_sem, cr]) rfl ⟨_, rfl, clean_num HL.out.2.1.1 HL.out.2.2 HS.out (num_cells HR3 HX2.out.2.2.1), bl_set (bl_set HX2.out.2.2.2.2 (by simp; omega) _) (by simp; omega) _⟩
end Go.Proofs.YtdlkdecigpaaaaaGreatDoor
namespace Go.Proofs.YtdlkdecigpaaaaaGreatDoor
set_option linter.unusedVariables false
set_option linter.unusedSimpArgs false
open Go.RowKit

theorem of_num (z : Int) (w : World) (h1 : -9223372036854775808 ≤ z) (h2 : z ≤ 9223372036854775807) :
    Calls Tryz.prog 100 #[.int .i64 z] w fun e w' => ∃ v, e = .returned v ∧ NumV w' v z ∧ Below w.heap.size w w' :=
  (of_any z w h1 h2).mono fun e w' h => by
    obtain ⟨f, l, he, hr, hc, hv, _, hb⟩ := h
    exact ⟨_, he, ⟨f, l, rfl, hr, hc, hv⟩, hb⟩
theorem pow5 {k : Nat} (h : 5 ≤ k) : (9223372036854775808 : Int) < 10000 ^ k := by
  have e : k = 5 + (k - 5) := by omega
  rw [e, Int.pow_add]
  have := pow_pos' (k - 5)
  have h6 : (10000 : Int) ^ 5 * 1 ≤ 10000 ^ 5 * 10000 ^ (k - 5) := Int.mul_le_mul_of_nonneg_left (by omega) (by decide)
  have : (10000 : Int) ^ 5 = 100000000000000000000 := by decide
  omega
abbrev Two (g : Nat) (a b : Value) (W : World) : Prop := W.cell? ⟨g, 0, none⟩ = some a ∧ W.cell? ⟨g, 1, none⟩ = some b
def OneBox (va : Array Value) (w W : World) : Prop := W.heap[w.heap.size]? = some (.cells va 155 (0, 0)) ∧ Below w.heap.size w W
theorem oneBox (va : Array Value) (w : World) : OneBox va w (w.alloc (.cells va 155)) := ⟨new_blk _ _, bl_alloc (Below.refl _ _) _⟩
section
variable {w W W1 : World} {g : Nat} {a b : Value} {va : Array Value}
theorem two_drew (H : Two g a b W) : Two g a b W.drew := H
theorem OneBox.drew (H : OneBox va w W) : OneBox va w W.drew := ⟨H.1, bl_drew H.2⟩
theorem OneBox.step (H : OneBox va w W) (hb : Below W.heap.size W W1) : OneBox va w W1 := ⟨hk_below H.1 hb, bl_step H.2 hb⟩
theorem OneBox.two (H : OneBox #[a, b] w W) : Two w.heap.size a b W := ⟨cell_blk H.1 0, cell_blk H.1 1⟩
end
def fitsB (z : Int) : Bool := !decide (z < -9223372036854775808) && !decide (9223372036854775807 < z)
set_option maxRecDepth 20000 in
set_option maxHeartbeats 2000000 in
theorem fits_any (va : Value) (x : Int) (k : Nat) (w : World) (ha : NumV w va x) (hx : (x.natAbs : Int) < 10000 ^ k) (hk : k ≤ 100000) (hk5 : 5 ≤ k) :
    Calls Tryz.prog 151 #[va] w fun e w' => e = .returned (.bool (fitsB x)) ∧ Below w.heap.size w w' := by
  have HA := Lib.hid ha
  obtain ⟨p, A, n, c, rfl⟩ := ha.shape
  have HL1 := Lib.hid (fun (W : World) (v1 v2 : Value) (h : NumV W v1 x) (h2 : NumV W v2 (-9223372036854775808)) => lessN_any v1 v2 x (-9223372036854775808) k W h h2 hx (by have := pow5 hk5; omega) hk)
  have HL2 := Lib.hid (fun (W : World) (v1 v2 : Value) (h : NumV W v1 9223372036854775807) (h2 : NumV W v2 x) => lessN_any v1 v2 9223372036854775807 x k W h h2 (by have := pow5 hk5; omega) hx hk)
  have HF : Hid (fitsB x = (!decide (x < -9223372036854775808) && !decide (9223372036854775807 < x))) := Lib.hid rfl
  clear ha hx hk hk5
  generalize decide (x < -9223372036854775808) = q1 at *
  generalize decide (9223372036854775807 < x) = q2 at *
  generalize fitsB x = r at *
  cases q1 with
  | true =>
    cases r with
    | true => exact absurd HF.out (by simp)
    | false =>
      clear HL2 HF
      go_enter Tryz.func151, Tryz.ntmps151
      go_upto_region 1 with (fail)
      refine abs_world (F := OneBox #[.bool p, .slice A n c] w) (oneBox _ w) ?_
      intro wr hbx
      have HX := Lib.hid hbx
      have K0 := hbx.two
      have HA := Lib.hid (HA.out.below hbx.2)
      clear hbx
      go_region_with (first
        | (go_at_call 100; (refine (of_num _ _ (by decide) (by decide)).mono ?_); rintro e w1 ⟨v1, rfl, hn1, hb1⟩; have HN1 := Lib.hid hn1; obtain ⟨q1, A1, n1, k1, rfl⟩ := hn1.shape; replace hb1 := bl_undrew hb1; have HX1 := Lib.hid (HX.out.step hb1); have K1 := HX1.out.two; have HA1 := Lib.hid (HA.out.below hb1); clear hn1 hb1)
        | (go_at_call 161; refine (HL1.out _ _ _ HA1.out HN1.out).mono ?_; rintro e w2 ⟨rfl, hb2⟩; have HX2 := Lib.hid (HX1.out.step hb2); have K2 := HX2.out.two; have HA2 := Lib.hid (HA1.out.below hb2); clear hb2)
        )
      all_goals
        clear K0 K1 K2
        go_wp2
        go_ret
        exact ⟨rfl, HX2.out.2⟩
  | false =>
    cases q2 with
    | true =>
      cases r with
      | true => exact absurd HF.out (by simp)
      | false =>
        clear HF
        go_enter Tryz.func151, Tryz.ntmps151
        go_upto_region 1 with (fail)
        refine abs_world (F := OneBox #[.bool p, .slice A n c] w) (oneBox _ w) ?_
        intro wr hbx
        have HX := Lib.hid hbx
        have K0 := hbx.two
        have HA := Lib.hid (HA.out.below hbx.2)
        clear hbx
        go_region_with (first
          | (go_at_call 100; have hthere := HX2; clear hthere; (refine (of_num _ _ (by decide) (by decide)).mono ?_); rintro e w3 ⟨v1, rfl, hn1, hb1⟩; have HN3 := Lib.hid hn1; obtain ⟨q3, A3, n3, k3, rfl⟩ := hn1.shape; have HX3 := Lib.hid (HX2.out.step hb1); have K3 := HX3.out.two; have HA3 := Lib.hid (HA2.out.below hb1); clear hn1 hb1)
          | (go_at_call 161; have hthere := HX3; clear hthere; refine (HL2.out _ _ _ HN3.out HA3.out).mono ?_; rintro e w4 ⟨rfl, hb2⟩; have HX4 := Lib.hid (HX3.out.step hb2); have K4 := HX4.out.two; have HA4 := Lib.hid (HA3.out.below hb2); clear hb2)
          | (go_at_call 100; (refine (of_num _ _ (by decide) (by decide)).mono ?_); rintro e w1 ⟨v1, rfl, hn1, hb1⟩; have HN1 := Lib.hid hn1; obtain ⟨q1, A1, n1, k1, rfl⟩ := hn1.shape; replace hb1 := bl_undrew hb1; have HX1 := Lib.hid (HX.out.step hb1); have K1 := HX1.out.two; have HA1 := Lib.hid (HA.out.below hb1); clear hn1 hb1)
          | (go_at_call 161; refine (HL1.out _ _ _ HA1.out HN1.out).mono ?_; rintro e w2 ⟨rfl, hb2⟩; have HX2 := Lib.hid (HX1.out.step hb2); have K2 := HX2.out.two; have HA2 := Lib.hid (HA1.out.below hb2); clear hb2)
          )
        all_goals
          clear K0 K1 K2 K3 K4
          go_wp2
          go_ret
          exact ⟨rfl, HX4.out.2⟩
    | false =>
      cases r with
      | false => exact absurd HF.out (by simp)
      | true =>
        clear HF
        go_enter Tryz.func151, Tryz.ntmps151
        go_upto_region 1 with (fail)
        refine abs_world (F := OneBox #[.bool p, .slice A n c] w) (oneBox _ w) ?_
        intro wr hbx
        have HX := Lib.hid hbx
        have K0 := hbx.two
        have HA := Lib.hid (HA.out.below hbx.2)
        clear hbx
        go_region_with (first
          | (go_at_call 100; have hthere := HX2; clear hthere; (refine (of_num _ _ (by decide) (by decide)).mono ?_); rintro e w3 ⟨v1, rfl, hn1, hb1⟩; have HN3 := Lib.hid hn1; obtain ⟨q3, A3, n3, k3, rfl⟩ := hn1.shape; have HX3 := Lib.hid (HX2.out.step hb1); have K3 := HX3.out.two; have HA3 := Lib.hid (HA2.out.below hb1); clear hn1 hb1)
          | (go_at_call 161; have hthere := HX3; clear hthere; refine (HL2.out _ _ _ HN3.out HA3.out).mono ?_; rintro e w4 ⟨rfl, hb2⟩; have HX4 := Lib.hid (HX3.out.step hb2); have K4 := HX4.out.two; have HA4 := Lib.hid (HA3.out.below hb2); clear hb2)
          | (go_at_call 100; (refine (of_num _ _ (by decide) (by decide)).mono ?_); rintro e w1 ⟨v1, rfl, hn1, hb1⟩; have HN1 := Lib.hid hn1; obtain ⟨q1, A1, n1, k1, rfl⟩ := hn1.shape; replace hb1 := bl_undrew hb1; have HX1 := Lib.hid (HX.out.step hb1); have K1 := HX1.out.two; have HA1 := Lib.hid (HA.out.below hb1); clear hn1 hb1)
          | (go_at_call 161; refine (HL1.out _ _ _ HA1.out HN1.out).mono ?_; rintro e w2 ⟨rfl, hb2⟩; have HX2 := Lib.hid (HX1.out.step hb2); have K2 := HX2.out.two; have HA2 := Lib.hid (HA1.out.below hb2); clear hb2)
          )
        all_goals
          clear K0 K1 K2 K3 K4
          go_wp2
          go_ret
          exact ⟨rfl, HX4.out.2⟩
end Go.Proofs.YtdlkdecigpaaaaaGreatDoor
