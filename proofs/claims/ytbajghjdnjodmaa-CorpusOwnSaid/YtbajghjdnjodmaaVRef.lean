/- chevallaw03.Ref: the document's value of the program's: its keys are shared. -/
import Derived.Test.YtbajghjdnjodmaaVAt
namespace Go.Proofs.Ytbajghjdnjodmaa
set_option linter.unusedVariables false
set_option linter.unusedSimpArgs false
open Go.RowKit

set_option maxRecDepth 20000 in
set_option maxHeartbeats 1000000 in
theorem vref_any : ∀ (k : Nat) (T : VT), T.size ≤ k → T.ok → ∀ (S : Nat → Prop) (vi vk : Value) (w : World), T.Rep w S vi vk →
    Calls Try.prog 35 #[T.agg vi vk] w fun e w' => ∃ vi' vk', e = .returned (T.agg vi' vk') ∧ T.Rep w' (fun g => (S g ∧ g < w.heap.size) ∨ w.heap.size ≤ g) vi' vk' ∧ Below w.heap.size w w'
  | 0, T, hk, _, _, _, _, _, _ => absurd T.size_pos (by omega)
  | k + 1, T, hk, hok, S, vi, vk, w, hT => by
    obtain ⟨⟨cs, hs, hr⟩, hks⟩ := rep_iff.1 hT.lt
    obtain ⟨a, c, rfl, hc0, hc1⟩ := hs.shape
    obtain ⟨kA, kc, rfl, _, _⟩ := hks.shape
    have HS := Lib.hid hs
    have HR := Lib.hid hr
    have HI := Lib.hid (fun (U : VT) (hU : U ∈ T.its) => vref_any k U (by have := VT.size_mem hU; omega) (hok.item hU))
    have h39 := hok.its
    have HK := Lib.hid hks
    clear hs hr hT hk hok hks
    go_enter Try.func35, Try.ntmps35
    go_upto_region 2 with fail
    obtain ⟨B, hB⟩ : ∃ B, w.heap.size + 2 = B := ⟨_, rfl⟩
    rw [show w.heap.size + 1 + 1 = w.heap.size + 2 from rfl, hB]
    refine abs_world (F := fun W => VAt w (fun g => S g ∧ g < w.heap.size) 30 46 #[.int .i64 T.k, .bool T.b, .int .i64 T.n, .string T.s, .slice a T.its.length c, .slice kA T.ks.length kc] #[.int .i64 0, .bool false, .int .i64 0, .string ⟨#[]⟩, .slice none 0 0, .slice none 0 0] T (.slice kA T.ks.length kc) B 0 (.slice none 0 0) W) ?_ ?_
    · subst hB
      refine ⟨by ((repeat (first | with_reducible exact new_blk _ _ | with_reducible exact new_blk1 _ _ _ | with_reducible exact new_blk2 _ _ _ _ | with_reducible refine hk_drew ?_ | with_reducible refine hk_alloc ?_ _ | with_reducible refine hk_set ?_ (by dsimp only; omega) _)); done), by ((repeat (first | with_reducible exact new_blk _ _ | with_reducible exact new_blk1 _ _ _ | with_reducible exact new_blk2 _ _ _ _ | with_reducible refine hk_drew ?_ | with_reducible refine hk_alloc ?_ _ | with_reducible refine hk_set ?_ (by dsimp only; omega) _)); done), by ((repeat (first | with_reducible exact new_blk _ _ | with_reducible exact new_blk1 _ _ _ | with_reducible exact new_blk2 _ _ _ _ | with_reducible refine hk_drew ?_ | with_reducible refine hk_alloc ?_ _ | with_reducible refine hk_set ?_ (by dsimp only; omega) _)); done), fun _ h => h.2, Nat.le_refl _, by ((repeat (first | with_reducible exact Below.refl _ _ | with_reducible refine bl_drew ?_ | with_reducible refine bl_alloc ?_ _ | with_reducible refine bl_set ?_ (by dsimp only; omega) _)); done), by simp [Value.ownBlock], ⟨[], World.ownsRow_nil _ _ _ _, by simp [Rows]⟩, ?_⟩
      refine (HK.out.keep (by ((repeat (first | with_reducible exact Kc.refl _ _ | with_reducible refine Kc.trans ?_ (kc_alloc _) | with_reducible refine Kc.trans ?_ kc_drew)); done))).mono fun g h => ⟨.inl h, by have := h.2; omega, by simp [Value.ownBlock]⟩
    intro W HW
    have H0 := Lib.hid HW
    clear HW
    have c0 := cell_blk H0.out.par
    go_wp2_with fail
    go_loopw [20] (fun q W' => ∃ (i : Nat) (rv : Value), i ≤ T.its.length ∧ q = .int .i64 i ∧ Hid (VAt w (fun g => S g ∧ g < w.heap.size) 30 46 #[.int .i64 T.k, .bool T.b, .int .i64 T.n, .string T.s, .slice a T.its.length c, .slice kA T.ks.length kc] #[.int .i64 0, .bool false, .int .i64 0, .string ⟨#[]⟩, .slice none 0 0, .slice none 0 0] T (.slice kA T.ks.length kc) B i rv W')) (fun q _ => T.its.length - (intOf q).toNat)
    case atStart => exact ⟨0, _, by omega, rfl, H0⟩
    case round =>
      clear c0 H0
      obtain ⟨i, rv, hi, rfl, H⟩ := hrel
      obtain ⟨rcs, hrow, hrs⟩ := H.out.row
      obtain ⟨rA, rc, rfl⟩ := own_slice hrow
      by_cases hlt : i < T.its.length
      · obtain ⟨g, o, c', hv, _, _, _, hcells⟩ := (HS.out.keep (kc_below H.out.bel)).at (by omega)
        cases hv
        obtain ⟨vi', vk', hrep, d0, d1, d2, d3, d4, d5⟩ := six_cells (six_keep (kc_below H.out.bel) HR.out) hcells hlt
        obtain ⟨a1, c1, a2, c2, rfl, rfl⟩ := rep_shape hrep
        have HC := Lib.hid (fun (W' : World) (k : Kc (fun g => S g ∧ g < w.heap.size) wr W') => HI.out _ (List.getElem_mem hlt) (fun g => S g ∧ g < w.heap.size) _ _ W' (hrep.keep k))
        have HO := Lib.hid hrow
        have HRS := Lib.hid hrs
        clear hrow hrs hrep hcells
        go_upto_region 5 with fail
        refine abs_world (F := fun W => W = wr.alloc (.cells #[.int .i64 T.its[i].k, .bool T.its[i].b, .int .i64 T.its[i].n, .string T.its[i].s, .slice a1 T.its[i].its.length c1, .slice a2 T.its[i].ks.length c2] 30)) rfl ?_
        intro W hW
        have Y1 : Hid (W.heap[wr.heap.size]? = some (.cells #[.int .i64 T.its[i].k, .bool T.its[i].b, .int .i64 T.its[i].n, .string T.its[i].s, .slice a1 T.its[i].its.length c1, .slice a2 T.its[i].ks.length c2] 30 (0, 0))) := Lib.hid (by rw [hW]; exact new_blk _ _)
        have Y2 : Hid (W.heap[B]? = some (.cells #[.int .i64 T.k, .bool T.b, .int .i64 T.n, .string T.s, .slice rA i rc, .slice kA T.ks.length kc] 46 (0, 0))) := Lib.hid (by rw [hW]; exact hk_alloc H.out.var _)
        have Y3 : Hid (Below wr.heap.size wr W) := Lib.hid (by rw [hW]; exact bl_alloc (Below.refl _ _) _)
        have Y4 : Hid (W.ownsRow (w.heap.size + 2) 46 6 (.slice rA i rc) i rcs) := Lib.hid (by rw [hW]; exact HO.out.alloc _)
        have y1 := cell_blk Y1.out
        have y2 := cell_blk Y2.out
        have y3 := hk_lt Y2.out
        have N1 := Lib.hid (own_not HO.out (Nat.le_refl _))
        have N2 := Lib.hid H.out.n3
        have N3 := Lib.hid (hk_lt H.out.var)
        clear hW d0 d1 d2 d3 d4 d5
        go_region_law
          (first | (refine step_append_sl rfl _ _ _ rfl rfl elem_r (v := .slice rA i rc) (base := w.heap.size + 2) (x := .slice (some ⟨w2.heap.size, 0, none⟩) 1 1) (S := fun _ => True) rfl rfl ((own_below (own_drew Y4.out) HB2.out).alloc _) (Sl.one_of (new_blk _ _) trivial rfl) (by exact head_one (T := T.its[i]) rfl rfl) (by unfold maxLen; omega) (by omega) (by have := Y3.out.size; have := HB2.out.size; have := H.out.bel.size; have := H.out.hB; have := hk_lt H.out.var; simp only [World.size_drew, World.size_alloc] at *; omega) ?_; intro v w3 ho hg hb; obtain ⟨vA, vc, hv⟩ := own_slice ho; subst hv; have Z3 := Lib.hid (hk_grow (hk_alloc Z1.out _) hg (Ne.symm N1.out)); have Z4 := Lib.hid (hk_grow (hk_alloc Z2.out _) hg (Ne.symm N2.out)); have z3 := cell_blk Z4.out; have z4 := frozen_blk Z4.out; have HO3 := Lib.hid ho; have HG3 := Lib.hid hg; have HB3 := Lib.hid hb; clear ho hg hb) | (refine step_call rfl 35 _ _ rfl (enters_of Try.func35 (by kernel_rfl) rfl) rfl (HC.out _ (Kc.trans (kc_below Y3.out) kc_drew)) ?_; rintro e' w2 ⟨wi, wk, rfl, hr2, hb2⟩; refine ⟨_, rfl, ?_⟩; obtain ⟨b1, e1, b2, e2, rfl, rfl⟩ := rep_shape hr2; have Z1 := Lib.hid (hk_below (hk_drew Y1.out) hb2); have Z2 := Lib.hid (hk_below (hk_drew Y2.out) hb2); have HR2 := Lib.hid hr2; have HB2 := Lib.hid hb2; have z1 := cell_blk Z1.out; have z2 := cell_blk Z2.out; have z5 := hk_lt Z2.out; clear hr2 hb2))
        all_goals
          have HX := Lib.hid (VAt.step H.out hlt (bl_drew Y3.out) HB2.out (HR2.out.mono fun g h => h.imp (fun h => h.1) id) HG3.out HO.out HRS.out HO3.out rfl HB3.out)
          clear Y1 Y2 Y3 Y4 Z1 Z2 Z3 Z4 HR2 HB2 HO3 HG3 HB3 z1 z2 z3 z4 y1 y2 HRS HO
          go_wp2_with fail
          go_roundw
          case rel => exact ⟨i + 1, _, by omega, by go_num, HX⟩
          case measure => simp [intOf]; omega
      · obtain rfl : i = T.its.length := by omega
        skip
        have r1 := cell_blk H.out.res
        have r2 := frozen_blk H.out.res
        have r3 := cell_blk H.out.var
        go_wp2_with fail
        refine bodyPost_ret (v := T.agg (.slice rA T.its.length rc) (.slice kA T.ks.length kc)) (by simp [results, Try.results35, go_sem, r1]) rfl ⟨_, _, rfl, ?_, ?_⟩
        · refine (H.out.done fun b o hb hx => ?_)
          ((repeat (first | with_reducible exact hx | with_reducible exact new_blk _ _ | with_reducible exact new_blk1 _ _ _ | with_reducible exact new_blk2 _ _ _ _ | with_reducible refine hk_drew ?_ | with_reducible refine hk_alloc ?_ _ | with_reducible refine hk_set ?_ (by dsimp only; have := hb; omega) _)); done)
        · exact (by ((repeat (first | with_reducible exact H.out.bel | with_reducible exact Below.refl _ _ | with_reducible refine bl_drew ?_ | with_reducible refine bl_alloc ?_ _ | with_reducible refine bl_set ?_ (by dsimp only; omega) _)); done))
end Go.Proofs.Ytbajghjdnjodmaa
