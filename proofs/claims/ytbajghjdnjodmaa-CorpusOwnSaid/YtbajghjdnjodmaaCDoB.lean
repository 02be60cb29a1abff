/- The law's do, where an act is Get of what is there. -/
import Derived.Test.YtbajghjdnjodmaaCDoA
import Derived.Test.YtbajghjdnjodmaaCIs
namespace Go.Proofs.Ytbajghjdnjodmaa
set_option linter.unusedVariables false
set_option linter.unusedSimpArgs false
open Go.RowKit

section
variable (g m : Nat) (l : List ET) (lv : Value) (a : AT) (vn vd : Value) (S : Nat → Prop) (w : World)
set_option maxRecDepth 20000 in
set_option maxHeartbeats 1000000 in
theorem do_some (k : Nat) (hlt : k < l.length) (hne : l[k].nm = a.nm) (hf : findF a.nm l 0 = some k) (hq : a.k % 4 = 3) (h0 : 0 ≤ a.k) (h255 : a.k ≤ 255) (hsz : a.nm.size ≤ 9223372036854775807) (hg : w.heap[g]? = some (.cells #[.map (some m)] 69 (0, 0))) (h : Syn w S m l) (hd : DocOk l) (hD : Doc w S lv l) :
    Calls Try.prog 26 #[.pointer (some ⟨g, 0, none⟩), lv, a.agg vn vd] w (DoSaid S m w) := by
  have hq1 := rem4 h0 hq
  have hmem := List.getElem_mem hlt
  have h64 := hd.len
  have hD0 := hD
  obtain ⟨cs, hs, _⟩ := hD0
  obtain ⟨gl, ol, cl, hv, hcl, _, hgl, _⟩ := hs.at (by omega)
  subst hv
  clear hs
  have HG := Lib.hid (fun (W : World) (hb : Below w.heap.size w W) => cget_some g m l a.nm S W l[k] hmem hne (hd.ok _ hmem) (hk_below hg hb) (h.below hb) hsz)
  have HF := Lib.hid (fun (W : World) (hb : Below w.heap.size w W) => find_any l _ a.nm S W (hD.below hb) (by omega))
  have hfi : findI a.nm l = (k : Int) := by unfold findI; rw [hf]
  rw [hfi] at HF
  have HRF := Lib.hid (fun (W : World) (vi vk vd' : Value) (hc : l[k].Cells W (fun _ => True) vi vk vd') => (show Calls Try.prog 22 #[.string a.nm, l[k].ent vi vk vd'] W _ from hne ▸ ref_any l[k] (hd.ok _ hmem) (fun _ => True) vi vk vd' W hc))
  have HSM := Lib.hid (fun (W : World) (wi wk wd xi xk xd : Value) (q : ET.Cells W (fun _ => True) l[k] wi wk wd) (q' : ET.Cells W S l[k] xi xk xd) => same24_any l[k] (hd.ok _ hmem) _ S _ _ _ _ _ _ W q q')
  have HS := Lib.hid h
  have HD := Lib.hid hD
  have HO := Lib.hid hd
  clear hg h hd hD hq hf hfi hne hmem
  go_enter Try.func26, Try.ntmps26
  go_upto_region 10 with (first
    | (go_at_call 20; refine (HG.out _ (by ((repeat (first | with_reducible exact Below.refl _ _ | with_reducible refine bl_drew ?_ | with_reducible refine bl_alloc ?_ _ | with_reducible refine bl_set ?_ (by dsimp only; omega) _)); done))).mono ?_; rintro e' w1 ⟨yi, yk, yd, rfl, hc1, hb1⟩; obtain ⟨u1, t1, u2, t2, u3, t3, rfl, rfl, rfl⟩ := cells_shape hc1; have HC1 := Lib.hid hc1; have HB1 : Hid (Below w.heap.size w w1) := Lib.hid (bl_step (by ((repeat (first | with_reducible exact Below.refl _ _ | with_reducible refine bl_drew ?_ | with_reducible refine bl_alloc ?_ _ | with_reducible refine bl_set ?_ (by dsimp only; omega) _)); done)) hb1); have P1 := hk_below (by ((repeat (first | with_reducible exact new_blk _ _ | with_reducible exact new_blk1 _ _ _ | with_reducible exact new_blk2 _ _ _ _ | with_reducible refine hk_drew ?_ | with_reducible refine hk_alloc ?_ _ | with_reducible refine hk_set ?_ (by dsimp only; omega) _)); done) : _ = some (Obj.cells #[.int .u8 a.k, .string a.nm, vn, .bool a.has, vd] 41 (0, 0))) hb1; have HP1 := Lib.hid P1; have c1 := cell_blk P1; have s1 := hk_lt P1; clear hb1 P1 hc1)
    | (go_at_call 41; refine (HF.out _ (by ((repeat (first | with_reducible exact HB1.out | with_reducible exact Below.refl _ _ | with_reducible refine bl_drew ?_ | with_reducible refine bl_alloc ?_ _ | with_reducible refine bl_set ?_ (by dsimp only; omega) _)); done))).mono ?_; rintro e' w2 ⟨rfl, rfl⟩))
  refine abs_world (F := fun W => Below w1.heap.size w1 W ∧ W.heap[w1.heap.size]? = some (.cells #[.int .i64 l[k].v.k, .bool l[k].v.b, .int .i64 l[k].v.n, .string l[k].v.s, .slice u1 l[k].v.its.length t1, .slice u2 l[k].v.ks.length t2, .bool l[k].has, .string l[k].st, .slice u3 l[k].dr.length t3] 33 (0, 0))) ⟨by ((repeat (first | with_reducible exact Below.refl _ _ | with_reducible refine bl_drew ?_ | with_reducible refine bl_alloc ?_ _ | with_reducible refine bl_set ?_ (by dsimp only; omega) _)); done), by ((repeat (first | with_reducible exact new_blk _ _ | with_reducible exact new_blk1 _ _ _ | with_reducible exact new_blk2 _ _ _ _ | with_reducible refine hk_drew ?_ | with_reducible refine hk_alloc ?_ _ | with_reducible refine hk_set ?_ (by dsimp only; omega) _)); done)⟩ ?_
  clear c1 s1
  rintro W ⟨g1, g2⟩
  have z0 := cell_blk (hk_below HP1.out g1)
  have z1 := hk_lt (hk_below HP1.out g1)
  have z2 := cell_blk g2
  have z3 := hk_lt g2
  have hWb := bl_step HB1.out g1
  have HW := Lib.hid hWb
  have HC2 := Lib.hid (HC1.out.keep (kc_below g1))
  obtain ⟨cs, hs, hr⟩ := HD.out.below hWb
  obtain ⟨gl', ol', cl', hv, _, _, hgl2, hcells⟩ := hs.at (by omega)
  cases hv
  obtain ⟨xi, xk, xd, hx, x0, x1, x2, x3, x4, x5, x6, x7, x8, x9⟩ := ten_row hr hcells hlt
  obtain ⟨a1, b1, a2, b2, a3, b3, rfl, rfl, rfl⟩ := cells_shape hx
  have HX := Lib.hid hx
  clear g1 g2 hWb hs hr hcells hx HC1 HP1
  go_region_held3 (fun W' => ∀ b o, b < W.heap.size → W'.cell? ⟨b, o, none⟩ = W.cell? ⟨b, o, none⟩)
    (first | exact (fun _ _ _ => rfl) | exact (bcell H6.out).1 | exact (bcell H5.out).1)
    (first
      | (go_at_call 22; refine (HRF.out _ _ _ _ ((HC2.out.keep (kc_below (by ((repeat (first | with_reducible exact Below.refl _ _ | with_reducible refine bl_drew ?_ | with_reducible refine bl_alloc ?_ _ | with_reducible refine bl_set ?_ (by dsimp only; omega) _)); done)))).mono fun _ _ => trivial)).mono ?_; rintro e' w2 ⟨wi, wk, rfl, hc2, hb2⟩; obtain ⟨v1, q1, v2, q2, v3, q3, rfl, rfl, hu3⟩ := cells_shape hc2; cases hu3; have H5 : Hid (Below W.heap.size W w2) := Lib.hid (bl_step (by ((repeat (first | with_reducible exact Below.refl _ _ | with_reducible refine bl_drew ?_ | with_reducible refine bl_alloc ?_ _ | with_reducible refine bl_set ?_ (by dsimp only; omega) _)); done)) hb2); have HC3 := Lib.hid hc2; clear hb2 hc2)
      | (go_at_call 21; refine (HSM.out w2 _ _ _ _ _ _ HC3.out (HX.out.keep (kc_below H5.out))).mono ?_; rintro e' w3 ⟨rfl, hb3⟩; have H6 : Hid (Below W.heap.size W w3) := Lib.hid (bl_step H5.out hb3); clear hb3))
  all_goals (refine ‹∀ (a : Act) (w : World), _ → _› _ _ ?_)
  all_goals
    have HE := Lib.hid (bl_step HW.out H6.out)
    clear x0 x1 x2 x3 x4 x5 x6 x7 x8 x9 z0 z1 z2 z3 H5 H6 HC3 HX
    go_wp2
    go_ret2
    exact ⟨_, _, rfl, (HD.out.below HE.out).go (Kc.refl _ _) (fun _ _ _ _ h _ => .inl h), HO.out, (HS.out.below HE.out).mono (fun _ h => .inl h), but_below HE.out⟩
end
end Go.Proofs.Ytbajghjdnjodmaa
