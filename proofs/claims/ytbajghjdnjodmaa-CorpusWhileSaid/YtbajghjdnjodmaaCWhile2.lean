/- CorpusWhile's closure, walked. -/
import Derived.Test.YtbajghjdnjodmaaCWhile1
import Derived.BigQuiet
namespace Go.Proofs.Ytbajghjdnjodmaa
set_option linter.unusedVariables false
set_option linter.unusedSimpArgs false
open Go.RowKit

theorem but_cell {m : Nat} {w w' : World} (h : But m w w') (b o : Nat) (hb : b < w.heap.size) (hn : b ≠ m) : w'.cell? ⟨b, o, none⟩ = w.cell? ⟨b, o, none⟩ := World.cell?_of_block (h.block b hb hn)
theorem cells_ne {w : World} {m b : Nat} {l : List ET} {S : Nat → Prop} (hs : Syn w S m l) {o : Nat} {v : Value} (h : w.cell? ⟨b, o, none⟩ = some v) : b ≠ m := fun e => by
  obtain ⟨es, c, hm⟩ := hs.isMap
  subst e
  simp [World.cell?, hm] at h
theorem AT.Cells.lt {w : World} {S : Nat → Prop} {a : AT} {vn vd : Value} (h : a.Cells w S vn vd) : a.Cells w (fun g => g < w.heap.size) vn vd := by
  obtain ⟨h0, ⟨cs, h1, h2⟩, h3⟩ := h
  exact ⟨h0, ⟨cs, h1.lt.mono fun _ h => h.2, h2.mono fun _ _ ⟨k0, vi, vk, k1, k2, k3⟩ => ⟨k0, vi, vk, k1, k2.lt.mono fun _ h => h.2, k3.lt.mono fun _ h => h.2⟩⟩, h3.lt.mono fun _ h => h.2⟩
theorem doc_shape {w : World} {S : Nat → Prop} {v : Value} {l : List ET} (h : Doc w S v l) : ∃ a c, v = .slice a l.length c := by
  obtain ⟨_, h1, _⟩ := h
  obtain ⟨a, c, h2, _⟩ := h1.shape
  exact ⟨a, c, h2⟩
theorem Acts.lt {w : World} {S : Nat → Prop} {v : Value} {l : List AT} (h : Acts w S v l) : Acts w (fun g => g < w.heap.size) v l := by
  obtain ⟨h0, cs, h1, h2⟩ := h
  exact ⟨h0, cs, h1.lt.mono fun _ h => h.2, h2.mono fun _ _ ⟨vn, vd, k1, k2⟩ => ⟨vn, vd, k1, k2.lt⟩⟩
/-- What the closure says. -/
def WSaid (w0 : World) (g m bo bn bw bm bc bl bt : Nat) (wv mv : Value) (most : Int) (was : List ET) (k n0 : Nat) (w : World) (r : Ending) (w' : World) : Prop :=
  r = .returned (.bool (decide ((k : Int) + 1 < most))) ∧ WAt w0 g m bo bn bw bm bc bl bt wv mv most was (k + 1) w' ∧ Far n0 w w'
set_option maxRecDepth 20000 in
set_option maxHeartbeats 1000000 in
theorem while1_any (w0 : World) (g m bo bn bw bm bc bl bt : Nat) (wv mv : Value) (most : Int) (was : List ET) (k n0 : Nat) (more : List AT) (S S' : Nat → Prop) (e : ET) (vi vk vd : Value) (w : World)
    (h : WAt w0 g m bo bn bw bm bc bl bt wv mv most was k w) (hi : was[k]? = some e) (hok : e.ok) (hc : e.Cells w S' vi vk vd) (h64 : was.length ≤ 64) (hA : Acts w0 S mv more) (hM : ∀ a ∈ more, a.nm.size ≤ 40 ∧ a.dr.length ≤ 40) (h0 : 0 ≤ most) (h255 : most ≤ 255)
    (hn0 : bo < n0 ∧ bn < n0 ∧ bl < n0 ∧ m < n0) :
    Calls Try.prog 28 #[.string e.nm, e.ent vi vk vd, .pointer (some ⟨bo, 0, none⟩), .pointer (some ⟨bn, 0, none⟩), .pointer (some ⟨bw, 0, none⟩), .pointer (some ⟨bm, 0, none⟩), .pointer (some ⟨bc, 0, none⟩), .pointer (some ⟨bl, 0, none⟩), .pointer (some ⟨bt, 0, none⟩)] w
      (WSaid w0 g m bo bn bw bm bc bl bt wv mv most was k n0 w) := by
  have hlt := (List.getElem?_eq_some_iff.1 hi).1
  obtain rfl : was[k] = e := by rw [List.getElem?_eq_getElem hlt] at hi; exact Option.some.inj hi
  clear hi
  obtain ⟨cs, hs, hr⟩ := h.doc
  obtain ⟨gl, ol, cl, hv, _, _, hgl, hcells⟩ := hs.at (by omega)
  subst hv
  obtain ⟨xi, xk, xd, hx, x0, x1, x2, x3, x4, x5, x6, x7, x8, x9⟩ := ten_row hr hcells hlt
  obtain ⟨a1, b1, a2, b2, a3, b3, rfl, rfl, rfl⟩ := cells_shape hc
  obtain ⟨c1, d1, c2, d2, c3, d3, rfl, rfl, rfl⟩ := cells_shape hx
  obtain ⟨av, cv, rfl, hcv⟩ := acts_shape hA
  have hmx : more.length ≤ 9223372036854775807 := hA.1
  have y1 := hk_lt h.ok
  have y2 := hk_lt h.num
  have y3 := hk_lt h.row
  have H := Lib.hid h
  have HA := Lib.hid hA.lt
  have HM := Lib.hid hM
  have HN0 := Lib.hid hn0
  have HRF := Lib.hid (fun (W : World) (hb : Below w.heap.size w W) => ref_any was[k] hok S' _ _ _ W (hc.keep (kc_below hb)))
  have HSM := Lib.hid (fun (W : World) (hb : Below w.heap.size w W) (wi wk wd : Value) (q : ET.Cells W (fun _ => True) was[k] wi wk wd) => same24_any was[k] hok _ _ _ _ _ _ _ _ W q (hx.keep (kc_below hb)))
  have h1c := cell_blk h.ok
  have h2c := cell_blk h.num
  have h3c := cell_blk h.row
  clear hs hr hcells hx hc hok h hA hM hn0
  go_enter Try.func28, Try.ntmps28
  go_upto_region 1 with fail
  refine abs_world (F := fun W => W.heap[w.heap.size]? = some (.cells #[.int .i64 was[k].v.k, .bool was[k].v.b, .int .i64 was[k].v.n, .string was[k].v.s, .slice a1 was[k].v.its.length b1, .slice a2 was[k].v.ks.length b2, .bool was[k].has, .string was[k].st, .slice a3 was[k].dr.length b3] 33 (0, 0)) ∧ Below w.heap.size w W ∧ ∀ b o, b < w.heap.size → W.cell? ⟨b, o, none⟩ = w.cell? ⟨b, o, none⟩) ⟨by ((repeat (first | with_reducible exact new_blk _ _ | with_reducible exact new_blk1 _ _ _ | with_reducible exact new_blk2 _ _ _ _ | with_reducible refine hk_drew ?_ | with_reducible refine hk_alloc ?_ _ | with_reducible refine hk_set ?_ (by dsimp only; omega) _)); done), by ((repeat (first | with_reducible exact Below.refl _ _ | with_reducible refine bl_drew ?_ | with_reducible refine bl_alloc ?_ _ | with_reducible refine bl_set ?_ (by dsimp only; omega) _)); done), fun b o hb => (bl_alloc (Below.refl _ w) _).cell (p := ⟨b, o, none⟩) hb⟩ ?_
  rintro W ⟨g1, g2, g3⟩
  have z0 := cell_blk g1
  have z1 := hk_lt g1
  have e1 := (g3 _ _ hgl).trans x0
  have e2 := (g3 _ _ hgl).trans x1
  have e3 := (g3 _ _ hgl).trans x2
  have e4 := (g3 _ _ hgl).trans x3
  have e5 := (g3 _ _ hgl).trans x4
  have e6 := (g3 _ _ hgl).trans x5
  have e7 := (g3 _ _ hgl).trans x6
  have e8 := (g3 _ _ hgl).trans x7
  have e9 := (g3 _ _ hgl).trans x8
  have e10 := (g3 _ _ hgl).trans x9
  have e11 := (g3 bo 0 y1).trans (h1c 0)
  have e12 := (g3 bn 0 y2).trans (h2c 0)
  have e13 := (g3 bw 0 y3).trans (h3c 0)
  have G2 := Lib.hid g2
  have HW := Lib.hid (H.out.below g2)
  have P1 := Lib.hid HW.out.ok
  have hgl2 : gl < W.heap.size := Nat.lt_of_lt_of_le hgl g2.size
  have hy1 : bo < W.heap.size := Nat.lt_of_lt_of_le y1 g2.size
  have hy2 : bn < W.heap.size := Nat.lt_of_lt_of_le y2 g2.size
  have hy3 : bw < W.heap.size := Nat.lt_of_lt_of_le y3 g2.size
  clear g1 g2 g3 x0 x1 x2 x3 x4 x5 x6 x7 x8 x9 h1c h2c h3c
  have GS := Lib.hid G2.out.size
  go_region_held3 (fun W' => (∀ b o, b < W.heap.size → W'.cell? ⟨b, o, none⟩ = W.cell? ⟨b, o, none⟩) ∧ W'.frozen? ⟨bo, 0, none⟩ = false)
    (first | exact ⟨fun _ _ _ => rfl, frozen_blk P1.out 0⟩ | exact ⟨cb_same (bcell H6.out).1 (hk_below P1.out H6.out) 0 rfl, frozen_blk (set_same (hk_below P1.out H6.out) 0 _ rfl) 0⟩ | exact ⟨(bcell H6.out).1, frozen_blk (hk_below P1.out H6.out) 0⟩ | exact ⟨(bcell H5.out).1, frozen_blk (hk_below P1.out H5.out) 0⟩)
    (first
      | (go_at_call 22; refine (HRF.out _ (by ((repeat (first | with_reducible exact G2.out | with_reducible exact Below.refl _ _ | with_reducible refine bl_drew ?_ | with_reducible refine bl_alloc ?_ _ | with_reducible refine bl_set ?_ (by dsimp only; omega) _)); done))).mono ?_; rintro e' w2 ⟨wi, wk, rfl, hc2, hb2⟩; obtain ⟨u1, t1, u2, t2, u3, t3, rfl, rfl, hu3⟩ := cells_shape hc2; cases hu3; have H5 : Hid (Below W.heap.size W w2) := Lib.hid (bl_step (by ((repeat (first | with_reducible exact Below.refl _ _ | with_reducible refine bl_drew ?_ | with_reducible refine bl_alloc ?_ _ | with_reducible refine bl_set ?_ (by dsimp only; omega) _)); done)) hb2); have HC2 := Lib.hid hc2; clear hb2 hc2)
      | (go_at_call 21; refine (HSM.out w2 (G2.out.trans (H5.out.mono GS.out)) _ _ _ HC2.out).mono ?_; rintro e' w3 ⟨rfl, hb3⟩; have H6 : Hid (Below W.heap.size W w3) := Lib.hid (bl_step H5.out hb3); clear hb3))
  all_goals (refine ‹∀ (a : Act) (w : World), _ → _› _ _ ?_)
  all_goals
    refine abs_world (F := fun W => WAt w0 g m bo bn bw bm bc bl bt (.slice (some ⟨gl, ol, none⟩) was.length cl) (.slice av more.length cv) most was k W ∧ Far n0 w W) ⟨(HW.out.below H6.out).sure, ((far_below G2.out).trans (far_below H6.out)).trans (far_set HN0.out.1 _)⟩ ?_
    clear e1 e2 e3 e4 e5 e6 e7 e8 e9 e10 e11 e12 e13 H5 H6 HC2 P1 G2 GS z0 z1 hgl2 hy1 hy2 hy3 HRF HSM HW H
    rintro W4 ⟨hW4, hF4⟩
    have c1 := cell_blk hW4.ok
    have c2 := cell_blk hW4.num
    have c4 := cell_blk hW4.more
    have H := Lib.hid hW4
    have HF := Lib.hid hF4
    have hw : IntKind.i64.wrap ((k : Int) + 1) = (k : Int) + 1 := by rw [IntKind.wrap_i64]; omega
    have ec : ((k + 1 : Nat) : Int) = (k : Int) + 1 := by omega
    by_cases hk2 : k < more.length
    · obtain ⟨lw, q, hl, hq⟩ := hW4.cor
      obtain ⟨ga, oa, rfl, hga⟩ := acts_base HA.out (by omega)
      obtain ⟨vn, vd, hca, d0, d1, d2, d3, d4⟩ := acts_at HA.out hq.bel hk2
      obtain ⟨p1, p2, p3, p4, rfl, rfl⟩ := act_shape hca
      obtain ⟨m1, m2⟩ := HM.out _ (List.getElem_mem hk2)
      have c5 := cell_blk hW4.han
      have c7 := cell_blk hl
      have s1 := hk_lt hW4.num
      have s2 := hk_lt hW4.more
      have s3 := hk_lt hW4.han
      have s4 := hk_lt hl
      have s5 : ga < W4.heap.size := Nat.lt_of_lt_of_le hga hq.bel.size
      have n1 := cells_ne hq.syn (c2 0)
      have n2 := cells_ne hq.syn (c4 0)
      have n3 := cells_ne hq.syn (c5 0)
      have n4 := cells_ne hq.syn (c7 0)
      have n5 := cells_ne hq.syn d0
      have HQ := Lib.hid hq
      have HL := Lib.hid hl
      have HD := Lib.hid (fun (W : World) (hb : Below W4.heap.size W4 W) => do_any g m q lw more[k] _ _ _ _ W m1 m2 (hca.keep (kc_below hb)) (HQ.out.below hb).han (HQ.out.below hb).syn HQ.out.ok (HQ.out.below hb).doc)
      have s6 := hk_lt hW4.ok
      have HSS : Hid (∀ (n x : Nat), W4.heap.size ≤ n → ((x ≠ bo ∧ x ≠ bn ∧ x ≠ bl) ∨ x < w0.heap.size) ∨ n ≤ x → x ≠ bo ∧ x ≠ bn ∧ x ≠ bl) := Lib.hid (fun n x hn h => by
        have ho := hW4.own
        rcases h with (h | h) | h
        · exact h
        · exact ⟨by omega, by omega, by omega⟩
        · exact ⟨by omega, by omega, by omega⟩)
      clear hq hl hca m1 m2 hW4 hF4
      go_upto_region 3 with fail
      go_region_held3 (fun W' => ∀ b o, b < W4.heap.size → b ≠ m → W'.cell? ⟨b, o, none⟩ = W4.cell? ⟨b, o, none⟩)
        (first | exact (fun _ _ _ _ => rfl) | exact (fun b o hb hn => but_cell HBT.out b o hb hn))
        (first
          | (go_at_call 26; refine (HD.out _ (by ((repeat (first | with_reducible exact Below.refl _ _ | with_reducible refine bl_drew ?_ | with_reducible refine bl_alloc ?_ _ | with_reducible refine bl_set ?_ (by dsimp only; omega) _)); done))).mono ?_; rintro e' w5 ⟨lv', l', rfl, hdoc, hokl, hsy, hbut⟩; obtain ⟨lA, lC, hv2⟩ := doc_shape hdoc; subst hv2; have HDC := Lib.hid (hdoc.go (S' := fun x => x ≠ bo ∧ x ≠ bn ∧ x ≠ bl) (Kc.refl _ _) (fun x _ _ _ h _ => HSS.out _ x (by simp) h)); have HOK := Lib.hid hokl; have HSY := Lib.hid (hsy.mono (S' := fun x => x ≠ bo ∧ x ≠ bn ∧ x ≠ bl) (fun x h => HSS.out _ x (by simp) h)); have HBT : Hid (But m W4 w5) := Lib.hid ((but_below (by ((repeat (first | with_reducible exact Below.refl _ _ | with_reducible refine bl_drew ?_ | with_reducible refine bl_alloc ?_ _ | with_reducible refine bl_set ?_ (by dsimp only; omega) _)); done))).trans hbut); clear hdoc hokl hsy hbut))
      all_goals (refine ‹∀ (a : Act) (w : World), _ → _› _ _ ?_)
      all_goals
        have q7 := cell_blk (but_cells HBT.out HQ.out.syn HL.out)
        have f7 := frozen_blk (but_cells HBT.out HQ.out.syn HL.out)
        have HX := Lib.hid (H.out.done HDC.out HOK.out HSY.out HBT.out)
        clear d0 d1 d2 d3 d4
        have q1 := cell_blk HX.out.ok
        have f1 := frozen_blk HX.out.ok
        go_upto_region 6 with fail
        refine abs_world (F := fun W => WAt w0 g m bo bn bw bm bc bl bt (.slice (some ⟨gl, ol, none⟩) was.length cl) (.slice (some ⟨ga, oa, none⟩) more.length cv) most was k W ∧ Far n0 w W) ⟨HX.out.sure, ((HF.out.trans (far_but HBT.out HN0.out.2.2.2)).trans (far_set HN0.out.2.2.1 _)).trans (far_set HN0.out.1 _)⟩ ?_
        clear HX HF H q1 f1 q7 f7 HBT HQ HL HDC HSY c1 c2 c4 c5 c7
        rintro W6 ⟨hW6, hF6⟩
        have c2 := cell_blk hW6.num
        have f2 := frozen_blk hW6.num
        have hbn := hW6.ne.1.1
        have e1 := cell_blk (hk_set hW6.ok (p := ⟨bn, 0, none⟩) hbn (.int .i64 ((k : Int) + 1)))
        have e2 := cell_blk (set_to hW6.num 0 (.int .i64 ((k : Int) + 1)) rfl)
        have e6 := cell_blk (hk_set hW6.top (p := ⟨bn, 0, none⟩) hW6.ne.2.1.2.2.2.1.symm (.int .i64 ((k : Int) + 1)))
        have HX := Lib.hid hW6.next
        rw [ec] at HX
        have HF := Lib.hid hF6
        clear hW6 hF6 hbn ec
        go_wp2
        go_ret
        exact ⟨rfl, HX.out, HF.out.trans (far_set HN0.out.2.1 _)⟩
    · have f2 := frozen_blk hW4.num
      have c6 := cell_blk hW4.top
      have hbn := hW4.ne.1.1
      have e1 := cell_blk (hk_set hW4.ok (p := ⟨bn, 0, none⟩) hbn (.int .i64 ((k : Int) + 1)))
      have e2 := cell_blk (set_to hW4.num 0 (.int .i64 ((k : Int) + 1)) rfl)
      have e6 := cell_blk (hk_set hW4.top (p := ⟨bn, 0, none⟩) hW4.ne.2.1.2.2.2.1.symm (.int .i64 ((k : Int) + 1)))
      have HX := Lib.hid hW4.next
      rw [ec] at HX
      clear hW4 hF4 hbn ec
      go_wp2
      go_ret
      exact ⟨rfl, HX.out, HF.out.trans (far_set HN0.out.2.1 _)⟩
end Go.Proofs.Ytbajghjdnjodmaa
