/- The law's Is: a corpus that has just a row's entries is told to. -/
import Derived.Test.YtbajghjdnjodmaaCAll
import Derived.BigQuiet
namespace Go.Proofs.Ytbajghjdnjodmaa
set_option linter.unusedVariables false
set_option linter.unusedSimpArgs false
open Go.RowKit Go.Shelf

theorem ten_row {w : World} {S : Nat → Prop} {l : List ET} {cs : List Value} {g o : Nat} (hr : Rows (ET.Ten w S) l cs) (hc : ∀ j u, cs[j]? = some u → w.cell? ⟨g, o + j, none⟩ = some u) {i : Nat} (hi : i < l.length) :
    ∃ vi vk vd, l[i].Cells w S vi vk vd ∧ w.cell? ⟨g, o + i * 10, none⟩ = some (.string l[i].nm) ∧ w.cell? ⟨g, o + i * 10 + 1, none⟩ = some (.int .i64 l[i].v.k) ∧ w.cell? ⟨g, o + i * 10 + 2, none⟩ = some (.bool l[i].v.b) ∧ w.cell? ⟨g, o + i * 10 + 3, none⟩ = some (.int .i64 l[i].v.n) ∧ w.cell? ⟨g, o + i * 10 + 4, none⟩ = some (.string l[i].v.s) ∧ w.cell? ⟨g, o + i * 10 + 5, none⟩ = some vi ∧ w.cell? ⟨g, o + i * 10 + 6, none⟩ = some vk ∧ w.cell? ⟨g, o + i * 10 + 7, none⟩ = some (.bool l[i].has) ∧ w.cell? ⟨g, o + i * 10 + 8, none⟩ = some (.string l[i].st) ∧ w.cell? ⟨g, o + i * 10 + 9, none⟩ = some vd := by
  obtain ⟨vi, vk, vd, h, ht⟩ := ten_cells hr hc hi
  exact ⟨vi, vk, vd, h, ht 0 (by omega), ht 1 (by omega), ht 2 (by omega), ht 3 (by omega), ht 4 (by omega), ht 5 (by omega), ht 6 (by omega), ht 7 (by omega), ht 8 (by omega), ht 9 (by omega)⟩
theorem cb_same {n : Nat} {W W' : World} (h : ∀ b o, b < n → W'.cell? ⟨b, o, none⟩ = W.cell? ⟨b, o, none⟩) {g : Nat} {cs : Array Value} {t : TypeId} (hg : W'.heap[g]? = some (.cells cs t (0, 0))) {v : Value} (i : Nat) (hv : cs[i]? = some v) : ∀ b o, b < n → (W'.setCell ⟨g, i, none⟩ v).cell? ⟨b, o, none⟩ = W.cell? ⟨b, o, none⟩ := fun b o hb => by
  rw [← h b o hb]
  by_cases e : b = g
  · subst e
    exact World.cell?_of_block ((set_same hg i v hv).trans hg.symm)
  · exact World.cell?_of_block (heap_setCell_other W' _ b v e)
theorem but_set {m g : Nat} {w W : World} (h : But m w W) (v : Value) (i : Nat) (hg : g = m ∨ w.heap.size ≤ g) : But m w (W.setCell ⟨g, i, none⟩ v) :=
  ⟨h.os, h.tape, h.output, (by simpa using h.size), fun j hj hn => (Below.heap_setCell W _ v j (by dsimp only; omega)).trans (h.block j hj hn)⟩
theorem but_same {m g : Nat} {w W : World} (h : But m w W) {cs : Array Value} {t : TypeId} (hg : W.heap[g]? = some (.cells cs t (0, 0))) {v : Value} (i : Nat) (hv : cs[i]? = some v) : But m w (W.setCell ⟨g, i, none⟩ v) :=
  ⟨h.os, h.tape, h.output, (by simpa using h.size), fun j hj hn => by
    by_cases e : j = g
    · subst e; exact ((set_same hg i v hv).trans hg.symm).trans (h.block j hj hn)
    · exact (Below.heap_setCell W _ v j e).trans (h.block j hj hn)⟩
set_option maxRecDepth 20000 in
set_option maxHeartbeats 1000000 in
theorem is1_any (e : ET) (i : Nat) (l : List ET) (lv : Value) (ok n lb : Nat) (S S' : Nat → Prop) (vi vk vd : Value) (w : World) (h1 : w.heap[ok]? = some (.cells #[.bool true] 4 (0, 0))) (h2 : w.heap[n]? = some (.cells #[.int .i64 i] 3 (0, 0)))
    (h3 : w.heap[lb]? = some (.cells #[lv] 61 (0, 0))) (hl : Doc w S lv l) (hi : l[i]? = some e) (hk : e.ok) (hc : e.Cells w S' vi vk vd) (h64 : l.length ≤ 64) :
    Calls Try.prog 39 #[.string e.nm, e.ent vi vk vd, .pointer (some ⟨ok, 0, none⟩), .pointer (some ⟨n, 0, none⟩), .pointer (some ⟨lb, 0, none⟩)] w fun r w' => r = .returned (.bool true) ∧
      w'.heap[n]? = some (.cells #[.int .i64 (i + 1 : Nat)] 3 (0, 0)) ∧ But n w w' := by
  have hlt := (List.getElem?_eq_some_iff.1 hi).1
  obtain rfl : l[i] = e := by rw [List.getElem?_eq_getElem hlt] at hi; exact Option.some.inj hi
  clear hi
  have hon : ok ≠ n := fun e => by subst e; rw [h1] at h2; simp at h2
  have hnl : n ≠ lb := fun e => by subst e; rw [h2] at h3; simp at h3
  obtain ⟨cs, hs, hr⟩ := hl
  obtain ⟨gl, ol, cl, hv, _, _, hgl, hcells⟩ := hs.at (by omega)
  subst hv
  obtain ⟨xi, xk, xd, hx, x0, x1, x2, x3, x4, x5, x6, x7, x8, x9⟩ := ten_row hr hcells hlt
  obtain ⟨a1, b1, a2, b2, a3, b3, rfl, rfl, rfl⟩ := cells_shape hc
  obtain ⟨c1, d1, c2, d2, c3, d3, rfl, rfl, rfl⟩ := cells_shape hx
  have y1 := hk_lt h1
  have y2 := hk_lt h2
  have y3 := hk_lt h3
  have H1 := Lib.hid h1
  have H2 := Lib.hid h2
  have HRF := Lib.hid (fun (W : World) (hb : Below w.heap.size w W) => ref_any l[i] hk S' _ _ _ W (hc.keep (kc_below hb)))
  have HSM := Lib.hid (fun (W : World) (hb : Below w.heap.size w W) (wi wk wd : Value) (q : ET.Cells W (fun _ => True) l[i] wi wk wd) => same24_any l[i] hk _ S _ _ _ _ _ _ W q (hx.keep (kc_below hb)))
  have h1c := cell_blk h1
  have h2c := cell_blk h2
  have h3c := cell_blk h3
  have hf2 := frozen_blk h2
  clear hs hr hcells hx hc hk h1 h2 h3
  go_enter Try.func39, Try.ntmps39
  go_upto_region 1 with fail
  refine abs_world (F := fun W => W.heap[w.heap.size]? = some (.cells #[.int .i64 l[i].v.k, .bool l[i].v.b, .int .i64 l[i].v.n, .string l[i].v.s, .slice a1 l[i].v.its.length b1, .slice a2 l[i].v.ks.length b2, .bool l[i].has, .string l[i].st, .slice a3 l[i].dr.length b3] 33 (0, 0)) ∧ Below w.heap.size w W ∧ ∀ b o, b < w.heap.size → W.cell? ⟨b, o, none⟩ = w.cell? ⟨b, o, none⟩) ⟨by ((repeat (first | with_reducible exact new_blk _ _ | with_reducible exact new_blk1 _ _ _ | with_reducible exact new_blk2 _ _ _ _ | with_reducible refine hk_drew ?_ | with_reducible refine hk_alloc ?_ _ | with_reducible refine hk_set ?_ (by dsimp only; omega) _)); done), by ((repeat (first | with_reducible exact Below.refl _ _ | with_reducible refine bl_drew ?_ | with_reducible refine bl_alloc ?_ _ | with_reducible refine bl_set ?_ (by dsimp only; omega) _)); done), fun b o hb => (bl_alloc (Below.refl _ w) _).cell (p := ⟨b, o, none⟩) hb⟩ ?_
  rintro W ⟨g1, g2, g3⟩
  have z0 := cell_blk g1
  have z1 := hk_lt g1
  have e1 := (g3 _ _ hgl).trans x0
  have e2 := (g3 _ _ hgl).trans x1
  have e3 := (g3 _ _ hgl).trans x2
  have e4 := (g3 _ _ hgl).trans x3
  have e5 := (g3 _ _ hgl).trans x4
  have e6 := (g3 _ _ hgl).trans x5
  have e7 := (g3 _ _ hgl).trans x6
  have e8 := (g3 _ _ hgl).trans x7
  have e9 := (g3 _ _ hgl).trans x8
  have e10 := (g3 _ _ hgl).trans x9
  have e11 := (g3 ok 0 y1).trans (h1c 0)
  have e12 := (g3 n 0 y2).trans (h2c 0)
  have e13 := (g3 lb 0 y3).trans (h3c 0)
  have G2 := Lib.hid g2
  have GS := Lib.hid g2.size
  have Z1 := Lib.hid z1
  have HGL := Lib.hid hgl
  have P1 : Hid (W.heap[ok]? = some (.cells #[.bool true] 4 (0, 0))) := Lib.hid (hk_below H1.out g2)
  have P2 : Hid (W.heap[n]? = some (.cells #[.int .i64 i] 3 (0, 0))) := Lib.hid (hk_below H2.out g2)
  have hgl2 : gl < W.heap.size := Nat.lt_of_lt_of_le hgl g2.size
  have hy1 : ok < W.heap.size := Nat.lt_of_lt_of_le y1 g2.size
  have hy2 : n < W.heap.size := Nat.lt_of_lt_of_le y2 g2.size
  have hy3 : lb < W.heap.size := Nat.lt_of_lt_of_le y3 g2.size
  clear g1 g2 g3 x0 x1 x2 x3 x4 x5 x6 x7 x8 x9 h1c h2c h3c hf2
  go_region_held3 (fun W' => (∀ b o, b < W.heap.size → W'.cell? ⟨b, o, none⟩ = W.cell? ⟨b, o, none⟩) ∧ W'.frozen? ⟨ok, 0, none⟩ = false)
    (first | exact ⟨fun _ _ _ => rfl, frozen_blk P1.out 0⟩ | exact ⟨cb_same (bcell H6.out).1 (hk_below P1.out H6.out) 0 rfl, frozen_blk (set_same (hk_below P1.out H6.out) 0 _ rfl) 0⟩ | exact ⟨(bcell H6.out).1, frozen_blk (hk_below P1.out H6.out) 0⟩ | exact ⟨(bcell H5.out).1, frozen_blk (hk_below P1.out H5.out) 0⟩)
    (first
      | (go_at_call 22; refine (HRF.out _ (by ((repeat (first | with_reducible exact G2.out | with_reducible exact Below.refl _ _ | with_reducible refine bl_drew ?_ | with_reducible refine bl_alloc ?_ _ | with_reducible refine bl_set ?_ (by dsimp only; omega) _)); done))).mono ?_; rintro e' w2 ⟨wi, wk, rfl, hc2, hb2⟩; obtain ⟨u1, t1, u2, t2, u3, t3, rfl, rfl, hu3⟩ := cells_shape hc2; cases hu3; have H5 : Hid (Below W.heap.size W w2) := Lib.hid (bl_step (by ((repeat (first | with_reducible exact Below.refl _ _ | with_reducible refine bl_drew ?_ | with_reducible refine bl_alloc ?_ _ | with_reducible refine bl_set ?_ (by dsimp only; omega) _)); done)) hb2); have HC2 := Lib.hid hc2; clear hb2 hc2)
      | (go_at_call 21; refine (HSM.out w2 (G2.out.trans (H5.out.mono GS.out)) _ _ _ HC2.out).mono ?_; rintro e' w3 ⟨rfl, hb3⟩; have H6 : Hid (Below W.heap.size W w3) := Lib.hid (bl_step H5.out hb3); clear hb3))
  all_goals (refine ‹∀ (a : Act) (w : World), _ → _› _ _ ?_)
  all_goals
    refine abs_world (F := fun W => W.heap[ok]? = some (.cells #[.bool true] 4 (0, 0)) ∧ W.heap[n]? = some (.cells #[.int .i64 i] 3 (0, 0)) ∧ But n w W) ⟨set_same (hk_below P1.out H6.out) 0 _ rfl, hk_set (hk_below P2.out H6.out) hon.symm _, but_same ((but_below G2.out).trans (but_below H6.out)) (hk_below P1.out H6.out) 0 rfl⟩ ?_
    clear e1 e2 e3 e4 e5 e6 e7 e8 e9 e10 e11 e12 e13 H5 H6 HC2 P1 P2 G2 GS z0
    rintro W4 ⟨g1, g2, g3⟩
    have c1 := cell_blk g1
    have c2 := cell_blk g2
    have f2 := frozen_blk g2
    have e1 := cell_blk (hk_set g1 (p := ⟨n, 0, none⟩) hon (.int .i64 ((i : Int) + 1)))
    have G3 := Lib.hid (but_set g3 (.int .i64 ((i + 1 : Nat) : Int)) 0 (.inl rfl))
    have G2 := Lib.hid (set_to g2 0 (.int .i64 ((i + 1 : Nat) : Int)) rfl)
    have hw : IntKind.i64.wrap ((i : Int) + 1) = (i : Int) + 1 := by rw [IntKind.wrap_i64]; omega
    clear g1 g2 g3
    go_wp2
    go_ret
    have ec : ((i + 1 : Nat) : Int) = (i : Int) + 1 := by omega
    rw [ec] at G2 G3
    exact ⟨rfl, by rw [ec]; exact G2.out, G3.out⟩
set_option maxHeartbeats 400000 in
theorem clen24 (g m : Nat) (l : List ET) (S : Nat → Prop) (w : World) (hg : w.heap[g]? = some (.cells #[.map (some m)] 69 (0, 0))) (h : Syn w S m l) :
    Calls Try.prog 14 #[.pointer (some ⟨g, 0, none⟩)] w fun e w' => e = .returned (.int .i64 l.length) ∧ w' = w := by
  have hl := fun ty => syn_len h ty
  have hc := cell_blk hg
  clear hg h
  go_enter Try.func14, Try.ntmps14
  go_wp2
  go_ret
  exact ⟨rfl, rfl⟩
/-- What Is carries while the entries are told. -/
structure IsAt (w0 : World) (lb n ok : Nat) (lv : Value) (k : Nat) (W : World) : Prop where
  ok : W.heap[ok]? = some (.cells #[.bool true] 4 (0, 0))
  num : W.heap[n]? = some (.cells #[.int .i64 k] 3 (0, 0))
  row : W.heap[lb]? = some (.cells #[lv] 61 (0, 0))
  bel : Below w0.heap.size w0 W
theorem IsAt.below {w0 W W' : World} {lb n ok k : Nat} {lv : Value} (h : IsAt w0 lb n ok lv k W) (hb : Below W.heap.size W W') : IsAt w0 lb n ok lv k W' := ⟨hk_below h.ok hb, hk_below h.num hb, hk_below h.row hb, bl_step h.bel hb⟩
theorem is_yields (l : List ET) (lv : Value) (S : Nat → Prop) (w0 : World) (lb n ok : Nat) (hd : DocOk l) (hD : Doc w0 S lv l) (hn : w0.heap.size ≤ n) (hln : lb ≠ n) (hon : ok ≠ n) (n0 : Nat) (hn0 : n < n0) :
    Yields 39 #[.pointer (some ⟨ok, 0, none⟩), .pointer (some ⟨n, 0, none⟩), .pointer (some ⟨lb, 0, none⟩)] (IsAt w0 lb n ok lv) (fun _ => true) l n0 := by
  intro k e vi vk vd W hk hW hJ hc _
  refine (is1_any e k l lv ok n lb S _ vi vk vd W hJ.ok hJ.num hJ.row (hD.below hJ.bel) hk (hd.ok e (List.mem_of_getElem? hk)) hc hd.len).mono ?_
  rintro r W' ⟨rfl, h1, h2⟩
  refine ⟨rfl, ⟨but_blk h2 hJ.ok hon, h1, but_blk h2 hJ.row hln, ⟨h2.os.trans hJ.bel.os, h2.tape.trans hJ.bel.tape, h2.output.trans hJ.bel.output, Nat.le_trans hJ.bel.size h2.size, fun j hj => (h2.block j (Nat.lt_of_lt_of_le hj hJ.bel.size) (by omega)).trans (hJ.bel.block j hj)⟩⟩, fun _ j h1 h3 => h2.block j h3 (by omega), h2.size⟩
set_option maxRecDepth 20000 in
set_option maxHeartbeats 1000000 in
theorem is24_any (g m : Nat) (l : List ET) (lv : Value) (S S' : Nat → Prop) (w : World) (hg : w.heap[g]? = some (.cells #[.map (some m)] 69 (0, 0))) (h : Syn w S m l) (hd : DocOk l) (hD : Doc w S' lv l) :
    Calls Try.prog 25 #[.pointer (some ⟨g, 0, none⟩), lv] w fun r w' => r = .returned (.bool true) ∧ Below w.heap.size w w' := by
  have hD' := hD
  obtain ⟨cs, hs, hr⟩ := hD
  obtain ⟨av, cv, hvv, _, _⟩ := hs.shape
  subst hvv
  have h64 := hd.len
  have HD := Lib.hid hd
  have HDoc := Lib.hid hD'
  have HG := Lib.hid hg
  have HS := Lib.hid h
  have HLen := Lib.hid (fun (W : World) (hb : Below w.heap.size w W) => clen24 g m l S W (hk_below hg hb) (h.below hb))
  have e1 : ((l.length : Int) != (l.length : Int)) = false := by simp
  have hmf : ∀ (fn : Fn) (first cap : Array Value) (w : World), (Instr.makeFunc fn first cap).run Try.prog w = .ok (.func fn first cap) w := fun _ _ _ _ => rfl
  clear hD' hs hr hg h hd
  go_enter Try.func25, Try.ntmps25
  go_upto_region 1 with fail
  refine abs_world (F := fun W => W.heap[w.heap.size]? = some (.cells #[.slice av l.length cv] 61 (0, 0)) ∧ Below w.heap.size w W) ⟨by ((repeat (first | with_reducible exact new_blk _ _ | with_reducible exact new_blk1 _ _ _ | with_reducible exact new_blk2 _ _ _ _ | with_reducible refine hk_drew ?_ | with_reducible refine hk_alloc ?_ _ | with_reducible refine hk_set ?_ (by dsimp only; omega) _)); done), by ((repeat (first | with_reducible exact Below.refl _ _ | with_reducible refine bl_drew ?_ | with_reducible refine bl_alloc ?_ _ | with_reducible refine bl_set ?_ (by dsimp only; omega) _)); done)⟩ ?_
  rintro W0 ⟨g1, g2⟩
  have c1 := cell_blk g1
  have G1 := Lib.hid g1
  have G2 := Lib.hid g2
  clear g1 g2
  go_quiet ((go_at_call 14; exact Calls.quiet_of_same (HLen.out _ (bl_drewN G2.out _))))
  have g1 : (W0.drewN nq).heap[w.heap.size]? = some (.cells #[.slice av l.length cv] 61 (0, 0)) := G1.out
  have g2 := bl_drewN G2.out nq
  clear G1 G2 c1
  generalize W0.drewN nq = W1 at *
  have c1 := cell_blk g1
  have l1 := hk_lt g1
  have G1 := Lib.hid g1
  have G2 := Lib.hid g2
  clear g1 g2
  go_upto_region 4 with fail
  refine abs_world (F := fun W => IsAt w w.heap.size W1.heap.size (W1.heap.size + 1) (.slice av l.length cv) 0 W ∧ W.heap.size = W1.heap.size + 2) ⟨⟨by ((repeat (first | with_reducible exact G1.out | with_reducible exact new_blk _ _ | with_reducible exact new_blk1 _ _ _ | with_reducible exact new_blk2 _ _ _ _ | with_reducible refine hk_drew ?_ | with_reducible refine hk_alloc ?_ _ | with_reducible refine hk_set ?_ (by dsimp only; have := l1; omega) _)); done), (by show _ = some (Obj.cells #[.int .i64 0] 3 (0, 0)); ((repeat (first | with_reducible exact G1.out | with_reducible exact new_blk _ _ | with_reducible exact new_blk1 _ _ _ | with_reducible exact new_blk2 _ _ _ _ | with_reducible refine hk_drew ?_ | with_reducible refine hk_alloc ?_ _ | with_reducible refine hk_set ?_ (by dsimp only; have := l1; omega) _)); done)), by ((repeat (first | with_reducible exact G1.out | with_reducible exact new_blk _ _ | with_reducible exact new_blk1 _ _ _ | with_reducible exact new_blk2 _ _ _ _ | with_reducible refine hk_drew ?_ | with_reducible refine hk_alloc ?_ _ | with_reducible refine hk_set ?_ (by dsimp only; have := l1; omega) _)); done), by ((repeat (first | with_reducible exact G2.out | with_reducible exact Below.refl _ _ | with_reducible refine bl_drew ?_ | with_reducible refine bl_alloc ?_ _ | with_reducible refine bl_set ?_ (by dsimp only; have := l1; omega) _)); done)⟩, by simp⟩ ?_
  clear c1
  rintro W2 ⟨hA, hz⟩
  have HA := Lib.hid hA
  have HZ := Lib.hid hz
  have hcall := fun (W3 : World) (hb : Below w.heap.size w W3) (hgb : W3.heap[W2.heap.size]? = some (.cells #[.pointer (some ⟨g, 0, none⟩)] 24 (0, 0))) (h0 : ∀ W, Below W3.heap.size W3 W → IsAt w w.heap.size W1.heap.size (W1.heap.size + 1) (.slice av l.length cv) 0 W) (hlt : W1.heap.size < W3.heap.size) =>
    all1_any 39 #[.pointer (some ⟨W1.heap.size + 1, 0, none⟩), .pointer (some ⟨W1.heap.size, 0, none⟩), .pointer (some ⟨w.heap.size, 0, none⟩)] (enters_of Try.func39 (by kernel_rfl) rfl) (IsAt w w.heap.size W1.heap.size (W1.heap.size + 1) (.slice av l.length cv)) (fun _ => true) W2.heap.size g m l S W3 hgb (hk_below HG.out hb) (HS.out.below hb) HD.out h0
      (is_yields l _ S' w w.heap.size W1.heap.size (W1.heap.size + 1) HD.out HDoc.out (by omega) (by omega) (by omega) W3.heap.size hlt)
  have HCALL := Lib.hid (hcall (W2.alloc (.cells #[.pointer (some ⟨g, 0, none⟩)] 24)) (by ((repeat (first | with_reducible exact HA.out.bel | with_reducible exact Below.refl _ _ | with_reducible refine bl_drew ?_ | with_reducible refine bl_alloc ?_ _ | with_reducible refine bl_set ?_ (by dsimp only; omega) _)); done)) (by ((repeat (first | with_reducible exact new_blk _ _ | with_reducible exact new_blk1 _ _ _ | with_reducible exact new_blk2 _ _ _ _ | with_reducible refine hk_drew ?_ | with_reducible refine hk_alloc ?_ _ | with_reducible refine hk_set ?_ (by dsimp only; omega) _)); done)) (fun W hb => HA.out.below (bl_step (by ((repeat (first | with_reducible exact Below.refl _ _ | with_reducible refine bl_drew ?_ | with_reducible refine bl_alloc ?_ _ | with_reducible refine bl_set ?_ (by dsimp only; omega) _)); done)) hb)) (by simp only [World.size_alloc]; omega))
  clear hA hcall hz
  go_wp2_with (first
    | (go_at_call 23; refine (call_all _ _).mono ?_; rintro e' w' ⟨rfl, rfl⟩)
    | (go_at_call 36; refine HCALL.out.mono ?_; rintro e' w5 ⟨rfl, k, hk1, hk2, hk3, hk4⟩; have HE : Hid (IsAt w w.heap.size W1.heap.size (W1.heap.size + 1) (.slice av l.length cv) l.length w5) := Lib.hid (by rcases hk4 with rfl | ⟨_, h⟩; exact hk2; cases h); have r1 := cell_blk HE.out.ok; have r2 := cell_blk HE.out.num; have r3 := cell_blk HE.out.row; clear hk1 hk2 hk3 hk4))
  go_ret
  exact ⟨by simp, HE.out.bel⟩
end Go.Proofs.Ytbajghjdnjodmaa
