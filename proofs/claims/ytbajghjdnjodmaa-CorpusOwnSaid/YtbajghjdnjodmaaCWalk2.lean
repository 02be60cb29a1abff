/- The corpus's Get and Drop. -/
import Derived.Test.YtbajghjdnjodmaaCWalk
namespace Go.Proofs.Ytbajghjdnjodmaa
set_option linter.unusedVariables false
set_option linter.unusedSimpArgs false
open Go.RowKit

section
variable (g m : Nat) (l : List ET) (nm : ByteArray) (S : Nat → Prop) (w : World)
set_option maxRecDepth 20000 in
set_option maxHeartbeats 1000000 in
theorem cget_none (hg : w.heap[g]? = some (.cells #[.map (some m)] 69 (0, 0))) (h : Syn w S m l) (hs : nm.size ≤ maxLen) (hf : findF nm l 0 = none) :
    Calls Try.prog 20 #[.pointer (some ⟨g, 0, none⟩), .string nm] w fun r w' => r = .returned (.tuple #[ET.zero.ent (.slice none 0 0) (.slice none 0 0) (.slice none 0 0), .int .i64 12]) ∧ Below w.heap.size w w' := by
  have hb0 := bl_alloc (Below.refl _ w) (.cells #[.int .i64 0, .bool false, .int .i64 0, .string ⟨#[]⟩, .slice none 0 0, .slice none 0 0, .bool false, .string ⟨#[]⟩, .slice none 0 0] 33)
  have hgW := cell_blk (hk_below hg hb0)
  obtain ⟨v, hL, _, _⟩ := syn_look (h.below hb0) hs
  rw [hf] at hL
  clear hg h hf hb0
  go_enter Try.func20, Try.ntmps20
  go_wp2
  refine bodyPost_ret (v := .tuple #[ET.zero.ent (.slice none 0 0) (.slice none 0 0) (.slice none 0 0), .int .i64 12]) (by simp [results, Try.results20, go_sem, ET.zero, VT.zero, VT.k, VT.b, VT.n, VT.s]) rfl ⟨rfl, ?_⟩
  exact (by ((repeat (first | with_reducible exact Below.refl _ _ | with_reducible refine bl_drew ?_ | with_reducible refine bl_alloc ?_ _ | with_reducible refine bl_set ?_ (by dsimp only; omega) _)); done))
set_option maxRecDepth 20000 in
set_option maxHeartbeats 1000000 in
theorem cget_some (e : ET) (he : e ∈ l) (hne : e.nm = nm) (ho : e.ok) (hg : w.heap[g]? = some (.cells #[.map (some m)] 69 (0, 0))) (h : Syn w S m l) (hs : nm.size ≤ maxLen) :
    Calls Try.prog 20 #[.pointer (some ⟨g, 0, none⟩), .string nm] w fun r w' => ∃ vi vk vd, r = .returned (.tuple #[e.ent vi vk vd, .int .i64 0]) ∧ e.Cells w' (w.heap.size ≤ ·) vi vk vd ∧ Below w.heap.size w w' := by
  have hb0 := bl_alloc (Below.refl _ w) (.cells #[.int .i64 0, .bool false, .int .i64 0, .string ⟨#[]⟩, .slice none 0 0, .slice none 0 0, .bool false, .string ⟨#[]⟩, .slice none 0 0] 33)
  have hgW := cell_blk (hk_below hg hb0)
  obtain ⟨v, hL, _, hv⟩ := syn_look (h.below hb0) hs
  obtain ⟨vi, vk, vd, hv1, hc⟩ := hv e he hne
  rw [hv1] at hL
  obtain ⟨a1, b1, a2, b2, a3, b3, rfl, rfl, rfl⟩ := cells_shape hc
  have hf : (findF nm l 0).isSome = true := findF_mem.2 ⟨e, he, hne⟩
  rw [hf] at hL
  have HCP := Lib.hid (fun (W : World) (hb : Below (w.alloc (.cells #[.int .i64 0, .bool false, .int .i64 0, .string ⟨#[]⟩, .slice none 0 0, .slice none 0 0, .bool false, .string ⟨#[]⟩, .slice none 0 0] 33)).heap.size (w.alloc (.cells #[.int .i64 0, .bool false, .int .i64 0, .string ⟨#[]⟩, .slice none 0 0, .slice none 0 0, .bool false, .string ⟨#[]⟩, .slice none 0 0] 33)) W) => copied_any e ho S _ _ _ W (hc.keep (kc_below hb)))
  clear hg h hf hb0 hv hv1 hc
  go_enter Try.func20, Try.ntmps20
  go_upto_region 4 with fail
  refine abs_world (F := fun W => W.heap[w.heap.size]? = some (.cells #[.int .i64 0, .bool false, .int .i64 0, .string ⟨#[]⟩, .slice none 0 0, .slice none 0 0, .bool false, .string ⟨#[]⟩, .slice none 0 0] 33 (0, 0)) ∧ W.heap[w.heap.size + 1]? = some (.cells #[.int .i64 e.v.k, .bool e.v.b, .int .i64 e.v.n, .string e.v.s, .slice a1 e.v.its.length b1, .slice a2 e.v.ks.length b2, .bool e.has, .string e.st, .slice a3 e.dr.length b3] 33 (0, 0)) ∧ Below w.heap.size w W ∧ Below (w.alloc (.cells #[.int .i64 0, .bool false, .int .i64 0, .string ⟨#[]⟩, .slice none 0 0, .slice none 0 0, .bool false, .string ⟨#[]⟩, .slice none 0 0] 33)).heap.size (w.alloc (.cells #[.int .i64 0, .bool false, .int .i64 0, .string ⟨#[]⟩, .slice none 0 0, .slice none 0 0, .bool false, .string ⟨#[]⟩, .slice none 0 0] 33)) W) ⟨by ((repeat (first | with_reducible exact new_blk _ _ | with_reducible exact new_blk1 _ _ _ | with_reducible exact new_blk2 _ _ _ _ | with_reducible refine hk_drew ?_ | with_reducible refine hk_alloc ?_ _ | with_reducible refine hk_set ?_ (by dsimp only; omega) _)); done), by ((repeat (first | with_reducible exact new_blk _ _ | with_reducible exact new_blk1 _ _ _ | with_reducible exact new_blk2 _ _ _ _ | with_reducible refine hk_drew ?_ | with_reducible refine hk_alloc ?_ _ | with_reducible refine hk_set ?_ (by dsimp only; omega) _)); done), by ((repeat (first | with_reducible exact Below.refl _ _ | with_reducible refine bl_drew ?_ | with_reducible refine bl_alloc ?_ _ | with_reducible refine bl_set ?_ (by dsimp only; omega) _)); done), bl_alloc (Below.refl _ _) _⟩ ?_
  rintro W ⟨g1, g2, g3, g4⟩
  have c2 := cell_blk g2
  have G1 := Lib.hid g1
  have G2 := Lib.hid g2
  have G3 := Lib.hid g3
  have HC := Lib.hid (HCP.out W g4)
  clear g1 g2 g3 g4 hgW hL
  go_wp2_with fail
  refine HC.out.mono ?_
  rintro e' w1 ⟨xi, xk, xd, rfl, hc1, hb1⟩
  obtain ⟨u1, t1, u2, t2, u3, t3, rfl, rfl, rfl⟩ := cells_shape hc1
  have r1 := cell_blk (hk_below G1.out hb1)
  have r2 := frozen_blk (hk_below G1.out hb1)
  have HC1 := Lib.hid hc1
  have HB := Lib.hid (bl_step G3.out hb1)
  clear hc1 hb1
  go_wp2_with fail
  refine bodyPost_ret (v := .tuple #[e.ent (.slice u1 e.v.its.length t1) (.slice u2 e.v.ks.length t2) (.slice u3 e.dr.length t3), .int .i64 0]) (by simp [results, Try.results20, go_sem, r1]) rfl ⟨_, _, _, rfl, ?_, ?_⟩
  · have hl := hk_lt G2.out
    have hq := HC1.out.mono (S' := fun x => w.heap.size + 1 ≤ x) (fun x hx => by omega)
    exact ⟨(hq.1.keep (kc_nine (fun h => by omega) _ _ _ _ _ _ _ _ _)).mono fun _ h => by omega, (hq.2.keep (kc_nine (fun h => by omega) _ _ _ _ _ _ _ _ _)).mono fun _ h => by omega⟩
  · exact (by ((repeat (first | with_reducible exact HB.out | with_reducible exact Below.refl _ _ | with_reducible refine bl_drew ?_ | with_reducible refine bl_alloc ?_ _ | with_reducible refine bl_set ?_ (by dsimp only; omega) _)); done))
set_option maxRecDepth 20000 in
set_option maxHeartbeats 1000000 in
theorem cdrop_any (hg : w.heap[g]? = some (.cells #[.map (some m)] 69 (0, 0))) (h : Syn w S m l) (hd : DocOk l) (hs : nm.size ≤ maxLen) :
    Calls Try.prog 15 #[.pointer (some ⟨g, 0, none⟩), .string nm] w fun r w' => r = .returned (.int .i64 (dropC l nm)) ∧ Syn w' S m (dropL l nm) ∧ But m w w' := by
  obtain ⟨v, hL, _, _⟩ := syn_look h hs
  have hgc := cell_blk hg
  have HS := Lib.hid h
  have HV := Lib.hid (fun X : Obj => cell_blk (hk_alloc hg X))
  cases hf : findF nm l 0 with
  | none =>
    have e1 : dropC l nm = 12 := by simp [dropC, hf]
    have E2 : Hid (dropL l nm = l) := Lib.hid (by simp [dropL, hf])
    rw [e1]
    rw [hf] at hL
    clear hg h hf hd
    go_enter Try.func15, Try.ntmps15
    go_wp2
    go_ret
    exact ⟨rfl, by rw [E2.out]; exact HS.out.below (by ((repeat (first | with_reducible exact Below.refl _ _ | with_reducible refine bl_drew ?_ | with_reducible refine bl_alloc ?_ _ | with_reducible refine bl_set ?_ (by dsimp only; omega) _)); done)), but_below (by ((repeat (first | with_reducible exact Below.refl _ _ | with_reducible refine bl_drew ?_ | with_reducible refine bl_alloc ?_ _ | with_reducible refine bl_set ?_ (by dsimp only; omega) _)); done))⟩
  | some k =>
    have e1 : dropC l nm = 0 := by simp [dropC, hf]
    rw [e1]
    rw [hf] at hL
    have hV := HV.out (.cells #[.int .i64 v.k, .bool v.b, .int .i64 v.n, .string v.s, .slice v.a1 v.n1 v.c1, .slice v.a2 v.n2 v.c2, .bool v.has, .string v.st, .slice v.a3 v.n3 v.c3] 33)
    obtain ⟨w2, hU, hsy, hgr⟩ := syn_drop (h.below (bl_alloc (Below.refl _ w) (.cells #[.int .i64 v.k, .bool v.b, .int .i64 v.n, .string v.s, .slice v.a1 v.n1 v.c1, .slice v.a2 v.n2 v.c2, .bool v.has, .string v.st, .slice v.a3 v.n3 v.c3] 33))) hd hs 0
    have HY := Lib.hid hsy
    have HGR := Lib.hid hgr
    clear hg h hf hd hsy hgr
    go_enter Try.func15, Try.ntmps15
    go_wp2
    go_ret
    exact ⟨rfl, HY.out, (but_below (by ((repeat (first | with_reducible exact Below.refl _ _ | with_reducible refine bl_drew ?_ | with_reducible refine bl_alloc ?_ _ | with_reducible refine bl_set ?_ (by dsimp only; omega) _)); done))).trans (but_grown HGR.out)⟩
end
end Go.Proofs.Ytbajghjdnjodmaa
