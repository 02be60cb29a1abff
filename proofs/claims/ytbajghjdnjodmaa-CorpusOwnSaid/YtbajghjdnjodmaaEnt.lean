/- Entries: the document's of the program's, of their own, the same. -/
import Derived.Test.YtbajghjdnjodmaaVSame
import Derived.Test.YtbajghjdnjodmaaVCopy
import Derived.Test.YtbajghjdnjodmaaVRef
import Derived.Test.YtbajghjdnjodmaaVReal
namespace Go.Proofs.Ytbajghjdnjodmaa
set_option linter.unusedVariables false
set_option linter.unusedSimpArgs false
open Go.RowKit

theorem kc_nine {w : World} {S : Nat → Prop} {B : Nat} (hB : ¬ S B) (x0 x1 x2 x3 x4 x5 x6 x7 x8 : Value) : Kc S w (((((((((w.setCell ⟨B, 0, none⟩ x0).setCell ⟨B, 1, none⟩ x1).setCell ⟨B, 2, none⟩ x2).setCell ⟨B, 3, none⟩ x3).setCell ⟨B, 4, none⟩ x4).setCell ⟨B, 5, none⟩ x5).setCell ⟨B, 6, none⟩ x6).setCell ⟨B, 7, none⟩ x7).setCell ⟨B, 8, none⟩ x8) :=
  (((((((((kc_set hB _).trans (kc_set hB _)).trans (kc_set hB _)).trans (kc_set hB _)).trans (kc_set hB _)).trans (kc_set hB _)).trans (kc_set hB _)).trans (kc_set hB _)).trans (kc_set hB _))
theorem kc_ten {w : World} {S : Nat → Prop} {B : Nat} (hB : ¬ S B) (x0 x1 x2 x3 x4 x5 x6 x7 x8 x9 : Value) : Kc S w ((((((((((w.setCell ⟨B, 0, none⟩ x0).setCell ⟨B, 1, none⟩ x1).setCell ⟨B, 2, none⟩ x2).setCell ⟨B, 3, none⟩ x3).setCell ⟨B, 4, none⟩ x4).setCell ⟨B, 5, none⟩ x5).setCell ⟨B, 6, none⟩ x6).setCell ⟨B, 7, none⟩ x7).setCell ⟨B, 8, none⟩ x8).setCell ⟨B, 9, none⟩ x9) :=
  ((((((((((kc_set hB _).trans (kc_set hB _)).trans (kc_set hB _)).trans (kc_set hB _)).trans (kc_set hB _)).trans (kc_set hB _)).trans (kc_set hB _)).trans (kc_set hB _)).trans (kc_set hB _)).trans (kc_set hB _))
theorem cells_shape {w : World} {S : Nat → Prop} {e : ET} {vi vk vd : Value} (h : e.Cells w S vi vk vd) : ∃ a1 b1 a2 b2 a3 b3, vi = .slice a1 e.v.its.length b1 ∧ vk = .slice a2 e.v.ks.length b2 ∧ vd = .slice a3 e.dr.length b3 := by
  obtain ⟨a1, b1, a2, b2, h1, h2⟩ := rep_shape h.1
  obtain ⟨a3, b3, h3, _⟩ := h.2.shape
  exact ⟨a1, b1, a2, b2, a3, b3, h1, h2, h3⟩
theorem ET.Cells.mono {w : World} {S S' : Nat → Prop} {e : ET} {vi vk vd : Value} (h : e.Cells w S vi vk vd) (k : ∀ g, S g → S' g) : e.Cells w S' vi vk vd := ⟨h.1.mono k, h.2.mono k⟩
set_option maxRecDepth 20000 in
set_option maxHeartbeats 1000000 in
theorem ref_any (e : ET) (hok : e.ok) (S : Nat → Prop) (vi vk vd : Value) (w : World) (hc : e.Cells w S vi vk vd) :
    Calls Try.prog 22 #[.string e.nm, e.ent vi vk vd] w fun r w' => ∃ vi' vk', r = .returned (e.agg vi' vk' vd) ∧ e.Cells w' (fun _ => True) vi' vk' vd ∧ Below w.heap.size w w' := by
  obtain ⟨a1, b1, a2, b2, a3, b3, rfl, rfl, rfl⟩ := cells_shape hc
  have HC := Lib.hid hc
  have HI := Lib.hid (fun (W : World) (hb : Below w.heap.size w W) => vref_any _ e.v (Nat.le_refl _) hok.1 (fun g => S g ∧ g < w.heap.size) _ _ W (hc.1.lt.keep (kc_below hb)))
  clear hc hok
  go_enter Try.func22, Try.ntmps22
  go_upto_region 1 with fail
  refine abs_world (F := fun W => W.heap[w.heap.size]? = some (.cells #[.int .i64 e.v.k, .bool e.v.b, .int .i64 e.v.n, .string e.v.s, .slice a1 e.v.its.length b1, .slice a2 e.v.ks.length b2, .bool e.has, .string e.st, .slice a3 e.dr.length b3] 33 (0, 0)) ∧ W.heap[w.heap.size + 1]? = some (.cells #[.string ⟨#[]⟩, .int .i64 0, .bool false, .int .i64 0, .string ⟨#[]⟩, .slice none 0 0, .slice none 0 0, .bool false, .string ⟨#[]⟩, .slice none 0 0] 48 (0, 0)) ∧ Below w.heap.size w W ∧ W.heap.size = w.heap.size + 2)
    ⟨by ((repeat (first | with_reducible exact new_blk _ _ | with_reducible exact new_blk1 _ _ _ | with_reducible exact new_blk2 _ _ _ _ | with_reducible refine hk_drew ?_ | with_reducible refine hk_alloc ?_ _ | with_reducible refine hk_set ?_ (by dsimp only; omega) _)); done), by ((repeat (first | with_reducible exact new_blk _ _ | with_reducible exact new_blk1 _ _ _ | with_reducible exact new_blk2 _ _ _ _ | with_reducible refine hk_drew ?_ | with_reducible refine hk_alloc ?_ _ | with_reducible refine hk_set ?_ (by dsimp only; omega) _)); done), by ((repeat (first | with_reducible exact Below.refl _ _ | with_reducible refine bl_drew ?_ | with_reducible refine bl_alloc ?_ _ | with_reducible refine bl_set ?_ (by dsimp only; omega) _)); done), by simp⟩ ?_
  rintro W ⟨p1, p2, pb, pz⟩
  have p3 := cell_blk p1
  have P2 := Lib.hid p2
  have PB := Lib.hid pb
  have PZ := Lib.hid pz
  have HLE : Hid (w.heap.size + 1 ≤ W.heap.size) := Lib.hid (by omega)
  clear p1 p2 pb pz
  go_region_held3 (fun W' => ∀ b o, b < w.heap.size + 1 → W'.cell? ⟨b, o, none⟩ = W.cell? ⟨b, o, none⟩) (((repeat (first | with_reducible exact cb_below HB2.out HLE.out | with_reducible exact cb_drew | with_reducible refine cb_set ?_ (by dsimp only; omega) _)); done))
    (first | (go_at_call 35; refine (HI.out W.drew (bl_drew PB.out)).mono ?_; rintro e' w2 ⟨wi, wk, rfl, hr2, hb2⟩; obtain ⟨u1, t1, u2, t2, rfl, rfl⟩ := rep_shape hr2; have HB2 : Hid (Below W.heap.size W w2) := Lib.hid (bl_step (bl_drew (Below.refl _ _)) hb2); have HR2 := Lib.hid hr2; have R1 := Lib.hid (hk_below (hk_drew P2.out) hb2); have r1 := cell_blk R1.out; have r2 := frozen_blk R1.out; clear hr2 hb2))
  all_goals (refine ‹∀ (a : Act) (w : World), _ → _› _ _ ?_)
  all_goals
    clear p3
    have bw := PB.out.trans (HB2.out.mono PB.out.size)
    have BW := Lib.hid bw
    have hz : W.drew.heap.size = w.heap.size + 2 := PZ.out
    have HV : Hid (e.v.Rep w2 (fun g => g ≠ w.heap.size + 1) _ _) := Lib.hid (HR2.out.mono fun g h => by rcases h with h | h <;> omega)
    have HD : Hid (Sl w2 (fun g => g ≠ w.heap.size + 1) 1 _ _ _) := Lib.hid ((HC.out.2.lt.keep (kc_below bw)).mono fun g h => by omega)
    clear hz
    clear bw
    go_wp2_with fail
    refine bodyPost_ret (v := e.agg (.slice u1 e.v.its.length t1) (.slice u2 e.v.ks.length t2) (.slice a3 e.dr.length b3)) (by simp [results, Try.results22, go_sem, r1]) rfl ⟨_, _, rfl, ?_, ?_⟩
    · exact ⟨(HV.out.keep (kc_ten (fun h => h rfl) _ _ _ _ _ _ _ _ _ _)).mono fun _ _ => trivial, (HD.out.keep (kc_ten (fun h => h rfl) _ _ _ _ _ _ _ _ _ _)).mono fun _ _ => trivial⟩
    · exact (by ((repeat (first | with_reducible exact BW.out | with_reducible exact Below.refl _ _ | with_reducible refine bl_drew ?_ | with_reducible refine bl_alloc ?_ _ | with_reducible refine bl_set ?_ (by dsimp only; omega) _)); done))

set_option maxRecDepth 20000 in
set_option maxHeartbeats 1000000 in
theorem same24_any (e : ET) (hok : e.ok) (S S' : Nat → Prop) (vi vk vd wi wk wd : Value) (w : World) (hc : e.Cells w S vi vk vd) (hc' : e.Cells w S' wi wk wd) :
    Calls Try.prog 21 #[e.agg vi vk vd, e.agg wi wk wd] w fun r w' => r = .returned (.bool true) ∧ Below w.heap.size w w' := by
  obtain ⟨a1, b1, a2, b2, a3, b3, rfl, rfl, rfl⟩ := cells_shape hc
  obtain ⟨c1, d1, c2, d2, c3, d3, rfl, rfl, rfl⟩ := cells_shape hc'
  have HI := Lib.hid (fun (W : World) (hb : Below w.heap.size w W) => vsame_any _ e.v (Nat.le_refl _) hok.1 S S' _ _ _ _ W (hc.1.keep (kc_below hb)) (hc'.1.keep (kc_below hb)))
  have HD := Lib.hid (fun (W : World) (hb : Below w.heap.size w W) => same12_same e.dr _ _ W (hc.2.keep (kc_below hb)) (hc'.2.keep (kc_below hb)) (by have := hok.2; omega))
  have h1 : (e.nm.toList == e.nm.toList) = true := by simp
  have h2 : (e.has == e.has) = true := by simp
  have h3 : (e.st.toList == e.st.toList) = true := by simp
  clear hc hc' hok
  go_enter Try.func21, Try.ntmps21
  go_upto_region 1 with fail
  refine abs_world (F := fun W => TwoAt w 48 #[.string e.nm, .int .i64 e.v.k, .bool e.v.b, .int .i64 e.v.n, .string e.v.s, .slice a1 e.v.its.length b1, .slice a2 e.v.ks.length b2, .bool e.has, .string e.st, .slice a3 e.dr.length b3] #[.string e.nm, .int .i64 e.v.k, .bool e.v.b, .int .i64 e.v.n, .string e.v.s, .slice c1 e.v.its.length d1, .slice c2 e.v.ks.length d2, .bool e.has, .string e.st, .slice c3 e.dr.length d3] W) ⟨by ((repeat (first | with_reducible exact new_blk _ _ | with_reducible exact new_blk1 _ _ _ | with_reducible exact new_blk2 _ _ _ _ | with_reducible refine hk_drew ?_ | with_reducible refine hk_alloc ?_ _ | with_reducible refine hk_set ?_ (by dsimp only; omega) _)); done), by ((repeat (first | with_reducible exact new_blk _ _ | with_reducible exact new_blk1 _ _ _ | with_reducible exact new_blk2 _ _ _ _ | with_reducible refine hk_drew ?_ | with_reducible refine hk_alloc ?_ _ | with_reducible refine hk_set ?_ (by dsimp only; omega) _)); done), by ((repeat (first | with_reducible exact Below.refl _ _ | with_reducible refine bl_drew ?_ | with_reducible refine bl_alloc ?_ _ | with_reducible refine bl_set ?_ (by dsimp only; omega) _)); done)⟩ ?_
  intro W HW
  have x1 := cell_blk HW.one
  have y1 := cell_blk HW.two
  have H := Lib.hid HW
  clear HW
  go_wp2_with (first
    | (go_at_call 33; refine (HI.out _ H.out.bel).mono ?_; rintro e' w2 ⟨rfl, hb2⟩; have H2 := Lib.hid (H.out.below hb2); have x2 := cell_blk H2.out.one; have y2 := cell_blk H2.out.two; clear hb2)
    | (go_at_call 34; refine (HD.out _ H2.out.bel).mono ?_; rintro e' w3 ⟨rfl, hb3⟩; have HB3 := Lib.hid hb3; clear hb3))
  go_ret
  exact ⟨rfl, bl_step H2.out.bel HB3.out⟩
end Go.Proofs.Ytbajghjdnjodmaa
