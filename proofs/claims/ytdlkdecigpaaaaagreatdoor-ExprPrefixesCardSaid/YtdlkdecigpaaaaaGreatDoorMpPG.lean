/- ExprPrefixes: the law's walk. -/
import Derived.Test.YtdlkdecigpaaaaaGreatDoorMp39
import Derived.Test.YtdlkdecigpaaaaaGreatDoorMpPF
namespace Go.Proofs.YtdlkdecigpaaaaaGreatDoor
set_option linter.unusedVariables false
set_option linter.unusedSimpArgs false
open Go.RowKit

section
variable (s : ByteArray) (i : Int) (w : World)
theorem pref_tree {r : Res} (h0 : 0 ≤ i) (h1 : i ≤ s.size) (hr : Par s (.lev 0) i r) : XLeafy (trip (prefR i r)).1 ∧ (trip (prefR i r)).1.depth ≤ 40 := by
  cases r with
  | err p c => exact ⟨leafy_zero, by show XT.zero.depth ≤ 40; decide⟩
  | ok T p =>
    have hg : XGood T := par_good hr (by simp [goodG]) h0 h1
    unfold prefR
    simp only
    split
    · exact ⟨leafy_zero, by show XT.zero.depth ≤ 40; decide⟩
    · rename_i h; exact ⟨hg.leafy, by show T.depth ≤ 40; omega⟩
/-- What both Prefixes answer at a place. -/
theorem both_prefix (hv : VarOk w) (hs : s.size ≤ 500) : ∃ r : Res, (∀ W : World, Keeps [] w W → Calls Tryz.prog 35 #[.string s, .int .i64 i] W (Says3 (trip r) W)) ∧ (∀ W : World, Calls Tryz.prog 36 #[.string s, .int .i64 i] W (RSays r W)) ∧ XLeafy (trip r).1 ∧ (trip r).1.depth ≤ 40 := by
  by_cases h : 0 ≤ i ∧ i ≤ s.size
  · obtain ⟨h0, h1⟩ := h
    obtain ⟨r, hr⟩ := par_any s i h0 h1
    exact ⟨prefR i r, fun W k => ePrefix_any s i W r (by omega) h0 h1 (hv.keeps k (by simp)) hr, fun W => rPrefix_any s i W r (by omega) h0 h1 hr, pref_tree s i h0 h1 hr⟩
  · exact ⟨.err 0 8, fun W _ => ePrefix_out s i W (by omega) (by omega), fun W => rPrefix_out s i W (by omega) (by omega), leafy_zero, by show XT.zero.depth ≤ 40; decide⟩
set_option maxRecDepth 20000 in
set_option maxHeartbeats 4000000 in
theorem prefixes_walk (hv : VarOk w) (hs : s.size ≤ 140737488351232) (_hi : (Lit.int .i64 i).wf = true) :
    Calls Tryz.prog 12 #[.string s, .int .i64 i] w fun e w' => e = .returned (.bool true) ∧ Below w.heap.size w w' := by
  have HA := Lib.hid (fun (W : World) (k : Keeps [] w W) => awake8_any W (hv.keeps k (by simp)))
  have HB := Lib.hid (both_prefix s i w hv)
  clear hv _hi
  go_enter Tryz.func12, Tryz.ntmps12
  go_wp2_with fail
  refine (HA.out _ (Keeps.refl _ _)).mono ?_
  rintro e1 w1 ⟨rfl, hk1⟩
  have HK1 : Hid (Keeps [] w w1) := Lib.hid hk1
  clear hk1
  by_cases h5 : s.size ≤ 500
  · obtain ⟨r, hE, hR, hlf, hdp⟩ := HB.out h5
    have HE := Lib.hid hE
    have HR := Lib.hid hR
    have HTR := Lib.hid (fun (T : XT) (p c : Int) (h : RAt r T p c) => trip_at h)
    generalize trip r = q at *
    obtain ⟨T, pl, cd⟩ := q
    have HLF := Lib.hid (And.intro hlf hdp)
    clear hE hR hlf hdp HB
    go_wp2_with fail
    refine (HE.out _ HK1.out).mono ?_
    rintro e2 w2 ⟨vi, vk, va, rfl, hrep, hk2⟩
    dsimp only at hrep
    obtain ⟨x1, y1, x2, y2, x3, y3, rfl, rfl, rfl⟩ := xrep_shape hrep
    have HK2 := Lib.hid (HK1.out.trans hk2)
    have HT2 := Lib.hid hrep
    clear hrep hk2 HE HA
    dsimp only
    go_upto_region 4 with fail
    refine abs_world (F := fun W => Keeps [] w W ∧ W.heap[w2.heap.size]? = some (.cells (T.nine (.slice x1 T.lit.its.length y1) (.slice x2 T.lit.ks.length y2) (.slice x3 T.args.length y3)) 52 (0, 0)) ∧ T.Rep W (w1.heap.size ≤ ·) (.slice x1 T.lit.its.length y1) (.slice x2 T.lit.ks.length y2) (.slice x3 T.args.length y3))
      (by exact ⟨HK2.out.alloc _, new_blk _ _, HT2.out.keep (kc_alloc _)⟩) (fun W3 HW3 => ?_)
    have H3 := Lib.hid HW3
    clear HW3 HK2 HT2 HK1
    go_wp2_with fail
    refine (HR.out _).mono ?_
    rintro e4 w4 hx
    obtain ⟨U, ui, uk, ua, p, c, rfl, hrep, hk4, ha⟩ := rsays_at hx
    have hT := HTR.out U p c ha
    obtain ⟨rfl, rfl, rfl⟩ : U = T ∧ p = pl ∧ c = cd := by
      simp only [Prod.mk.injEq] at hT
      exact ⟨hT.1.symm, hT.2.1.symm, hT.2.2.symm⟩
    obtain ⟨p1, q1, p2, q2, p3, q3, rfl, rfl, rfl⟩ := xrep_shape hrep
    have HK4 := Lib.hid (And.intro (H3.out.1.trans hk4) (And.intro (hk4.same H3.out.2.1) (H3.out.2.2.keep (kc_keeps hk4 fun _ _ => by simp))))
    have HT4 := Lib.hid hrep
    clear hrep hk4 HR H3 hx ha hT HTR
    dsimp only
    go_upto_region 5 with fail
    refine abs_world (F := fun W => Keeps [] w W ∧ W.heap[w2.heap.size]? = some (.cells (U.nine (.slice x1 U.lit.its.length y1) (.slice x2 U.lit.ks.length y2) (.slice x3 U.args.length y3)) 52 (0, 0)) ∧ U.Rep W (w1.heap.size ≤ ·) (.slice x1 U.lit.its.length y1) (.slice x2 U.lit.ks.length y2) (.slice x3 U.args.length y3) ∧
        W.heap[w4.heap.size]? = some (.cells (U.elf (.slice p1 U.lit.its.length q1) (.slice p2 U.lit.ks.length q2) (.slice p3 U.args.length q3) p c) 81 (0, 0)) ∧ U.Rep W (W3.heap.size ≤ ·) (.slice p1 U.lit.its.length q1) (.slice p2 U.lit.ks.length q2) (.slice p3 U.args.length q3))
      (by exact ⟨HK4.out.1.alloc _, hk_alloc HK4.out.2.1 _, HK4.out.2.2.keep (kc_alloc _), new_blk _ _, HT4.out.keep (kc_alloc _)⟩) (fun W5 HW5 => ?_)
    have H5 := Lib.hid HW5
    clear HW5 HK4 HT4
    have HTA := Lib.hid H5.out.2.2.1
    have HTB := Lib.hid H5.out.2.2.2.2
    have gt := cell_blk H5.out.2.1
    have ge := cell_blk H5.out.2.2.2.1
    have hlt1 := hk_lt H5.out.2.1
    have hle1 := hk_lt H5.out.2.2.2.1
    go_region_held3 (fun W' => (∀ o, W'.cell? ⟨w2.heap.size, o, none⟩ = W5.cell? ⟨w2.heap.size, o, none⟩) ∧ (∀ o, W'.cell? ⟨w4.heap.size, o, none⟩ = W5.cell? ⟨w4.heap.size, o, none⟩))
      ((refine two_heldE hlt1 hle1 ?_; (repeat (first | with_reducible exact Keeps.refl _ _ | with_reducible exact (KC1.out) | with_reducible exact (KR1.out) | with_reducible refine Keeps.drew ?_)); done))
      (first
      | (go_at_call 27; refine (xref_any 40 U _ _ _ _ _ HLF.out.2 HLF.out.1 (HTA.out.keep (by (repeat (first | with_reducible exact Kc.refl _ _ | with_reducible exact kc_drew))))).mono ?_; rintro e' wq1 hx; obtain ⟨vi, vk, va, rfl, hrep, hk⟩ := xref_at hx; obtain ⟨n1, m1, n2, m2, n3, m3, rfl, rfl, rfl⟩ := xrep_shape hrep; have KR1 : Hid (Keeps [] W5 wq1) := Lib.hid (Keeps.trans (by (repeat (first | with_reducible exact Keeps.refl _ _ | with_reducible refine Keeps.drew ?_))) hk); have HRR1 := Lib.hid hrep; clear hrep hk hx)
      | (go_at_call 26; refine (rsame_any 40 U U _ _ _ _ _ _ _ _ _ HLF.out.2 HLF.out.1 HLF.out.1 HRR1.out (HTB.out.keep (kc_keeps KR1.out fun _ _ => by simp))).mono ?_; rintro e' wc1 hx; obtain ⟨rfl, hk⟩ := sm_at (c := true) hx ⟨fun _ => rfl, fun _ => rfl⟩; have KC1 : Hid (Keeps [] W5 wc1) := Lib.hid (KR1.out.trans hk); clear hk hx))
    all_goals
      refine ‹∀ (a : Act) (w : World), _ → _› _ _ ?_
      go_wp2_with fail
      go_ret
      exact ⟨rfl, (H5.out.1.trans KC1.out).nil_below⟩
  · go_wp2_with fail
    refine (HA.out _ HK1.out).mono ?_
    rintro e2 w2 ⟨rfl, hk2⟩
    have HK2 := Lib.hid (HK1.out.trans hk2)
    clear hk2
    go_wp2_with fail
    go_ret
    exact ⟨rfl, HK2.out.nil_below⟩
end
end Go.Proofs.YtdlkdecigpaaaaaGreatDoor
