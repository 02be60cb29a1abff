/- ExprParses: the law's walk. -/
import Derived.Test.YtdlkdecigpaaaaaGreatDoorMp35
import Derived.Test.YtdlkdecigpaaaaaGreatDoorMp34
import Derived.Test.YtdlkdecigpaaaaaGreatDoorMp38
namespace Go.Proofs.YtdlkdecigpaaaaaGreatDoor
set_option linter.unusedVariables false
set_option linter.unusedSimpArgs false
open Go.RowKit

theorem par_any (s : ByteArray) (i : Int) (h0 : 0 ≤ i) (h1 : i ≤ s.size) : ∃ r, Par s (.lev 0) i r := par_all s _ (.lev 0) i (Nat.le_refl _) h0 h1 (by simp [goodG])
theorem two_heldE {g y : Nat} {W W' : World} (h1 : g < W.heap.size) (h2 : y < W.heap.size) (h : Keeps [] W W') : (∀ o, W'.cell? ⟨g, o, none⟩ = W.cell? ⟨g, o, none⟩) ∧ (∀ o, W'.cell? ⟨y, o, none⟩ = W.cell? ⟨y, o, none⟩) := ⟨one_held h1 h, one_held h2 h⟩
/-- What is known of a tree that was told. -/
theorem told_tree {s : ByteArray} {r : Res} (hr : Par s (.lev 0) 0 r) : XLeafy (parseR s r).1 ∧ (parseR s r).1.depth ≤ 40 := by
  cases r with
  | err p c => exact ⟨leafy_zero, by show XT.zero.depth ≤ 40; decide⟩
  | ok T p =>
    have hg : XGood T := par_good hr (by simp [goodG]) (Int.le_refl _) (by omega)
    unfold parseR
    simp only
    split
    · exact ⟨leafy_zero, by show XT.zero.depth ≤ 40; decide⟩
    · split
      · exact ⟨leafy_zero, by show XT.zero.depth ≤ 40; decide⟩
      · rename_i h; exact ⟨hg.leafy, by show T.depth ≤ 40; omega⟩
theorem told_good {s : ByteArray} {r : Res} (hr : Par s (.lev 0) 0 r) (hc : (parseR s r).2.2 = 0) : XGood (parseR s r).1 ∧ (parseR s r).1.depth ≤ 32 := by
  cases r with
  | err p c => exact absurd (show c = 0 from hc) (par_code hr)
  | ok T p =>
    simp only [parseR] at hc ⊢
    by_cases h1 : blanks s p < s.size
    · rw [if_pos h1] at hc; exact absurd (show (1 : Int) = 0 from hc) (by decide)
    · rw [if_neg h1] at hc ⊢
      by_cases h2 : 32 < T.depth
      · rw [if_pos h2] at hc; exact absurd (show (6 : Int) = 0 from hc) (by decide)
      · rw [if_neg h2]
        exact ⟨par_good hr (by simp [goodG]) (Int.le_refl _) (by omega), by show T.depth ≤ 32; omega⟩
section
variable (s : ByteArray) (w : World)
/-- What both parsers answer at a text. -/
theorem both_parse (hv : VarOk w) (hs : s.size ≤ 140737488351232) : ∃ q : XT × Int × Int, (∀ W : World, Keeps [] w W → Calls Tryz.prog 25 #[.string s] W (Says3 q W)) ∧ (∀ W : World, Calls Tryz.prog 15 #[.string s] W (Says3 q W)) ∧ XLeafy q.1 ∧ q.1.depth ≤ 40 := by
  by_cases h : s.size ≤ 2048
  · obtain ⟨r, hr⟩ := par_any s 0 (Int.le_refl _) (by omega)
    exact ⟨parseR s r, fun W k => eParse_any s W r h (hv.keeps k (by simp)) hr, fun W => rParse_any s W r h hr, told_tree hr⟩
  · exact ⟨(XT.zero, 0, 7), fun W _ => eParse_long s W (by omega) hs, fun W => rParse_long s W (by omega) hs, leafy_zero, by decide⟩
set_option maxRecDepth 20000 in
set_option maxHeartbeats 4000000 in
theorem parses_walk (hv : VarOk w) (hs : s.size ≤ 140737488351232) :
    Calls Tryz.prog 6 #[.string s] w fun e w' => e = .returned (.bool true) ∧ Below w.heap.size w w' := by
  have HA := Lib.hid (fun (W : World) (k : Keeps [] w W) => awake8_any W (hv.keeps k (by simp)))
  obtain ⟨⟨T, pl, cd⟩, hE, hR, hlf, hdp⟩ := both_parse s w hv hs
  have HE := Lib.hid hE
  have HR := Lib.hid hR
  have HLF := Lib.hid (And.intro hlf hdp)
  clear hE hR hlf hdp hv
  go_enter Tryz.func6, Tryz.ntmps6
  go_wp2_with fail
  refine (HA.out _ (Keeps.refl _ _)).mono ?_
  rintro e1 w1 ⟨rfl, hk1⟩
  have HK1 : Hid (Keeps [] w w1) := Lib.hid hk1
  clear hk1
  by_cases h25 : s.size ≤ 2500
  · go_wp2_with fail
    refine (HE.out _ HK1.out).mono ?_
    rintro e2 w2 ⟨vi, vk, va, rfl, hrep, hk2⟩
    dsimp only at hrep
    obtain ⟨x1, y1, x2, y2, x3, y3, rfl, rfl, rfl⟩ := xrep_shape hrep
    have HK2 := Lib.hid (HK1.out.trans hk2)
    have HT2 := Lib.hid hrep
    clear hrep hk2 HE HA
    dsimp only
    go_upto_region 4 with fail
    refine abs_world (F := fun W => Keeps [] w W ∧ W.heap[w2.heap.size]? = some (.cells (T.nine (.slice x1 T.lit.its.length y1) (.slice x2 T.lit.ks.length y2) (.slice x3 T.args.length y3)) 52 (0, 0)) ∧ T.Rep W (w1.heap.size ≤ ·) (.slice x1 T.lit.its.length y1) (.slice x2 T.lit.ks.length y2) (.slice x3 T.args.length y3))
      (by exact ⟨HK2.out.alloc _, new_blk _ _, HT2.out.keep (kc_alloc _)⟩) (fun W3 HW3 => ?_)
    have H3 := Lib.hid HW3
    clear HW3 HK2 HT2 HK1
    go_wp2_with fail
    refine (HR.out _).mono ?_
    rintro e4 w4 ⟨ui, uk, ua, rfl, hrep, hk4⟩
    dsimp only at hrep
    obtain ⟨p1, q1, p2, q2, p3, q3, rfl, rfl, rfl⟩ := xrep_shape hrep
    have HK4 := Lib.hid (And.intro (H3.out.1.trans hk4) (And.intro (hk4.same H3.out.2.1) (H3.out.2.2.keep (kc_keeps hk4 fun _ _ => by simp))))
    have HT4 := Lib.hid hrep
    clear hrep hk4 HR H3
    dsimp only
    go_upto_region 5 with fail
    refine abs_world (F := fun W => Keeps [] w W ∧ W.heap[w2.heap.size]? = some (.cells (T.nine (.slice x1 T.lit.its.length y1) (.slice x2 T.lit.ks.length y2) (.slice x3 T.args.length y3)) 52 (0, 0)) ∧ T.Rep W (w1.heap.size ≤ ·) (.slice x1 T.lit.its.length y1) (.slice x2 T.lit.ks.length y2) (.slice x3 T.args.length y3) ∧
        W.heap[w4.heap.size]? = some (.cells (T.nine (.slice p1 T.lit.its.length q1) (.slice p2 T.lit.ks.length q2) (.slice p3 T.args.length q3)) 30 (0, 0)) ∧ T.Rep W (W3.heap.size ≤ ·) (.slice p1 T.lit.its.length q1) (.slice p2 T.lit.ks.length q2) (.slice p3 T.args.length q3))
      (by exact ⟨HK4.out.1.alloc _, hk_alloc HK4.out.2.1 _, HK4.out.2.2.keep (kc_alloc _), new_blk _ _, HT4.out.keep (kc_alloc _)⟩) (fun W5 HW5 => ?_)
    have H5 := Lib.hid HW5
    clear HW5 HK4 HT4
    have HTA := Lib.hid H5.out.2.2.1
    have HTB := Lib.hid H5.out.2.2.2.2
    have gt := cell_blk H5.out.2.1
    have ge := cell_blk H5.out.2.2.2.1
    have hlt1 := hk_lt H5.out.2.1
    have hle1 := hk_lt H5.out.2.2.2.1
    go_region_held3 (fun W' => (∀ o, W'.cell? ⟨w2.heap.size, o, none⟩ = W5.cell? ⟨w2.heap.size, o, none⟩) ∧ (∀ o, W'.cell? ⟨w4.heap.size, o, none⟩ = W5.cell? ⟨w4.heap.size, o, none⟩))
      ((refine two_heldE hlt1 hle1 ?_; (repeat (first | with_reducible exact Keeps.refl _ _ | with_reducible exact (KC1.out) | with_reducible exact (KR1.out) | with_reducible refine Keeps.drew ?_)); done))
      (first
      | (go_at_call 27; refine (xref_any 40 T _ _ _ _ _ HLF.out.2 HLF.out.1 (HTA.out.keep (by (repeat (first | with_reducible exact Kc.refl _ _ | with_reducible exact kc_drew))))).mono ?_; rintro e' wq1 hx; obtain ⟨vi, vk, va, rfl, hrep, hk⟩ := xref_at hx; obtain ⟨n1, m1, n2, m2, n3, m3, rfl, rfl, rfl⟩ := xrep_shape hrep; have KR1 : Hid (Keeps [] W5 wq1) := Lib.hid (Keeps.trans (by (repeat (first | with_reducible exact Keeps.refl _ _ | with_reducible refine Keeps.drew ?_))) hk); have HRR1 := Lib.hid hrep; clear hrep hk hx)
      | (go_at_call 26; refine (rsame_any 40 T T _ _ _ _ _ _ _ _ _ HLF.out.2 HLF.out.1 HLF.out.1 HRR1.out (HTB.out.keep (kc_keeps KR1.out fun _ _ => by simp))).mono ?_; rintro e' wc1 hx; obtain ⟨rfl, hk⟩ := sm_at (c := true) hx ⟨fun _ => rfl, fun _ => rfl⟩; have KC1 : Hid (Keeps [] W5 wc1) := Lib.hid (KR1.out.trans hk); clear hk hx))
    all_goals
      refine ‹∀ (a : Act) (w : World), _ → _› _ _ ?_
      go_wp2_with fail
      go_ret
      exact ⟨rfl, (H5.out.1.trans KC1.out).nil_below⟩
  · go_wp2_with fail
    refine (HA.out _ HK1.out).mono ?_
    rintro e2 w2 ⟨rfl, hk2⟩
    have HK2 := Lib.hid (HK1.out.trans hk2)
    clear hk2
    go_wp2_with fail
    go_ret
    exact ⟨rfl, HK2.out.nil_below⟩
end
end Go.Proofs.YtdlkdecigpaaaaaGreatDoor
