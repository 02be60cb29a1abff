/- Both Prefixes: the tree of what begins at a place. -/
import Derived.Test.YtdlkdecigpaaaaaGreatDoorMp34
namespace Go.Proofs.YtdlkdecigpaaaaaGreatDoor
set_option linter.unusedVariables false
set_option linter.unusedSimpArgs false
open Go.RowKit

/-- What Prefix answers at a place. -/
def prefR (i : Int) : Res → Res
  | .err p c => .err p c
  | .ok T p => if 32 < T.depth then .err i 6 else .ok T p
def trip : Res → XT × Int × Int
  | .err p c => (XT.zero, p, c)
  | .ok T p => (T, p, 0)
theorem trip_at {r : Res} {T : XT} {p c : Int} (h : RAt r T p c) : trip r = (T, p, c) := by
  cases r with
  | err p' c' => obtain ⟨rfl, rfl, rfl⟩ : T = XT.zero ∧ p = p' ∧ c = c' := h; rfl
  | ok U p' => obtain ⟨rfl, rfl, rfl⟩ : T = U ∧ p = p' ∧ c = 0 := h; rfl
section
variable (s : ByteArray) (i : Int) (w : World) (r : Res)
set_option maxRecDepth 20000 in
set_option maxHeartbeats 1000000 in
theorem ePrefix_out (hi : i < 0 ∨ (s.size : Int) < i) (hs2 : s.size ≤ 140737488351232) : Calls Tryz.prog 35 #[.string s, .int .i64 i] w (Says3 (trip (.err 0 8)) w) := by
  rcases hi with hi | hi
  · go_enter Tryz.func35, Tryz.ntmps35
    go_wp2_with fail
    exact bodyPost_ret (v := .tuple #[XT.zero.agg (.slice none 0 0) (.slice none 0 0) (.slice none 0 0), .int .i64 0, .int .i64 8]) (by simp [results, Tryz.results35, go_sem]; exact ⟨rfl, rfl, rfl, rfl, rfl, rfl⟩) rfl ⟨_, _, _, rfl, XT.zero_rep _ _, (Keeps.refl _ _).alloc _⟩
  · have h0 : ¬ i < 0 := by omega
    go_enter Tryz.func35, Tryz.ntmps35
    go_wp2_with fail
    exact bodyPost_ret (v := .tuple #[XT.zero.agg (.slice none 0 0) (.slice none 0 0) (.slice none 0 0), .int .i64 0, .int .i64 8]) (by simp [results, Tryz.results35, go_sem]; exact ⟨rfl, rfl, rfl, rfl, rfl, rfl⟩) rfl ⟨_, _, _, rfl, XT.zero_rep _ _, (Keeps.refl _ _).alloc _⟩
set_option maxRecDepth 20000 in
set_option maxHeartbeats 2000000 in
theorem ePrefix_any (hs : s.size ≤ 2048) (h0 : 0 ≤ i) (h1 : i ≤ s.size) (hv : VarOk w) (hr : Par s (.lev 0) i r) : Calls Tryz.prog 35 #[.string s, .int .i64 i] w (Says3 (trip (prefR i r)) w) := by
  have hvl := varOk_lt hv
  have HW0 : Hid (Keeps [] w ((w.alloc (.cells zero9 52)).alloc (.cells #[.string s, .int .i64 i, .int .i64 0, .int .i64 0] 97)) ∧ PAt s i 0 0 (w.heap.size + 1) ((w.alloc (.cells zero9 52)).alloc (.cells #[.string s, .int .i64 i, .int .i64 0, .int .i64 0] 97)) ∧
      ((w.alloc (.cells zero9 52)).alloc (.cells #[.string s, .int .i64 i, .int .i64 0, .int .i64 0] 97)).heap[w.heap.size]? = some (.cells zero9 52 (0, 0))) := Lib.hid ⟨((Keeps.refl _ _).alloc _).alloc _, new_blk1 _ _ _, hk_alloc (new_blk _ _) _⟩
  have HP := Lib.hid (eparse_all s 0 (w.heap.size + 1) (by omega) (by omega) _ (.lev 0) i r _ (Nat.le_refl _) h0 h1 hr HW0.out.2.1 (hv.keeps HW0.out.1 (by simp)) _ rfl)
  have HR := Lib.hid hr
  have hn0 : ¬ i < 0 := by omega
  have hn1 : ¬ (s.size : Int) < i := by omega
  clear hv hr hvl
  go_enter Tryz.func35, Tryz.ntmps35
  go_wp2_with fail
  refine HP.out.mono ?_
  rintro e1 w2 hx
  obtain ⟨T, vi, vk, va, rfl, hrep, hk1, hm1⟩ := psays_at hx
  obtain ⟨a1, c1, a2, c2, a3, c3, rfl, rfl, rfl⟩ := xrep_shape hrep
  cases r with
  | err p c =>
    have hc : c ≠ 0 := par_code HR.out
    obtain ⟨a, ha0, ha1, hpa⟩ : ∃ a : Int, 0 ≤ a ∧ a ≤ s.size ∧ PAt s a p c (w.heap.size + 1) w2 := hm1
    have HX := Lib.hid (px_new (b := w.heap.size + 1) HW0.out.1 HW0.out.2.2 (Nat.lt_succ_self _) (by simp) hrep hk1 hpa)
    clear hx hrep hk1 hpa HP
    go_upto_region 5 with fail
    refine abs_world (F := fun W => PX s a p c (w.heap.size + 1) w2.heap.size T (.slice a1 T.lit.its.length c1) (.slice a2 T.lit.ks.length c2) (.slice a3 T.args.length c3) w W) HX.out (fun W3 HW3 => ?_)
    have H3 := Lib.hid HW3
    clear HW3 HX
    have gp := cell_blk H3.out.pat
    have gb := cell_blk H3.out.box
    have gbf := frozen_blk H3.out.box
    have hl1 := hk_lt H3.out.box
    have hl2 := hk_lt H3.out.pat
    have e1 : (c != 0) = true := by simpa using hc
    have HZD := Lib.hid H3.out.zerD
    clear hc
    go_upto_region 6 with fail
    go_region_law (fail)
    all_goals
      refine ‹∀ (a : Act) (w : World), _ → _› _ _ ?_
      go_wp2_with fail
      simp only [Act.put, List.getElem_toArray, List.getElem_cons_succ, List.getElem_cons_zero, List.setIfInBounds_toArray, List.set_cons_zero, List.set_cons_succ]
      refine abs_post (F := ZerD w) HZD.out (fun W hW => ?_)
      have cr := cell_blk hW.1
      exact bodyPost_ret (v := .tuple #[XT.zero.agg (.slice none 0 0) (.slice none 0 0) (.slice none 0 0), .int .i64 p, .int .i64 c]) (by simp [results, Tryz.results35, go_sem, cr]; exact ⟨rfl, rfl, rfl, rfl, rfl, rfl⟩) rfl ⟨_, _, _, rfl, XT.zero_rep _ _, hW.2⟩
  | ok U p =>
    obtain ⟨hT, hpa⟩ : T = U ∧ PAt s p 0 0 (w.heap.size + 1) w2 := hm1
    subst hT
    have hp := par_pos HR.out h0 h1
    have hp1 : 0 ≤ p := by have := hp.1.1; omega
    have hp2 : p ≤ s.size := hp.1.2
    have HX := Lib.hid (px_new (b := w.heap.size + 1) HW0.out.1 HW0.out.2.2 (Nat.lt_succ_self _) (by simp) hrep hk1 hpa)
    have HGD : Hid (XGood T) := Lib.hid (par_good HR.out (by simp [goodG]) h0 h1)
    have hdp : (T.depth : Int) ≤ p - i := par_deep HR.out h0 h1
    clear hx hrep hk1 hpa HP hp
    go_upto_region 5 with fail
    refine abs_world (F := fun W => PX s p 0 0 (w.heap.size + 1) w2.heap.size T (.slice a1 T.lit.its.length c1) (.slice a2 T.lit.ks.length c2) (.slice a3 T.args.length c3) w W) HX.out (fun W3 HW3 => ?_)
    have H3 := Lib.hid HW3
    clear HW3 HX
    have gp := cell_blk H3.out.pat
    have gx := cell_blk H3.out.blk
    have gb := cell_blk H3.out.box
    have gbf := frozen_blk H3.out.box
    have hl1 := hk_lt H3.out.box
    have hl2 := hk_lt H3.out.pat
    have HDE := Lib.hid (fun (W : World) (k : Keeps [] W3 W) => edepth_any 1000000 T _ _ _ _ W (by omega) (Nat.le_refl _) HGD.out (H3.out.go k).rep)
    by_cases h32 : 32 < T.depth
    · have HRE : Hid (trip (prefR i (.ok T p)) = (XT.zero, i, 6)) := Lib.hid (by simp only [prefR]; rw [if_pos h32]; rfl)
      generalize trip (prefR i (.ok T p)) = pr at *
      go_wp2_with (go_at_call 32; refine (HDE.out _ (Keeps.refl _ _)).mono ?_; rintro e' w4 ⟨rfl, hk4⟩; have H4 := Lib.hid (H3.out.go hk4); clear hk4; have gb4 := cell_blk H4.out.box; have gbf4 := frozen_blk H4.out.box)
      have HZ := Lib.hid H4.out.zer
      refine abs_post (F := fun W => W.heap[w.heap.size]? = some (.cells zero9 52 (0, 0)) ∧ Keeps [] w W) HZ.out (fun W hW => ?_)
      have cr := cell_blk hW.1
      exact bodyPost_ret (v := .tuple #[XT.zero.agg (.slice none 0 0) (.slice none 0 0) (.slice none 0 0), .int .i64 i, .int .i64 6]) (by simp [results, Tryz.results35, go_sem, cr]; exact ⟨rfl, rfl, rfl, rfl, rfl, rfl⟩) rfl (by rw [HRE.out]; exact ⟨_, _, _, rfl, XT.zero_rep _ _, hW.2⟩)
    · have HRE : Hid (trip (prefR i (.ok T p)) = (T, p, 0)) := Lib.hid (by simp only [prefR]; rw [if_neg h32]; rfl)
      generalize trip (prefR i (.ok T p)) = pr at *
      go_upto_region 9 with (go_at_call 32; refine (HDE.out _ (Keeps.refl _ _)).mono ?_; rintro e' w4 ⟨rfl, hk4⟩; have H4 := Lib.hid (H3.out.go hk4); clear hk4; have gb4 := cell_blk H4.out.box; have gbf4 := frozen_blk H4.out.box; have gx4 := cell_blk H4.out.blk; have gp4 := cell_blk H4.out.pat; have hl4 := hk_lt H4.out.box)
      have HZ := Lib.hid (H4.out.retD (Nat.lt_succ_self _))
      go_region_law (fail)
      all_goals
        refine ‹∀ (a : Act) (w : World), _ → _› _ _ ?_
        go_wp2_with fail
        simp only [Act.put, List.getElem_toArray, List.getElem_cons_succ, List.getElem_cons_zero, List.setIfInBounds_toArray, List.set_cons_zero, List.set_cons_succ]
        refine abs_post (F := RetD T (.slice a1 T.lit.its.length c1) (.slice a2 T.lit.ks.length c2) (.slice a3 T.args.length c3) w) HZ.out (fun W hW => ?_)
        have cr := cell_blk hW.1
        exact bodyPost_ret (v := .tuple #[T.agg (.slice a1 T.lit.its.length c1) (.slice a2 T.lit.ks.length c2) (.slice a3 T.args.length c3), .int .i64 p, .int .i64 0]) (by simp [results, Tryz.results35, go_sem, cr]) rfl (by rw [HRE.out]; exact ⟨_, _, _, rfl, hW.2.1, hW.2.2⟩)
set_option maxRecDepth 20000 in
set_option maxHeartbeats 1000000 in
theorem rPrefix_out (hi : i < 0 ∨ (s.size : Int) < i) (hs2 : s.size ≤ 140737488351232) : Calls Tryz.prog 36 #[.string s, .int .i64 i] w (RSays (.err 0 8) w) := by
  have HW := Lib.hid (fun (W : World) => rwrong_any 0 8 W)
  have HB := Lib.hid (boxr_new w)
  have gf := frozen_blk HB.out.box
  have gl := hk_lt HB.out.box
  rcases hi with hi | hi
  · go_enter Tryz.func36, Tryz.ntmps36
    go_wp2_with (go_at_call 60; refine (HW.out _).mono ?_; rintro e1 w2 hx; obtain ⟨T, vi, vk, va, p, c, rfl, hrep, hk1, ha⟩ := rsays_at hx; obtain ⟨a1, c1, a2, c2, a3, c3, rfl, rfl, rfl⟩ := xrep_shape hrep; have HX := Lib.hid (HB.out.told hrep hk1 ha); have gb2 := cell_blk (HB.out.go hk1).box; have gf2 := frozen_blk (HB.out.go hk1).box; have gl2 := hk_lt (HB.out.go hk1).box)
    refine abs_post (F := fun W => ToldR (.err 0 8) w.heap.size (T) (.slice a1 T.lit.its.length c1) (.slice a2 T.lit.ks.length c2) (.slice a3 T.args.length c3) (p) (c) w W) (HX.out) (fun W hW => ?_)
    have cr := cell_blk hW.blk
    exact bodyPost_ret (v := .agg ((T : XT).elf (.slice a1 T.lit.its.length c1) (.slice a2 T.lit.ks.length c2) (.slice a3 T.args.length c3) (p) (c))) (by simp [results, Tryz.results36, go_sem, cr]) rfl (at_rsays rfl hW)
  · have h0 : ¬ i < 0 := by omega
    go_enter Tryz.func36, Tryz.ntmps36
    go_wp2_with (go_at_call 60; refine (HW.out _).mono ?_; rintro e1 w2 hx; obtain ⟨T, vi, vk, va, p, c, rfl, hrep, hk1, ha⟩ := rsays_at hx; obtain ⟨a1, c1, a2, c2, a3, c3, rfl, rfl, rfl⟩ := xrep_shape hrep; have HX := Lib.hid (HB.out.told hrep hk1 ha); have gb2 := cell_blk (HB.out.go hk1).box; have gf2 := frozen_blk (HB.out.go hk1).box; have gl2 := hk_lt (HB.out.go hk1).box)
    refine abs_post (F := fun W => ToldR (.err 0 8) w.heap.size (T) (.slice a1 T.lit.its.length c1) (.slice a2 T.lit.ks.length c2) (.slice a3 T.args.length c3) (p) (c) w W) (HX.out) (fun W hW => ?_)
    have cr := cell_blk hW.blk
    exact bodyPost_ret (v := .agg ((T : XT).elf (.slice a1 T.lit.its.length c1) (.slice a2 T.lit.ks.length c2) (.slice a3 T.args.length c3) (p) (c))) (by simp [results, Tryz.results36, go_sem, cr]) rfl (at_rsays rfl hW)
set_option maxRecDepth 20000 in
set_option maxHeartbeats 2000000 in
theorem rPrefix_any (hs : s.size ≤ 2048) (h0 : 0 ≤ i) (h1 : i ≤ s.size) (hr : Par s (.lev 0) i r) : Calls Tryz.prog 36 #[.string s, .int .i64 i] w (RSays (prefR i r) w) := by
  have HP : Hid (∀ W, Calls Tryz.prog 40 #[.string s, .int .i64 i, .int .i64 0] W (RSays r W)) := Lib.hid (fun W => rparse_all s (by omega) _ (.lev 0) i r W (Nat.le_refl _) (by simp [goodG]) h0 h1 hr)
  have HR := Lib.hid hr
  have HW := Lib.hid (fun (W : World) => rwrong_any i 6 W)
  have HB := Lib.hid (boxr_new w)
  have hn0 : ¬ i < 0 := by omega
  have hn1 : ¬ (s.size : Int) < i := by omega
  clear hr
  go_enter Tryz.func36, Tryz.ntmps36
  go_wp2_with fail
  refine (HP.out _).mono ?_
  rintro e1 w2 hx
  obtain ⟨T, vi, vk, va, p, c, rfl, hrep, hk1, ha⟩ := rsays_at hx
  obtain ⟨a1, c1, a2, c2, a3, c3, rfl, rfl, rfl⟩ := xrep_shape hrep
  have HX : Hid (Keeps [] (w.alloc (.cells zero11 81)) (w2.alloc (.cells (T.elf (.slice a1 T.lit.its.length c1) (.slice a2 T.lit.ks.length c2) (.slice a3 T.args.length c3) p c) 81)) ∧ (w2.alloc (.cells (T.elf (.slice a1 T.lit.its.length c1) (.slice a2 T.lit.ks.length c2) (.slice a3 T.args.length c3) p c) 81)).heap[w2.heap.size]? = some (.cells (T.elf (.slice a1 T.lit.its.length c1) (.slice a2 T.lit.ks.length c2) (.slice a3 T.args.length c3) p c) 81 (0, 0)) ∧
      T.Rep (w2.alloc (.cells (T.elf (.slice a1 T.lit.its.length c1) (.slice a2 T.lit.ks.length c2) (.slice a3 T.args.length c3) p c) 81)) ((w.alloc (.cells zero11 81)).heap.size ≤ ·) (.slice a1 T.lit.its.length c1) (.slice a2 T.lit.ks.length c2) (.slice a3 T.args.length c3)) := Lib.hid ⟨hk1.alloc _, new_blk _ _, hrep.keep (kc_alloc _)⟩
  have HAT := Lib.hid ha
  clear hx hrep hk1 ha HP
  go_upto_region 4 with fail
  refine abs_world (F := fun W => Keeps [] (w.alloc (.cells zero11 81)) W ∧ W.heap[w2.heap.size]? = some (.cells (T.elf (.slice a1 T.lit.its.length c1) (.slice a2 T.lit.ks.length c2) (.slice a3 T.args.length c3) p c) 81 (0, 0)) ∧ T.Rep W ((w.alloc (.cells zero11 81)).heap.size ≤ ·) (.slice a1 T.lit.its.length c1) (.slice a2 T.lit.ks.length c2) (.slice a3 T.args.length c3)) HX.out (fun W3 HW3 => ?_)
  have H3 := Lib.hid HW3
  clear HW3 HX
  have HB3 := Lib.hid (HB.out.go H3.out.1)
  have gx := cell_blk H3.out.2.1
  have gb := cell_blk HB3.out.box
  have gbf := frozen_blk HB3.out.box
  have hl1 := hk_lt HB3.out.box
  have hl2 := hk_lt H3.out.2.1
  cases r with
  | err p' c' =>
    have hat : T = XT.zero ∧ p = p' ∧ c = c' := HAT.out
    obtain ⟨hT, rfl, rfl⟩ := hat
    have hc : c ≠ 0 := par_code HR.out
    have e1 : (c == 0) = false := by rw [beq_eq_false_iff_ne]; exact hc
    have HF := Lib.hid (HB.out.told H3.out.2.2 H3.out.1 HAT.out)
    clear hc hT
    go_wp2_with fail
    refine abs_post (F := fun W => ToldR (prefR i (.err p c)) w.heap.size (T) (.slice a1 T.lit.its.length c1) (.slice a2 T.lit.ks.length c2) (.slice a3 T.args.length c3) (p) (c) w W) (HF.out) (fun W hW => ?_)
    have cr := cell_blk hW.blk
    exact bodyPost_ret (v := .agg ((T : XT).elf (.slice a1 T.lit.its.length c1) (.slice a2 T.lit.ks.length c2) (.slice a3 T.args.length c3) (p) (c))) (by simp [results, Tryz.results36, go_sem, cr]) rfl (at_rsays rfl hW)
  | ok U p' =>
    have hat : T = U ∧ p = p' ∧ c = 0 := HAT.out
    obtain ⟨rfl, rfl, rfl⟩ := hat
    have HGD : Hid (XGood T) := Lib.hid (par_good HR.out (by simp [goodG]) h0 h1)
    have hp := par_pos HR.out h0 h1
    have hdp : (T.depth : Int) ≤ p - i := par_deep HR.out h0 h1
    have hp2 : p ≤ s.size := hp.1.2
    have HDE := Lib.hid (rdepth_any 1000000 T _ _ _ _ W3 (by omega) (Nat.le_refl _) HGD.out H3.out.2.2)
    clear hp
    by_cases h32 : 32 < T.depth
    · have HRE : Hid (prefR i (.ok T p) = .err i 6) := Lib.hid (by simp only [prefR]; rw [if_pos h32])
      go_wp2_with (first
        | (go_at_call 31; refine HDE.out.mono ?_; rintro e' w4 ⟨rfl, hk4⟩; have HB4 := Lib.hid (HB3.out.go hk4); clear hk4)
        | (go_at_call 60; refine (HW.out _).mono ?_; rintro e1 w5 hx; obtain ⟨U, ui, uk, ua, p5, c5, rfl, hrep, hk5, ha⟩ := rsays_at hx; obtain ⟨b1, d1, b2, d2, b3, d3, rfl, rfl, rfl⟩ := xrep_shape hrep; have HX := Lib.hid (HB4.out.told hrep hk5 ha); have gb5 := cell_blk (HB4.out.go hk5).box; have gf5 := frozen_blk (HB4.out.go hk5).box; have gl5 := hk_lt (HB4.out.go hk5).box))
      refine abs_post (F := fun W => ToldR (prefR i (.ok T p)) w.heap.size (U) (.slice b1 U.lit.its.length d1) (.slice b2 U.lit.ks.length d2) (.slice b3 U.args.length d3) (p5) (c5) w W) (by rw [HRE.out]; exact HX.out) (fun W hW => ?_)
      have cr := cell_blk hW.blk
      exact bodyPost_ret (v := .agg ((U : XT).elf (.slice b1 U.lit.its.length d1) (.slice b2 U.lit.ks.length d2) (.slice b3 U.args.length d3) (p5) (c5))) (by simp [results, Tryz.results36, go_sem, cr]) rfl (at_rsays rfl hW)
    · have HRE : Hid (prefR i (.ok T p) = .ok T p) := Lib.hid (by simp only [prefR]; rw [if_neg h32])
      go_wp2_with (go_at_call 31; refine HDE.out.mono ?_; rintro e' w4 ⟨rfl, hk4⟩; have HB4 := Lib.hid (HB3.out.go hk4); have gb4 := cell_blk HB4.out.box; have gf4 := frozen_blk HB4.out.box; have gl4 := hk_lt HB4.out.box; have H4 := Lib.hid (And.intro (hk4.same H3.out.2.1) (And.intro (H3.out.2.2.keep (kc_keeps hk4 fun _ _ => by simp)) (H3.out.1.trans hk4))); have gx4 := cell_blk H4.out.1; clear hk4)
      have HF := Lib.hid (HB.out.told H4.out.2.1 H4.out.2.2 HAT.out)
      refine abs_post (F := fun W => ToldR (prefR i (.ok T p)) w.heap.size (T) (.slice a1 T.lit.its.length c1) (.slice a2 T.lit.ks.length c2) (.slice a3 T.args.length c3) (p) (0) w W) (by rw [HRE.out]; exact HF.out) (fun W hW => ?_)
      have cr := cell_blk hW.blk
      exact bodyPost_ret (v := .agg ((T : XT).elf (.slice a1 T.lit.its.length c1) (.slice a2 T.lit.ks.length c2) (.slice a3 T.args.length c3) (p) (0))) (by simp [results, Tryz.results36, go_sem, cr]) rfl (at_rsays rfl hW)
end
end Go.Proofs.YtdlkdecigpaaaaaGreatDoor
