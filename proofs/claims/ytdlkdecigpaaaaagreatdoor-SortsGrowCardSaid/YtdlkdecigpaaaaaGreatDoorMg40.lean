/- Put together: The document's parser: one (printed by wip/rone_print.py); The document's parser: one in brackets. -/
import Derived.Test.YtdlkdecigpaaaaaGreatDoorMg37
import Derived.Test.YtdlkdecigpaaaaaGreatDoorMg39
import Derived.Test.YtdlkdecigpaaaaaGreatDoorMg30
namespace Go.Proofs.YtdlkdecigpaaaaaGreatDoor
set_option linter.unusedVariables false
set_option linter.unusedSimpArgs false
open Go.RowKit

theorem quote_or {s : ByteArray} {q : Int} (h : isAt s q 34 = false) : (q < s.size ∧ (bt s q == 34) = false) ∨ ¬ q < s.size := by
  by_cases hl : q < s.size
  · left; refine ⟨hl, ?_⟩; simpa [isAt, hl] using h
  · exact .inr hl
theorem quote_at {s : ByteArray} {q : Int} (h : isAt s q 34 = true) : q < s.size ∧ bt s q = 34 := by
  simp only [isAt, Bool.and_eq_true, decide_eq_true_eq, beq_iff_eq] at h; exact h
theorem letter_mark {s : ByteArray} {i : Int} (h0 : 0 ≤ i) (h : letterAt s (blanks s i) = true) : markAt s i ⟨#[40]⟩ < 0 := by
  rcases Int.lt_or_le (markAt s i ⟨#[40]⟩) 0 with h1 | h1
  · exact h1
  · have := mark_byte h0 h1
    rw [show ((40 : UInt8).toNat : Int) = 40 from rfl, (letter_not h).2.2] at this; cases this
section
variable (s : ByteArray) (i : Int) (w : World)
set_option maxRecDepth 20000 in
set_option maxHeartbeats 4000000 in
theorem rone_num (h0 : 0 ≤ i) (h1 : i ≤ s.size) (hs : s.size ≤ 4000) (hd : digitAt s (blanks s i) = true) (HN : ∀ W, Calls Tryz.prog 120 #[.string s, .int .i64 (blanks s i)] W (RSays (numR s (blanks s i)) W)) :
    Calls Tryz.prog 88 #[.string s, .int .i64 i] w (RSays (numR s (blanks s i)) w) := by
  have hB := Lib.hid (boxr_new w)
  have HBL := Lib.hid (fun W => blanks_any s i W h0 (by omega))
  have hq0 := blanks_ge s i
  have hq1 := blanks_le h0 h1
  have hbt := bt_at s (blanks s i)
  have hbr := bt_range s (blanks s i)
  have HDG := Lib.hid (fun W => digit8_any s (blanks s i) W (by omega))
  rw [hd] at HDG
  have HX := Lib.hid HN
  clear HN hbt hd
  generalize numR s (blanks s i) = r at *
  generalize blanks s i = q at *
  go_enter Tryz.func88, Tryz.ntmps88
  go_wp2_with (first
    | (go_at_call 30; (with_reducible refine (HBL.out _).mono ?_); rintro e w' ⟨rfl, rfl⟩)
    | (go_at_call 103; (with_reducible refine (HDG.out _).mono ?_); rintro e w' ⟨rfl, rfl⟩))
  refine (HX.out _).mono ?_
  rintro e1 w2 hx
  obtain ⟨T, vi, vk, va, p, c, rfl, hrep, hk1, ha⟩ := rsays_at hx
  obtain ⟨a1, c1, a2, c2, a3, c3, rfl, rfl, rfl⟩ := xrep_shape hrep
  have HT := Lib.hid (hB.out.told hrep hk1 ha)
  have HB3 := Lib.hid (hB.out.go hk1)
  have gb := cell_blk HB3.out.box
  have gf := frozen_blk HB3.out.box
  clear hx hrep hk1 ha
  go_wp2_with fail
  refine abs_post (F := fun W => ToldR (r) w.heap.size (T) (.slice a1 T.lit.its.length c1) (.slice a2 T.lit.ks.length c2) (.slice a3 T.args.length c3) (p) (c) w W) (HT.out) (fun W hW => ?_)
  have cr := cell_blk hW.blk
  exact bodyPost_ret (v := .agg ((T : XT).elf (.slice a1 T.lit.its.length c1) (.slice a2 T.lit.ks.length c2) (.slice a3 T.args.length c3) (p) (c))) (by simp [results, Tryz.results88, go_sem, cr]) rfl (at_rsays rfl hW)
theorem textR_ok (q : Int) (hc : (strF s q).2.2 = 0) : textR s q = .ok (litT (textV (strF s q).1.text)) (strF s q).1.stop := by unfold textR; rw [if_pos hc]
theorem textR_err (q : Int) (hc : (strF s q).2.2 ≠ 0) : textR s q = .err (strF s q).2.1 (strF s q).2.2 := by unfold textR; rw [if_neg hc]
set_option maxRecDepth 20000 in
set_option maxHeartbeats 4000000 in
theorem rone_text_err (h0 : 0 ≤ i) (h1 : i ≤ s.size) (hs : s.size ≤ 4000) (hq : isAt s (blanks s i) 34 = true) (hc : (strF s (blanks s i)).2.2 ≠ 0) :
    Calls Tryz.prog 88 #[.string s, .int .i64 i] w (RSays (textR s (blanks s i)) w) := by
  have hB := Lib.hid (boxr_new w)
  have HBL := Lib.hid (fun W => blanks_any s i W h0 (by omega))
  have hq0 := blanks_ge s i
  have hq1 := blanks_le h0 h1
  have hbt := bt_at s (blanks s i)
  have hbr := bt_range s (blanks s i)
  have HDG := Lib.hid (fun W => digit8_any s (blanks s i) W (by omega))
  rw [textR_err s _ hc]
  obtain ⟨hl, hb34⟩ := quote_at hq
  have hdg : digitAt s (blanks s i) = false := by simp [digitAt, digitB, hb34]
  rw [hdg] at HDG
  have hc34 : (bt s (blanks s i) == 34) = true := by rw [hb34]; rfl
  have HNT : Hid (∀ W, Calls Tryz.prog 89 #[.string s, .int .i64 (blanks s i)] W (Next5Says (strF s (blanks s i)) W)) := Lib.hid (fun W => by have h := next5_any s (blanks s i) W (by omega) hq1 hs; rw [nextq_str hq] at h; exact h)
  generalize strF s (blanks s i) = x at *
  obtain ⟨tk, xp, xc⟩ := x
  obtain ⟨k1, k2, k3, k4, k5⟩ := tk
  have HNX : Hid (∀ W, Calls Tryz.prog 89 #[.string s, .int .i64 (blanks s i)] W fun e' w' => e' = .returned (.tuple #[.agg #[.int .i64 k1, .string k2, .int .i64 k3, .int .i64 k4, .int .i64 k5], .int .i64 xp, .int .i64 xc]) ∧ Below W.heap.size W w') := Lib.hid HNT.out
  clear HNT
  have hcc : (xc == 0) = false := by rw [beq_eq_false_iff_ne]; exact hc
  have HX := Lib.hid (fun W => rwrong_any xp xc W)
  clear hq hc hb34 hdg
  generalize blanks s i = q at *
  go_enter Tryz.func88, Tryz.ntmps88
  go_upto_region 7 with (first
    | (go_at_call 30; (with_reducible refine (HBL.out _).mono ?_); rintro e w' ⟨rfl, rfl⟩)
    | (go_at_call 103; (with_reducible refine (HDG.out _).mono ?_); rintro e w' ⟨rfl, rfl⟩)
    | (go_at_call 89; (with_reducible refine (HNX.out _).mono ?_); rintro e w5 ⟨rfl, hb5⟩; have H5 := Lib.hid (hB.out.go (Keeps.below hb5)); clear hb5; have gb5 := cell_blk H5.out.box; have gbf5 := frozen_blk H5.out.box; have hl5 := hk_lt H5.out.box))
  refine abs_world (F := fun W => BoxR w W) (by exact H5.out.go ((Keeps.refl _ _).alloc _)) (fun W6 HW6 => ?_)
  have H6 := Lib.hid HW6
  clear HW6 gb5 gbf5 hl5 H5
  go_wp2_with fail
  refine (HX.out _).mono ?_
  rintro e1 w2 hx
  obtain ⟨T, vi, vk, va, p, c, rfl, hrep, hk1, ha⟩ := rsays_at hx
  obtain ⟨a1, c1, a2, c2, a3, c3, rfl, rfl, rfl⟩ := xrep_shape hrep
  have HT := Lib.hid (H6.out.told hrep hk1 ha)
  have HB3 := Lib.hid (H6.out.go hk1)
  have gb := cell_blk HB3.out.box
  have gf := frozen_blk HB3.out.box
  clear hx hrep hk1 ha
  go_wp2_with fail
  refine abs_post (F := fun W => ToldR (.err xp xc) w.heap.size (T) (.slice a1 T.lit.its.length c1) (.slice a2 T.lit.ks.length c2) (.slice a3 T.args.length c3) (p) (c) w W) (HT.out) (fun W hW => ?_)
  have cr := cell_blk hW.blk
  exact bodyPost_ret (v := .agg ((T : XT).elf (.slice a1 T.lit.its.length c1) (.slice a2 T.lit.ks.length c2) (.slice a3 T.args.length c3) (p) (c))) (by simp [results, Tryz.results88, go_sem, cr]) rfl (at_rsays rfl hW)
set_option maxRecDepth 20000 in
set_option maxHeartbeats 4000000 in
theorem rone_text_ok (h0 : 0 ≤ i) (h1 : i ≤ s.size) (hs : s.size ≤ 4000) (hq : isAt s (blanks s i) 34 = true) (hc : (strF s (blanks s i)).2.2 = 0) :
    Calls Tryz.prog 88 #[.string s, .int .i64 i] w (RSays (textR s (blanks s i)) w) := by
  have hB := Lib.hid (boxr_new w)
  have HBL := Lib.hid (fun W => blanks_any s i W h0 (by omega))
  have hq0 := blanks_ge s i
  have hq1 := blanks_le h0 h1
  have hbt := bt_at s (blanks s i)
  have hbr := bt_range s (blanks s i)
  have HDG := Lib.hid (fun W => digit8_any s (blanks s i) W (by omega))
  rw [textR_ok s _ hc]
  obtain ⟨hl, hb34⟩ := quote_at hq
  have hdg : digitAt s (blanks s i) = false := by simp [digitAt, digitB, hb34]
  rw [hdg] at HDG
  have hc34 : (bt s (blanks s i) == 34) = true := by rw [hb34]; rfl
  have HNT : Hid (∀ W, Calls Tryz.prog 89 #[.string s, .int .i64 (blanks s i)] W (Next5Says (strF s (blanks s i)) W)) := Lib.hid (fun W => by have h := next5_any s (blanks s i) W (by omega) hq1 hs; rw [nextq_str hq] at h; exact h)
  generalize strF s (blanks s i) = x at *
  obtain ⟨tk, xp, xc⟩ := x
  obtain ⟨k1, k2, k3, k4, k5⟩ := tk
  have HNX : Hid (∀ W, Calls Tryz.prog 89 #[.string s, .int .i64 (blanks s i)] W fun e' w' => e' = .returned (.tuple #[.agg #[.int .i64 k1, .string k2, .int .i64 k3, .int .i64 k4, .int .i64 k5], .int .i64 xp, .int .i64 xc]) ∧ Below W.heap.size W w') := Lib.hid HNT.out
  clear HNT
  have hc' : xc = 0 := hc
  subst hc'
  have HX := Lib.hid (fun W => rliteral_any 3 false 0 k2 k5 W)
  clear hq hb34 hdg hc
  generalize blanks s i = q at *
  go_enter Tryz.func88, Tryz.ntmps88
  go_upto_region 8 with (first
    | (go_at_call 30; (with_reducible refine (HBL.out _).mono ?_); rintro e w' ⟨rfl, rfl⟩)
    | (go_at_call 103; (with_reducible refine (HDG.out _).mono ?_); rintro e w' ⟨rfl, rfl⟩)
    | (go_at_call 89; (with_reducible refine (HNX.out _).mono ?_); rintro e w5 ⟨rfl, hb5⟩; have H5 := Lib.hid (hB.out.go (Keeps.below hb5)); clear hb5; have gb5 := cell_blk H5.out.box; have gbf5 := frozen_blk H5.out.box; have hl5 := hk_lt H5.out.box))
  refine abs_world (F := fun W => BoxR w W ∧ W.heap[w5.heap.size]? = some (.cells #[.int .i64 k1, .string k2, .int .i64 k3, .int .i64 k4, .int .i64 k5] 143 (0, 0))) (by exact ⟨H5.out.go ((Keeps.refl _ _).alloc _), new_blk _ _⟩) (fun W6 HW6 => ?_)
  have H6 := Lib.hid HW6.1
  have gk := cell_blk HW6.2
  clear HW6 gb5 gbf5 hl5 H5
  go_wp2_with fail
  refine (HX.out _).mono ?_
  rintro e1 w2 hx
  obtain ⟨T, vi, vk, va, p, c, rfl, hrep, hk1, ha⟩ := rsays_at hx
  obtain ⟨a1, c1, a2, c2, a3, c3, rfl, rfl, rfl⟩ := xrep_shape hrep
  have HT := Lib.hid (H6.out.told hrep hk1 ha)
  have HB3 := Lib.hid (H6.out.go hk1)
  have gb := cell_blk HB3.out.box
  have gf := frozen_blk HB3.out.box
  clear hx hrep hk1 ha
  go_wp2_with fail
  refine abs_post (F := fun W => ToldR (.ok (litT (textV k2)) k5) w.heap.size (T) (.slice a1 T.lit.its.length c1) (.slice a2 T.lit.ks.length c2) (.slice a3 T.args.length c3) (p) (c) w W) (HT.out) (fun W hW => ?_)
  have cr := cell_blk hW.blk
  exact bodyPost_ret (v := .agg ((T : XT).elf (.slice a1 T.lit.its.length c1) (.slice a2 T.lit.ks.length c2) (.slice a3 T.args.length c3) (p) (c))) (by simp [results, Tryz.results88, go_sem, cr]) rfl (at_rsays rfl hW)
set_option maxRecDepth 20000 in
set_option maxHeartbeats 4000000 in
theorem rone_true (h0 : 0 ≤ i) (h1 : i ≤ s.size) (hs : s.size ≤ 4000) (hd : digitAt s (blanks s i) = false) (hq : isAt s (blanks s i) 34 = false) (hm : markAt s i ⟨#[40]⟩ < 0) (hw : wordAt s i = trueS) :
    Calls Tryz.prog 88 #[.string s, .int .i64 i] w (RSays (.ok (litT (boolV true)) (wordAtEnd s i)) w) := by
  have hB := Lib.hid (boxr_new w)
  have HBL := Lib.hid (fun W => blanks_any s i W h0 (by omega))
  have hq0 := blanks_ge s i
  have hq1 := blanks_le h0 h1
  have hbt := bt_at s (blanks s i)
  have hbr := bt_range s (blanks s i)
  have HDG := Lib.hid (fun W => digit8_any s (blanks s i) W (by omega))
  have HMK := Lib.hid (fun W => rmark_any s ⟨#[40]⟩ i W h0 h1 (by omega) (by decide))
  have HWD := Lib.hid (fun W => word_any s i W h0 (by omega))
  rw [hd] at HDG
  have hor := quote_or hq
  clear hq hd
  have f_true : ((wordAt s i).toList == [116, 114, 117, 101]) = true := by rw [hw]; decide +kernel
  have f_false : ((wordAt s i).toList == [102, 97, 108, 115, 101]) = false := by rw [hw]; decide +kernel
  have HX := Lib.hid (fun W => rliteral_any 1 true 0 eS (wordAtEnd s i) W)
  clear hw
  generalize markAt s i ⟨#[40]⟩ = m at *
  generalize wordAt s i = x at *
  generalize wordAtEnd s i = y at *
  generalize blanks s i = q at *
  go_enter Tryz.func88, Tryz.ntmps88
  rcases hor with ⟨hl, hb34⟩ | hl
  all_goals
    go_wp2_with (first
      | (go_at_call 30; (with_reducible refine (HBL.out _).mono ?_); rintro e w' ⟨rfl, rfl⟩)
      | (go_at_call 103; (with_reducible refine (HDG.out _).mono ?_); rintro e w' ⟨rfl, rfl⟩)
      | (go_at_call 66; (with_reducible refine (HMK.out _).mono ?_); rintro e w' ⟨rfl, rfl⟩)
      | (go_at_call 58; (with_reducible refine (HWD.out _).mono ?_); rintro e w' ⟨rfl, rfl⟩))
    refine (HX.out _).mono ?_
    rintro e1 w2 hx
    obtain ⟨T, vi, vk, va, p, c, rfl, hrep, hk1, ha⟩ := rsays_at hx
    obtain ⟨a1, c1, a2, c2, a3, c3, rfl, rfl, rfl⟩ := xrep_shape hrep
    have HT := Lib.hid (hB.out.told hrep hk1 ha)
    have HB3 := Lib.hid (hB.out.go hk1)
    have gb := cell_blk HB3.out.box
    have gf := frozen_blk HB3.out.box
    clear hx hrep hk1 ha
    go_wp2_with fail
    refine abs_post (F := fun W => ToldR (.ok (litT (boolV true)) y) w.heap.size (T) (.slice a1 T.lit.its.length c1) (.slice a2 T.lit.ks.length c2) (.slice a3 T.args.length c3) (p) (c) w W) (HT.out) (fun W hW => ?_)
    have cr := cell_blk hW.blk
    exact bodyPost_ret (v := .agg ((T : XT).elf (.slice a1 T.lit.its.length c1) (.slice a2 T.lit.ks.length c2) (.slice a3 T.args.length c3) (p) (c))) (by simp [results, Tryz.results88, go_sem, cr]) rfl (at_rsays rfl hW)
set_option maxRecDepth 20000 in
set_option maxHeartbeats 4000000 in
theorem rone_false (h0 : 0 ≤ i) (h1 : i ≤ s.size) (hs : s.size ≤ 4000) (hd : digitAt s (blanks s i) = false) (hq : isAt s (blanks s i) 34 = false) (hm : markAt s i ⟨#[40]⟩ < 0) (hw : wordAt s i = falseS) :
    Calls Tryz.prog 88 #[.string s, .int .i64 i] w (RSays (.ok (litT (boolV false)) (wordAtEnd s i)) w) := by
  have hB := Lib.hid (boxr_new w)
  have HBL := Lib.hid (fun W => blanks_any s i W h0 (by omega))
  have hq0 := blanks_ge s i
  have hq1 := blanks_le h0 h1
  have hbt := bt_at s (blanks s i)
  have hbr := bt_range s (blanks s i)
  have HDG := Lib.hid (fun W => digit8_any s (blanks s i) W (by omega))
  have HMK := Lib.hid (fun W => rmark_any s ⟨#[40]⟩ i W h0 h1 (by omega) (by decide))
  have HWD := Lib.hid (fun W => word_any s i W h0 (by omega))
  rw [hd] at HDG
  have hor := quote_or hq
  clear hq hd
  have f_true : ((wordAt s i).toList == [116, 114, 117, 101]) = false := by rw [hw]; decide +kernel
  have f_false : ((wordAt s i).toList == [102, 97, 108, 115, 101]) = true := by rw [hw]; decide +kernel
  have HX := Lib.hid (fun W => rliteral_any 1 false 0 eS (wordAtEnd s i) W)
  clear hw
  generalize markAt s i ⟨#[40]⟩ = m at *
  generalize wordAt s i = x at *
  generalize wordAtEnd s i = y at *
  generalize blanks s i = q at *
  go_enter Tryz.func88, Tryz.ntmps88
  rcases hor with ⟨hl, hb34⟩ | hl
  all_goals
    go_wp2_with (first
      | (go_at_call 30; (with_reducible refine (HBL.out _).mono ?_); rintro e w' ⟨rfl, rfl⟩)
      | (go_at_call 103; (with_reducible refine (HDG.out _).mono ?_); rintro e w' ⟨rfl, rfl⟩)
      | (go_at_call 66; (with_reducible refine (HMK.out _).mono ?_); rintro e w' ⟨rfl, rfl⟩)
      | (go_at_call 58; (with_reducible refine (HWD.out _).mono ?_); rintro e w' ⟨rfl, rfl⟩))
    refine (HX.out _).mono ?_
    rintro e1 w2 hx
    obtain ⟨T, vi, vk, va, p, c, rfl, hrep, hk1, ha⟩ := rsays_at hx
    obtain ⟨a1, c1, a2, c2, a3, c3, rfl, rfl, rfl⟩ := xrep_shape hrep
    have HT := Lib.hid (hB.out.told hrep hk1 ha)
    have HB3 := Lib.hid (hB.out.go hk1)
    have gb := cell_blk HB3.out.box
    have gf := frozen_blk HB3.out.box
    clear hx hrep hk1 ha
    go_wp2_with fail
    refine abs_post (F := fun W => ToldR (.ok (litT (boolV false)) y) w.heap.size (T) (.slice a1 T.lit.its.length c1) (.slice a2 T.lit.ks.length c2) (.slice a3 T.args.length c3) (p) (c) w W) (HT.out) (fun W hW => ?_)
    have cr := cell_blk hW.blk
    exact bodyPost_ret (v := .agg ((T : XT).elf (.slice a1 T.lit.its.length c1) (.slice a2 T.lit.ks.length c2) (.slice a3 T.args.length c3) (p) (c))) (by simp [results, Tryz.results88, go_sem, cr]) rfl (at_rsays rfl hW)
set_option maxRecDepth 20000 in
set_option maxHeartbeats 4000000 in
theorem rone_null (h0 : 0 ≤ i) (h1 : i ≤ s.size) (hs : s.size ≤ 4000) (hd : digitAt s (blanks s i) = false) (hq : isAt s (blanks s i) 34 = false) (hm : markAt s i ⟨#[40]⟩ < 0) (hw : wordAt s i = nullS) :
    Calls Tryz.prog 88 #[.string s, .int .i64 i] w (RSays (.ok (litT VT.zero) (wordAtEnd s i)) w) := by
  have hB := Lib.hid (boxr_new w)
  have HBL := Lib.hid (fun W => blanks_any s i W h0 (by omega))
  have hq0 := blanks_ge s i
  have hq1 := blanks_le h0 h1
  have hbt := bt_at s (blanks s i)
  have hbr := bt_range s (blanks s i)
  have HDG := Lib.hid (fun W => digit8_any s (blanks s i) W (by omega))
  have HMK := Lib.hid (fun W => rmark_any s ⟨#[40]⟩ i W h0 h1 (by omega) (by decide))
  have HWD := Lib.hid (fun W => word_any s i W h0 (by omega))
  rw [hd] at HDG
  have hor := quote_or hq
  clear hq hd
  have f_true : ((wordAt s i).toList == [116, 114, 117, 101]) = false := by rw [hw]; decide +kernel
  have f_false : ((wordAt s i).toList == [102, 97, 108, 115, 101]) = false := by rw [hw]; decide +kernel
  have f_null : ((wordAt s i).toList == [110, 117, 108, 108]) = true := by rw [hw]; decide +kernel
  have HX := Lib.hid (fun W => rliteral_any 0 false 0 eS (wordAtEnd s i) W)
  clear hw
  generalize markAt s i ⟨#[40]⟩ = m at *
  generalize wordAt s i = x at *
  generalize wordAtEnd s i = y at *
  generalize blanks s i = q at *
  go_enter Tryz.func88, Tryz.ntmps88
  rcases hor with ⟨hl, hb34⟩ | hl
  all_goals
    go_wp2_with (first
      | (go_at_call 30; (with_reducible refine (HBL.out _).mono ?_); rintro e w' ⟨rfl, rfl⟩)
      | (go_at_call 103; (with_reducible refine (HDG.out _).mono ?_); rintro e w' ⟨rfl, rfl⟩)
      | (go_at_call 66; (with_reducible refine (HMK.out _).mono ?_); rintro e w' ⟨rfl, rfl⟩)
      | (go_at_call 58; (with_reducible refine (HWD.out _).mono ?_); rintro e w' ⟨rfl, rfl⟩))
    refine (HX.out _).mono ?_
    rintro e1 w2 hx
    obtain ⟨T, vi, vk, va, p, c, rfl, hrep, hk1, ha⟩ := rsays_at hx
    obtain ⟨a1, c1, a2, c2, a3, c3, rfl, rfl, rfl⟩ := xrep_shape hrep
    have HT := Lib.hid (hB.out.told hrep hk1 ha)
    have HB3 := Lib.hid (hB.out.go hk1)
    have gb := cell_blk HB3.out.box
    have gf := frozen_blk HB3.out.box
    clear hx hrep hk1 ha
    go_wp2_with fail
    refine abs_post (F := fun W => ToldR (.ok (litT VT.zero) y) w.heap.size (T) (.slice a1 T.lit.its.length c1) (.slice a2 T.lit.ks.length c2) (.slice a3 T.args.length c3) (p) (c) w W) (HT.out) (fun W hW => ?_)
    have cr := cell_blk hW.blk
    exact bodyPost_ret (v := .agg ((T : XT).elf (.slice a1 T.lit.its.length c1) (.slice a2 T.lit.ks.length c2) (.slice a3 T.args.length c3) (p) (c))) (by simp [results, Tryz.results88, go_sem, cr]) rfl (at_rsays rfl hW)
set_option maxRecDepth 20000 in
set_option maxHeartbeats 4000000 in
theorem rone_this (h0 : 0 ≤ i) (h1 : i ≤ s.size) (hs : s.size ≤ 4000) (hd : digitAt s (blanks s i) = false) (hq : isAt s (blanks s i) 34 = false) (hm : markAt s i ⟨#[40]⟩ < 0) (hw : wordAt s i = thisS) :
    Calls Tryz.prog 88 #[.string s, .int .i64 i] w (RSays (.ok (.mk thisS eS VT.zero []) (wordAtEnd s i)) w) := by
  have hB := Lib.hid (boxr_new w)
  have HBL := Lib.hid (fun W => blanks_any s i W h0 (by omega))
  have hq0 := blanks_ge s i
  have hq1 := blanks_le h0 h1
  have hbt := bt_at s (blanks s i)
  have hbr := bt_range s (blanks s i)
  have HDG := Lib.hid (fun W => digit8_any s (blanks s i) W (by omega))
  have HMK := Lib.hid (fun W => rmark_any s ⟨#[40]⟩ i W h0 h1 (by omega) (by decide))
  have HWD := Lib.hid (fun W => word_any s i W h0 (by omega))
  rw [hd] at HDG
  have hor := quote_or hq
  clear hq hd
  have f_true : ((wordAt s i).toList == [116, 114, 117, 101]) = false := by rw [hw]; decide +kernel
  have f_false : ((wordAt s i).toList == [102, 97, 108, 115, 101]) = false := by rw [hw]; decide +kernel
  have f_null : ((wordAt s i).toList == [110, 117, 108, 108]) = false := by rw [hw]; decide +kernel
  have f_this : ((wordAt s i).toList == [116, 104, 105, 115]) = true := by rw [hw]; decide +kernel
  clear hw
  have HT := Lib.hid (toldr_new (r := .ok (.mk thisS eS VT.zero []) (wordAtEnd s i)) thisS eS 0 false 0 eS w (p := wordAtEnd s i) (c := 0) ⟨rfl, rfl, rfl⟩)
  generalize markAt s i ⟨#[40]⟩ = m at *
  generalize wordAt s i = x at *
  generalize wordAtEnd s i = y at *
  generalize blanks s i = q at *
  go_enter Tryz.func88, Tryz.ntmps88
  rcases hor with ⟨hl, hb34⟩ | hl
  all_goals
    go_wp2_with (first
      | (go_at_call 30; (with_reducible refine (HBL.out _).mono ?_); rintro e w' ⟨rfl, rfl⟩)
      | (go_at_call 103; (with_reducible refine (HDG.out _).mono ?_); rintro e w' ⟨rfl, rfl⟩)
      | (go_at_call 66; (with_reducible refine (HMK.out _).mono ?_); rintro e w' ⟨rfl, rfl⟩)
      | (go_at_call 58; (with_reducible refine (HWD.out _).mono ?_); rintro e w' ⟨rfl, rfl⟩))
    refine abs_post (F := fun W => ToldR (.ok (.mk thisS eS VT.zero []) y) w.heap.size (.mk thisS eS VT.zero []) (.slice none 0 0) (.slice none 0 0) (.slice none 0 0) (y) (0) w W) (HT.out) (fun W hW => ?_)
    have cr := cell_blk hW.blk
    exact bodyPost_ret (v := .agg ((.mk thisS eS VT.zero [] : XT).elf (.slice none 0 0) (.slice none 0 0) (.slice none 0 0) (y) (0))) (by simp [results, Tryz.results88, go_sem, cr]) rfl (at_rsays rfl hW)
set_option maxRecDepth 20000 in
set_option maxHeartbeats 4000000 in
theorem rone_call (h0 : 0 ≤ i) (h1 : i ≤ s.size) (hs : s.size ≤ 4000) (hd : digitAt s (blanks s i) = false) (hq : isAt s (blanks s i) 34 = false) (hm : markAt s i ⟨#[40]⟩ < 0) (hz : wordAt s i ≠ trueS ∧ wordAt s i ≠ falseS ∧ wordAt s i ≠ nullS ∧ wordAt s i ≠ thisS) (r : Res) (ha : 0 < argsN (wordAt s i)) (HC : ∀ W, Calls Tryz.prog 122 #[.string s, .string (wordAt s i), .int .i64 (wordAtEnd s i)] W (RSays r W)) :
    Calls Tryz.prog 88 #[.string s, .int .i64 i] w (RSays (r) w) := by
  have hB := Lib.hid (boxr_new w)
  have HBL := Lib.hid (fun W => blanks_any s i W h0 (by omega))
  have hq0 := blanks_ge s i
  have hq1 := blanks_le h0 h1
  have hbt := bt_at s (blanks s i)
  have hbr := bt_range s (blanks s i)
  have HDG := Lib.hid (fun W => digit8_any s (blanks s i) W (by omega))
  have HMK := Lib.hid (fun W => rmark_any s ⟨#[40]⟩ i W h0 h1 (by omega) (by decide))
  have HWD := Lib.hid (fun W => word_any s i W h0 (by omega))
  rw [hd] at HDG
  have hor := quote_or hq
  clear hq hd
  have f_true := tl_ne (l := [116, 114, 117, 101]) hz.1
  have f_false := tl_ne (l := [102, 97, 108, 115, 101]) hz.2.1
  have f_null := tl_ne (l := [110, 117, 108, 108]) hz.2.2.1
  have f_this := tl_ne (l := [116, 104, 105, 115]) hz.2.2.2
  have HAR := Lib.hid (fun W => rargs_any (wordAt s i) W)
  have HRS := Lib.hid (fun W => rreserved_any (wordAt s i) W)
  have hgt : decide ((argsN (wordAt s i) : Int) > 0) = true := by simpa using ha
  have hgt2 : decide ((0 : Int) < (argsN (wordAt s i) : Int)) = true := by simpa using ha
  have HX := Lib.hid HC
  clear HC hz
  generalize markAt s i ⟨#[40]⟩ = m at *
  generalize wordAt s i = x at *
  generalize wordAtEnd s i = y at *
  generalize blanks s i = q at *
  go_enter Tryz.func88, Tryz.ntmps88
  rcases hor with ⟨hl, hb34⟩ | hl
  all_goals
    go_wp2_with (first
      | (go_at_call 30; (with_reducible refine (HBL.out _).mono ?_); rintro e w' ⟨rfl, rfl⟩)
      | (go_at_call 103; (with_reducible refine (HDG.out _).mono ?_); rintro e w' ⟨rfl, rfl⟩)
      | (go_at_call 66; (with_reducible refine (HMK.out _).mono ?_); rintro e w' ⟨rfl, rfl⟩)
      | (go_at_call 58; (with_reducible refine (HWD.out _).mono ?_); rintro e w' ⟨rfl, rfl⟩)
      | (go_at_call 55; (with_reducible refine (HAR.out _).mono ?_); rintro e w' ⟨rfl, rfl⟩))
    refine (HX.out _).mono ?_
    rintro e1 w2 hx
    obtain ⟨T, vi, vk, va, p, c, rfl, hrep, hk1, ha⟩ := rsays_at hx
    obtain ⟨a1, c1, a2, c2, a3, c3, rfl, rfl, rfl⟩ := xrep_shape hrep
    have HT := Lib.hid (hB.out.told hrep hk1 ha)
    have HB3 := Lib.hid (hB.out.go hk1)
    have gb := cell_blk HB3.out.box
    have gf := frozen_blk HB3.out.box
    clear hx hrep hk1 ha
    go_wp2_with fail
    refine abs_post (F := fun W => ToldR (r) w.heap.size (T) (.slice a1 T.lit.its.length c1) (.slice a2 T.lit.ks.length c2) (.slice a3 T.args.length c3) (p) (c) w W) (HT.out) (fun W hW => ?_)
    have cr := cell_blk hW.blk
    exact bodyPost_ret (v := .agg ((T : XT).elf (.slice a1 T.lit.its.length c1) (.slice a2 T.lit.ks.length c2) (.slice a3 T.args.length c3) (p) (c))) (by simp [results, Tryz.results88, go_sem, cr]) rfl (at_rsays rfl hW)
set_option maxRecDepth 20000 in
set_option maxHeartbeats 4000000 in
theorem rone_bad (h0 : 0 ≤ i) (h1 : i ≤ s.size) (hs : s.size ≤ 4000) (hd : digitAt s (blanks s i) = false) (hq : isAt s (blanks s i) 34 = false) (hm : markAt s i ⟨#[40]⟩ < 0) (hz : wordAt s i ≠ trueS ∧ wordAt s i ≠ falseS ∧ wordAt s i ≠ nullS ∧ wordAt s i ≠ thisS) (ha : argsN (wordAt s i) = 0) (hb : wordAt s i = eS ∨ (wordAt s i ≠ eS ∧ resB (wordAt s i) = true)) :
    Calls Tryz.prog 88 #[.string s, .int .i64 i] w (RSays (.err (blanks s i) 1) w) := by
  have hB := Lib.hid (boxr_new w)
  have HBL := Lib.hid (fun W => blanks_any s i W h0 (by omega))
  have hq0 := blanks_ge s i
  have hq1 := blanks_le h0 h1
  have hbt := bt_at s (blanks s i)
  have hbr := bt_range s (blanks s i)
  have HDG := Lib.hid (fun W => digit8_any s (blanks s i) W (by omega))
  have HMK := Lib.hid (fun W => rmark_any s ⟨#[40]⟩ i W h0 h1 (by omega) (by decide))
  have HWD := Lib.hid (fun W => word_any s i W h0 (by omega))
  rw [hd] at HDG
  have hor := quote_or hq
  clear hq hd
  have f_true := tl_ne (l := [116, 114, 117, 101]) hz.1
  have f_false := tl_ne (l := [102, 97, 108, 115, 101]) hz.2.1
  have f_null := tl_ne (l := [110, 117, 108, 108]) hz.2.2.1
  have f_this := tl_ne (l := [116, 104, 105, 115]) hz.2.2.2
  have HAR := Lib.hid (fun W => rargs_any (wordAt s i) W)
  have HRS := Lib.hid (fun W => rreserved_any (wordAt s i) W)
  clear HAR
  have HAR : Hid (∀ W, Calls Tryz.prog 55 #[.string (wordAt s i)] W fun e w' => e = .returned (.int .i64 0) ∧ W = w') := Lib.hid (fun W => by have h := rargs_any (wordAt s i) W; rw [ha] at h; exact h)
  have HX := Lib.hid (fun W => rwrong_any (blanks s i) 1 W)
  have hb2 : ((wordAt s i).toList.isEmpty = true) ∨ ((wordAt s i).toList.isEmpty = false ∧ resB (wordAt s i) = true) := by
    rcases hb with h | h
    · left; rw [h]; rw [toList_nil rfl]; rfl
    · exact .inr ⟨wo_nil h.1, h.2⟩
  clear hz ha hb
  generalize markAt s i ⟨#[40]⟩ = m at *
  generalize wordAt s i = x at *
  generalize wordAtEnd s i = y at *
  generalize blanks s i = q at *
  rcases hb2 with hb2 | ⟨hb2, hb3⟩
  all_goals
    try rw [hb3] at HRS
    go_enter Tryz.func88, Tryz.ntmps88
    rcases hor with ⟨hl, hb34⟩ | hl
    all_goals
      go_wp2_with (first
        | (go_at_call 30; (with_reducible refine (HBL.out _).mono ?_); rintro e w' ⟨rfl, rfl⟩)
        | (go_at_call 103; (with_reducible refine (HDG.out _).mono ?_); rintro e w' ⟨rfl, rfl⟩)
        | (go_at_call 66; (with_reducible refine (HMK.out _).mono ?_); rintro e w' ⟨rfl, rfl⟩)
        | (go_at_call 58; (with_reducible refine (HWD.out _).mono ?_); rintro e w' ⟨rfl, rfl⟩)
        | (go_at_call 55; (with_reducible refine (HAR.out _).mono ?_); rintro e w' ⟨rfl, rfl⟩)
        | (go_at_call 59; (with_reducible refine (HRS.out _).mono ?_); rintro e w' ⟨rfl, rfl⟩))
      refine (HX.out _).mono ?_
      rintro e1 w2 hx
      obtain ⟨T, vi, vk, va, p, c, rfl, hrep, hk1, ha⟩ := rsays_at hx
      obtain ⟨a1, c1, a2, c2, a3, c3, rfl, rfl, rfl⟩ := xrep_shape hrep
      have HT := Lib.hid (hB.out.told hrep hk1 ha)
      have HB3 := Lib.hid (hB.out.go hk1)
      have gb := cell_blk HB3.out.box
      have gf := frozen_blk HB3.out.box
      clear hx hrep hk1 ha
      go_wp2_with fail
      refine abs_post (F := fun W => ToldR (.err q 1) w.heap.size (T) (.slice a1 T.lit.its.length c1) (.slice a2 T.lit.ks.length c2) (.slice a3 T.args.length c3) (p) (c) w W) (HT.out) (fun W hW => ?_)
      have cr := cell_blk hW.blk
      exact bodyPost_ret (v := .agg ((T : XT).elf (.slice a1 T.lit.its.length c1) (.slice a2 T.lit.ks.length c2) (.slice a3 T.args.length c3) (p) (c))) (by simp [results, Tryz.results88, go_sem, cr]) rfl (at_rsays rfl hW)
set_option maxRecDepth 20000 in
set_option maxHeartbeats 4000000 in
theorem rone_var (h0 : 0 ≤ i) (h1 : i ≤ s.size) (hs : s.size ≤ 4000) (hd : digitAt s (blanks s i) = false) (hq : isAt s (blanks s i) 34 = false) (hm : markAt s i ⟨#[40]⟩ < 0) (hz : wordAt s i ≠ trueS ∧ wordAt s i ≠ falseS ∧ wordAt s i ≠ nullS ∧ wordAt s i ≠ thisS) (ha : argsN (wordAt s i) = 0) (hw : wordAt s i ≠ eS) (hb : resB (wordAt s i) = false) :
    Calls Tryz.prog 88 #[.string s, .int .i64 i] w (RSays (.ok (.mk varS (wordAt s i) VT.zero []) (wordAtEnd s i)) w) := by
  have hB := Lib.hid (boxr_new w)
  have HBL := Lib.hid (fun W => blanks_any s i W h0 (by omega))
  have hq0 := blanks_ge s i
  have hq1 := blanks_le h0 h1
  have hbt := bt_at s (blanks s i)
  have hbr := bt_range s (blanks s i)
  have HDG := Lib.hid (fun W => digit8_any s (blanks s i) W (by omega))
  have HMK := Lib.hid (fun W => rmark_any s ⟨#[40]⟩ i W h0 h1 (by omega) (by decide))
  have HWD := Lib.hid (fun W => word_any s i W h0 (by omega))
  rw [hd] at HDG
  have hor := quote_or hq
  clear hq hd
  have f_true := tl_ne (l := [116, 114, 117, 101]) hz.1
  have f_false := tl_ne (l := [102, 97, 108, 115, 101]) hz.2.1
  have f_null := tl_ne (l := [110, 117, 108, 108]) hz.2.2.1
  have f_this := tl_ne (l := [116, 104, 105, 115]) hz.2.2.2
  have HAR := Lib.hid (fun W => rargs_any (wordAt s i) W)
  have HRS := Lib.hid (fun W => rreserved_any (wordAt s i) W)
  clear HAR
  have HAR : Hid (∀ W, Calls Tryz.prog 55 #[.string (wordAt s i)] W fun e w' => e = .returned (.int .i64 0) ∧ W = w') := Lib.hid (fun W => by have h := rargs_any (wordAt s i) W; rw [ha] at h; exact h)
  have hne := wo_nil hw
  rw [hb] at HRS
  have HT := Lib.hid (toldr_new (r := .ok (.mk varS (wordAt s i) VT.zero []) (wordAtEnd s i)) varS (wordAt s i) 0 false 0 eS w (p := wordAtEnd s i) (c := 0) ⟨rfl, rfl, rfl⟩)
  clear hz ha hb hw
  generalize markAt s i ⟨#[40]⟩ = m at *
  generalize wordAt s i = x at *
  generalize wordAtEnd s i = y at *
  generalize blanks s i = q at *
  go_enter Tryz.func88, Tryz.ntmps88
  rcases hor with ⟨hl, hb34⟩ | hl
  all_goals
    go_wp2_with (first
      | (go_at_call 30; (with_reducible refine (HBL.out _).mono ?_); rintro e w' ⟨rfl, rfl⟩)
      | (go_at_call 103; (with_reducible refine (HDG.out _).mono ?_); rintro e w' ⟨rfl, rfl⟩)
      | (go_at_call 66; (with_reducible refine (HMK.out _).mono ?_); rintro e w' ⟨rfl, rfl⟩)
      | (go_at_call 58; (with_reducible refine (HWD.out _).mono ?_); rintro e w' ⟨rfl, rfl⟩)
      | (go_at_call 55; (with_reducible refine (HAR.out _).mono ?_); rintro e w' ⟨rfl, rfl⟩)
      | (go_at_call 59; (with_reducible refine (HRS.out _).mono ?_); rintro e w' ⟨rfl, rfl⟩))
    refine abs_post (F := fun W => ToldR (.ok (.mk varS x VT.zero []) y) w.heap.size (.mk varS x VT.zero []) (.slice none 0 0) (.slice none 0 0) (.slice none 0 0) (y) (0) w W) (HT.out) (fun W hW => ?_)
    have cr := cell_blk hW.blk
    exact bodyPost_ret (v := .agg ((.mk varS x VT.zero [] : XT).elf (.slice none 0 0) (.slice none 0 0) (.slice none 0 0) (y) (0))) (by simp [results, Tryz.results88, go_sem, cr]) rfl (at_rsays rfl hW)
end
end Go.Proofs.YtdlkdecigpaaaaaGreatDoor
namespace Go.Proofs.YtdlkdecigpaaaaaGreatDoor
set_option linter.unusedVariables false
set_option linter.unusedSimpArgs false
open Go.RowKit

theorem VarR.at {b : Nat} {U : XT} {vi vk va : Value} {p : Int} {w W : World} (e : Int) (h : VarR (.ok U p) b U vi vk va p 0 w W) (hb : w.heap.size < b) : VarR (.ok U e) b U vi vk va e 0 w (W.setCell ⟨b, 9, none⟩ (.int .i64 e)) := by
  have k : Keeps [b] W (W.setCell ⟨b, 9, none⟩ (.int .i64 e)) := (Keeps.refl _ _).set (.inl (by simp)) _
  exact ⟨set_to h.blk 9 _ rfl, h.rep.keep (kc_keeps k fun x hx => by simp; exact hx.2), h.keeps.step k (fun x h1 h2 => by simp at h1; omega), k.heap h.box (by simp; omega), rfl, rfl, rfl⟩
section
variable (s : ByteArray) (i : Int) (w : World) (r r3 : Res)
set_option maxRecDepth 20000 in
set_option maxHeartbeats 4000000 in
theorem rone_in (h0 : 0 ≤ i) (h1 : i ≤ s.size) (hs : s.size ≤ 4000) (hm : 0 ≤ markAt s i ⟨#[40]⟩) (hr3 : Par s (.lev 0) (markAt s i ⟨#[40]⟩) r3) (he : ∀ p c, r3 = .err p c → r = .err p c ∧ c ≠ 0)
    (ho : ∀ U p, r3 = .ok U p → (markAt s p ⟨#[41]⟩ < 0 ∧ r = .err (blanks s p) 1) ∨ (0 ≤ markAt s p ⟨#[41]⟩ ∧ r = .ok U (markAt s p ⟨#[41]⟩)))
    (HO : ∀ W, Calls Tryz.prog 40 #[.string s, .int .i64 (markAt s i ⟨#[40]⟩), .int .i64 0] W (RSays r3 W)) :
    Calls Tryz.prog 88 #[.string s, .int .i64 i] w (RSays r w) := by
  have hB := Lib.hid (boxr_new w)
  have HBL := Lib.hid (fun W => blanks_any s i W h0 (by omega))
  have hq0 := blanks_ge s i
  have hbt := bt_at s (blanks s i)
  have hbr := bt_range s (blanks s i)
  have HDG := Lib.hid (fun W => digit8_any s (blanks s i) W (by omega))
  have hmb := mark_byte h0 hm
  obtain ⟨hl, hb40⟩ : blanks s i < s.size ∧ bt s (blanks s i) = 40 := by simp only [isAt, Bool.and_eq_true, decide_eq_true_eq, beq_iff_eq] at hmb; exact hmb
  have hdg : digitAt s (blanks s i) = false := by simp [digitAt, digitB, hb40]
  have hb34 : (bt s (blanks s i) == 34) = false := by rw [hb40]; rfl
  rw [hdg] at HDG
  have hmp := mark_pos hm (by decide)
  have HMK := Lib.hid (fun W => rmark_any s ⟨#[40]⟩ i W h0 h1 (by omega) (by decide))
  have HMT := Lib.hid (fun (t : ByteArray) (p : Int) (W : World) (hp0 : 0 ≤ p) (hp : p ≤ s.size) (ht : t.size ≤ 1000) => rmark_any s t p W hp0 hp (by omega) ht)
  have HX := Lib.hid HO
  have HE3 := Lib.hid he
  have HO3 := Lib.hid ho
  have HR3 := Lib.hid hr3
  clear HO he ho hmb hb40 hdg hr3
  generalize markAt s i ⟨#[40]⟩ = e at *
  generalize blanks s i = q at *
  go_enter Tryz.func88, Tryz.ntmps88
  go_wp2_with (first
    | (go_at_call 30; (with_reducible refine (HBL.out _).mono ?_); rintro e w' ⟨rfl, rfl⟩)
    | (go_at_call 103; (with_reducible refine (HDG.out _).mono ?_); rintro e w' ⟨rfl, rfl⟩)
    | (go_at_call 66; (with_reducible refine (HMK.out _).mono ?_); rintro e w' ⟨rfl, rfl⟩))
  refine (HX.out _).mono ?_
  rintro e5 w5 hx
  obtain ⟨U, ui, uk, ua, p2, c2, rfl, hrep, hk5, ha⟩ := rsays_at hx
  obtain ⟨x1, y1, x2, y2, x3, y3, rfl, rfl, rfl⟩ := xrep_shape hrep
  have HV := Lib.hid (hB.out.var hrep hk5 ha)
  have hw5 : w.heap.size < w5.heap.size := Nat.lt_of_lt_of_le (hk_lt hB.out.box) hk5.size
  clear hx hrep hk5 ha hbt hbr
  go_upto_region 12 with fail
  refine abs_world (F := fun W => VarR r3 w5.heap.size U (.slice x1 U.lit.its.length y1) (.slice x2 U.lit.ks.length y2) (.slice x3 U.args.length y3) p2 c2 w W) HV.out (fun W6 HW6 => ?_)
  have H6 := Lib.hid HW6
  clear HW6 HV
  have gy := cell_blk H6.out.blk
  have gyf := frozen_blk H6.out.blk
  have gb6 := cell_blk H6.out.box
  have gbf6 := frozen_blk H6.out.box
  cases r3 with
  | err p' c' =>
    have hat : U = XT.zero ∧ p2 = p' ∧ c2 = c' := H6.out.at_
    obtain ⟨hU, rfl, rfl⟩ := hat
    obtain ⟨hre, hc'⟩ := HE3.out p2 c2 rfl
    have e1 : (c2 == 0) = false := by rw [beq_eq_false_iff_ne]; exact hc'
    have HE := Lib.hid H6.out.ret
    subst hre
    clear hc' hU
    go_wp2_with fail
    refine abs_post (F := fun W => ToldR (.err p2 c2) w.heap.size (U) (.slice x1 U.lit.its.length y1) (.slice x2 U.lit.ks.length y2) (.slice x3 U.args.length y3) (p2) (c2) w W) (HE.out) (fun W hW => ?_)
    have cr := cell_blk hW.blk
    exact bodyPost_ret (v := .agg ((U : XT).elf (.slice x1 U.lit.its.length y1) (.slice x2 U.lit.ks.length y2) (.slice x3 U.args.length y3) (p2) (c2))) (by simp [results, Tryz.results88, go_sem, cr]) rfl (at_rsays rfl hW)
  | ok U' p' =>
    have hat : U = U' ∧ p2 = p' ∧ c2 = 0 := H6.out.at_
    obtain ⟨rfl, rfl, rfl⟩ := hat
    have hpq := par_pos HR3.out (by omega) hmp.2
    have hp1 : e < p2 := hpq.2
    have hp2 : p2 ≤ s.size := hpq.1.2
    clear hpq
    have HM3 := Lib.hid (fun W => HMT.out ⟨#[41]⟩ p2 W (by omega) hp2 (by decide))
    rcases HO3.out U p2 rfl with ⟨hno, hre⟩ | ⟨hyes, hre⟩
    · have HXW := Lib.hid (fun W => rwrong_any (blanks s p2) 1 W)
      have HBL2 := Lib.hid (fun W => blanks_any s p2 W (by omega) (by omega))
      subst hre
      generalize markAt s p2 ⟨#[41]⟩ = e3 at *
      generalize blanks s p2 = q2 at *
      go_wp2_with (first
        | (go_at_call 66; (with_reducible refine (HM3.out _).mono ?_); rintro e' w' ⟨rfl, rfl⟩)
        | (go_at_call 30; (with_reducible refine (HBL2.out _).mono ?_); rintro e' w' ⟨rfl, rfl⟩))
      refine (HXW.out _).mono ?_
      rintro e7 w7 hx
      obtain ⟨V, ui, uk, ua, p3, c3, rfl, hrep, hk7, ha⟩ := rsays_at hx
      obtain ⟨z1, t1, z2, t2, z3, t3, rfl, rfl, rfl⟩ := xrep_shape hrep
      have HT := Lib.hid (H6.out.boxr.told hrep hk7 ha)
      have HB3 := Lib.hid (H6.out.boxr.go hk7)
      have gb := cell_blk HB3.out.box
      have gf := frozen_blk HB3.out.box
      clear hx hrep hk7 ha gy gb6 gbf6
      go_wp2_with fail
      refine abs_post (F := fun W => ToldR (.err q2 1) w.heap.size (V) (.slice z1 V.lit.its.length t1) (.slice z2 V.lit.ks.length t2) (.slice z3 V.args.length t3) (p3) (c3) w W) (HT.out) (fun W hW => ?_)
      have cr := cell_blk hW.blk
      exact bodyPost_ret (v := .agg ((V : XT).elf (.slice z1 V.lit.its.length t1) (.slice z2 V.lit.ks.length t2) (.slice z3 V.args.length t3) (p3) (c3))) (by simp [results, Tryz.results88, go_sem, cr]) rfl (at_rsays rfl hW)
    · subst hre
      generalize markAt s p2 ⟨#[41]⟩ = e3 at *
      have HA := Lib.hid (H6.out.at e3 hw5)
      go_upto_region 16 with (go_at_call 66; (with_reducible refine (HM3.out _).mono ?_); rintro e' w' ⟨rfl, rfl⟩)
      refine abs_world (F := fun W => VarR (.ok U e3) w5.heap.size U (.slice x1 U.lit.its.length y1) (.slice x2 U.lit.ks.length y2) (.slice x3 U.args.length y3) e3 0 w W) HA.out (fun W7 HW7 => ?_)
      have H7 := Lib.hid HW7
      clear HW7 HA gy gyf gb6 gbf6
      have gy := cell_blk H7.out.blk
      have gb6 := cell_blk H7.out.box
      have gbf6 := frozen_blk H7.out.box
      have HE := Lib.hid H7.out.ret
      go_wp2_with fail
      refine abs_post (F := fun W => ToldR (.ok U e3) w.heap.size (U) (.slice x1 U.lit.its.length y1) (.slice x2 U.lit.ks.length y2) (.slice x3 U.args.length y3) (e3) (0) w W) (HE.out) (fun W hW => ?_)
      have cr := cell_blk hW.blk
      exact bodyPost_ret (v := .agg ((U : XT).elf (.slice x1 U.lit.its.length y1) (.slice x2 U.lit.ks.length y2) (.slice x3 U.args.length y3) (e3) (0))) (by simp [results, Tryz.results88, go_sem, cr]) rfl (at_rsays rfl hW)
end
end Go.Proofs.YtdlkdecigpaaaaaGreatDoor
