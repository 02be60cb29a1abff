/- Put together: The parser's one, at a word that is a literal, at this, at a call; The parser's one, at a bracket; The parser answers as the grammar says: all levels, by one induction. -/
import Derived.Test.YtdlkdecigpaaaaaGreatDoorMg30
namespace Go.Proofs.YtdlkdecigpaaaaaGreatDoor
set_option linter.unusedVariables false
set_option linter.unusedSimpArgs false
open Go.RowKit

section
variable (s : ByteArray) (i pl : Int) (g : Nat) (w : World)
set_option maxRecDepth 20000 in
set_option maxHeartbeats 1000000 in
theorem eone_this (h : PAt s i pl 0 g w) (h0 : 0 ≤ i) (h1 : i ≤ s.size) (hs : s.size ≤ 1000000) (ht : wordAt s i = thisS) :
    Calls Tryz.prog 178 #[.pointer (some ⟨g, 0, none⟩)] w (PSays s (.ok (.mk thisS eS VT.zero []) (wordAtEnd s i)) pl g w) := by
  have hne : wordAt s i ≠ eS := by rw [ht]; decide
  have hlet := word_letter hne
  obtain ⟨hdg, hqu, hpa⟩ := letter_not hlet
  have hm : markAt s i ⟨#[40]⟩ < 0 := by
    by_cases hm : 0 ≤ markAt s i ⟨#[40]⟩
    · have hb := mark_byte h0 hm
      rw [show ((40 : UInt8).toNat : Int) = 40 from rfl] at hb
      rw [hpa] at hb; cases hb
    · omega
  obtain ⟨hwe, hws⟩ := word_end h0 hne
  have hglt := hk_lt h
  have hB := Lib.hid (box_new h)
  have hgne : w.heap.size ≠ g := by omega
  have HA := Lib.hid (eahead_any s i pl 0 g _ hB.out.1 h0 hs)
  have HW := Lib.hid (eword_any s i pl 0 g _ hB.out.1 h0 h1 hs)
  have hb0 := blanks_ge0 s i h0
  have gc := cell_blk hB.out.1
  have gcf := frozen_blk hB.out.1
  have hbt := bt_at s (blanks s i)
  have hpm : pmark s i ⟨#[40]⟩ = markAt s i ⟨#[40]⟩ := pmark_nl (by decide +kernel)
  have HM := Lib.hid (fun n => emark_no s ⟨#[40]⟩ i pl g ((w.alloc (.cells zero9 52)).drewN n) (pat_drewN hB.out.1 n) h0 h1 hs (by decide) (by rw [hpm]; exact hm))
  have hlt : blanks s i < s.size := letterAt_lt hlet
  have hd : decide (blanks s i < (s.size : Int)) = true := decide_eq_true hlt
  have hr := bt_range s (blanks s i)
  have HD := Lib.hid (fun w => ((show digitB (bt s (blanks s i)) = false by rw [← digit_bt hlt]; exact hdg) ▸ edigit_any (bt s (blanks s i)) w hr.1 hr.2 : Calls Tryz.prog 102 #[.int .u8 (bt s (blanks s i))] w fun e w' => e = .returned (.bool false) ∧ w = w'))
  have hb34 : (bt s (blanks s i) == 34) = false := by simpa [isAt, hlt] using hqu
  have HWE := Lib.hid hwe
  clear h hm hpm hdg hqu hpa hlet hr hwe hne
  generalize wordAt s i = t at *
  generalize wordAtEnd s i = e1 at *
  generalize blanks s i = q at *
  have hwr : IntKind.i64.wrap (q + (t.size : Int)) = q + (t.size : Int) := by rw [IntKind.wrap_i64]; omega
  subst ht
  have hwr2 : IntKind.i64.wrap (q + 4) = q + 4 := hwr
  go_enter Tryz.func178, Tryz.ntmps178
  go_upto_region 16 with (first
    | (go_at_call 46; refine HA.out.mono ?_; rintro e w' ⟨rfl, rfl⟩)
    | (go_at_call 57; refine HW.out.mono ?_; rintro e w' ⟨rfl, n, rfl⟩)
    | (go_at_call 102; refine (HD.out _).mono ?_; rintro e w' ⟨rfl, rfl⟩)
    | (go_at_call 93; refine (HM.out _).mono ?_; rintro e w' ⟨rfl, m, rfl⟩))
  refine abs_world (F := fun W => Box s i pl 0 g w.heap.size w W) ⟨pat_drewN hB.out.1 _, hB.out.2.1.drewN _, hB.out.2.2⟩ (fun W hW => ?_)
  have HBW := Lib.hid hW
  clear gc gcf hW
  have gc := cell_blk HBW.out.1
  have gcf := frozen_blk HBW.out.1
  have gb := cell_blk HBW.out.2.2
  have gbf := frozen_blk HBW.out.2.2
  have HB1 := Lib.hid (HBW.out.at (j := q + 4) hgne)
  go_wp2_with fail
  refine abs_post (F := fun W => W.heap[w.heap.size]? = some (.cells #[.string thisS, .string eS, .int .i64 0, .bool false, .int .i64 0, .string eS, .slice none 0 0, .slice none 0 0, .slice none 0 0] 52 (0, 0)) ∧ PAt s (q + 4) pl 0 g W ∧ Keeps [g] w W) (HB1.out.lay hgne (Nat.le_refl _) _ _ _ _ _ _ _ _ _) (fun W hW => ?_)
  have cr := cell_blk hW.1
  exact bodyPost_ret (v := (XT.mk thisS eS VT.zero []).agg (.slice none 0 0) (.slice none 0 0) (.slice none 0 0)) (by simp [results, Tryz.results178, go_sem, cr]; exact ⟨rfl, rfl, rfl, rfl, rfl, rfl⟩) rfl (psays_ok s pl g w rfl (leaf_xrep _ _ _ _ _ _ _ _) (by have e2 : e1 = q + 4 := HWE.out; rw [e2]; exact hW.2.1) hW.2.2)
set_option maxRecDepth 20000 in
set_option maxHeartbeats 1000000 in
theorem eone_true (h : PAt s i pl 0 g w) (h0 : 0 ≤ i) (h1 : i ≤ s.size) (hs : s.size ≤ 1000000) (ht : wordAt s i = trueS) :
    Calls Tryz.prog 178 #[.pointer (some ⟨g, 0, none⟩)] w (PSays s (.ok (litT (boolV true)) (wordAtEnd s i)) pl g w) := by
  have hne : wordAt s i ≠ eS := by rw [ht]; decide
  have hlet := word_letter hne
  obtain ⟨hdg, hqu, hpa⟩ := letter_not hlet
  have hm : markAt s i ⟨#[40]⟩ < 0 := by
    by_cases hm : 0 ≤ markAt s i ⟨#[40]⟩
    · have hb := mark_byte h0 hm
      rw [show ((40 : UInt8).toNat : Int) = 40 from rfl] at hb
      rw [hpa] at hb; cases hb
    · omega
  obtain ⟨hwe, hws⟩ := word_end h0 hne
  have hglt := hk_lt h
  have hB := Lib.hid (box_new h)
  have hgne : w.heap.size ≠ g := by omega
  have HA := Lib.hid (eahead_any s i pl 0 g _ hB.out.1 h0 hs)
  have HW := Lib.hid (eword_any s i pl 0 g _ hB.out.1 h0 h1 hs)
  have hb0 := blanks_ge0 s i h0
  have gc := cell_blk hB.out.1
  have gcf := frozen_blk hB.out.1
  have hbt := bt_at s (blanks s i)
  have hpm : pmark s i ⟨#[40]⟩ = markAt s i ⟨#[40]⟩ := pmark_nl (by decide +kernel)
  have HM := Lib.hid (fun n => emark_no s ⟨#[40]⟩ i pl g ((w.alloc (.cells zero9 52)).drewN n) (pat_drewN hB.out.1 n) h0 h1 hs (by decide) (by rw [hpm]; exact hm))
  have hlt : blanks s i < s.size := letterAt_lt hlet
  have hd : decide (blanks s i < (s.size : Int)) = true := decide_eq_true hlt
  have hr := bt_range s (blanks s i)
  have HD := Lib.hid (fun w => ((show digitB (bt s (blanks s i)) = false by rw [← digit_bt hlt]; exact hdg) ▸ edigit_any (bt s (blanks s i)) w hr.1 hr.2 : Calls Tryz.prog 102 #[.int .u8 (bt s (blanks s i))] w fun e w' => e = .returned (.bool false) ∧ w = w'))
  have hb34 : (bt s (blanks s i) == 34) = false := by simpa [isAt, hlt] using hqu
  have HWE := Lib.hid hwe
  clear h hm hpm hdg hqu hpa hlet hr hwe hne
  generalize wordAt s i = t at *
  generalize wordAtEnd s i = e1 at *
  generalize blanks s i = q at *
  have hwr : IntKind.i64.wrap (q + (t.size : Int)) = q + (t.size : Int) := by rw [IntKind.wrap_i64]; omega
  subst ht
  have hwr2 : IntKind.i64.wrap (q + 4) = q + 4 := hwr
  go_enter Tryz.func178, Tryz.ntmps178
  go_upto_region 16 with (first
    | (go_at_call 46; refine HA.out.mono ?_; rintro e w' ⟨rfl, rfl⟩)
    | (go_at_call 57; refine HW.out.mono ?_; rintro e w' ⟨rfl, n, rfl⟩)
    | (go_at_call 102; refine (HD.out _).mono ?_; rintro e w' ⟨rfl, rfl⟩)
    | (go_at_call 93; refine (HM.out _).mono ?_; rintro e w' ⟨rfl, m, rfl⟩))
  refine abs_world (F := fun W => Box s i pl 0 g w.heap.size w W) ⟨pat_drewN hB.out.1 _, hB.out.2.1.drewN _, hB.out.2.2⟩ (fun W hW => ?_)
  have HBW := Lib.hid hW
  clear gc gcf hW
  have gc := cell_blk HBW.out.1
  have gcf := frozen_blk HBW.out.1
  have gb := cell_blk HBW.out.2.2
  have gbf := frozen_blk HBW.out.2.2
  have HB1 := Lib.hid (HBW.out.at (j := q + 4) hgne)
  go_wp2_with fail
  refine (vtruth_any _ _).mono ?_
  rintro e w2 ⟨rfl, hk2⟩
  have HB2 := Lib.hid (HB1.out.go hk2)
  clear hk2
  go_wp2_with fail
  refine (eliteral_any _ _ _ _ _ _ _ _ _ _ _).mono ?_
  rintro e w3 ⟨rfl, hk3⟩
  have HB3 := Lib.hid (HB2.out.go hk3)
  have gb3 := cell_blk HB3.out.2.2
  have gbf3 := frozen_blk HB3.out.2.2
  clear hk3
  go_wp2
  refine abs_post (F := fun W => W.heap[w.heap.size]? = some (.cells #[.string litS, .string eS, .int .i64 1, .bool true, .int .i64 0, .string eS, .slice none 0 0, .slice none 0 0, .slice none 0 0] 52 (0, 0)) ∧ PAt s (q + 4) pl 0 g W ∧ Keeps [g] w W) (HB3.out.lay hgne (Nat.le_refl _) _ _ _ _ _ _ _ _ _) (fun W hW => ?_)
  have cr := cell_blk hW.1
  exact bodyPost_ret (v := (litT (boolV true)).agg (.slice none 0 0) (.slice none 0 0) (.slice none 0 0)) (by simp [results, Tryz.results178, go_sem, cr]; exact ⟨rfl, rfl, rfl, rfl, rfl, rfl⟩) rfl (psays_ok s pl g w rfl (leaf_xrep _ _ _ _ _ _ _ _) (by have e2 : e1 = q + 4 := HWE.out; rw [e2]; exact hW.2.1) hW.2.2)
set_option maxRecDepth 20000 in
set_option maxHeartbeats 1000000 in
theorem eone_false (h : PAt s i pl 0 g w) (h0 : 0 ≤ i) (h1 : i ≤ s.size) (hs : s.size ≤ 1000000) (ht : wordAt s i = falseS) :
    Calls Tryz.prog 178 #[.pointer (some ⟨g, 0, none⟩)] w (PSays s (.ok (litT (boolV false)) (wordAtEnd s i)) pl g w) := by
  have hne : wordAt s i ≠ eS := by rw [ht]; decide
  have hlet := word_letter hne
  obtain ⟨hdg, hqu, hpa⟩ := letter_not hlet
  have hm : markAt s i ⟨#[40]⟩ < 0 := by
    by_cases hm : 0 ≤ markAt s i ⟨#[40]⟩
    · have hb := mark_byte h0 hm
      rw [show ((40 : UInt8).toNat : Int) = 40 from rfl] at hb
      rw [hpa] at hb; cases hb
    · omega
  obtain ⟨hwe, hws⟩ := word_end h0 hne
  have hglt := hk_lt h
  have hB := Lib.hid (box_new h)
  have hgne : w.heap.size ≠ g := by omega
  have HA := Lib.hid (eahead_any s i pl 0 g _ hB.out.1 h0 hs)
  have HW := Lib.hid (eword_any s i pl 0 g _ hB.out.1 h0 h1 hs)
  have hb0 := blanks_ge0 s i h0
  have gc := cell_blk hB.out.1
  have gcf := frozen_blk hB.out.1
  have hbt := bt_at s (blanks s i)
  have hpm : pmark s i ⟨#[40]⟩ = markAt s i ⟨#[40]⟩ := pmark_nl (by decide +kernel)
  have HM := Lib.hid (fun n => emark_no s ⟨#[40]⟩ i pl g ((w.alloc (.cells zero9 52)).drewN n) (pat_drewN hB.out.1 n) h0 h1 hs (by decide) (by rw [hpm]; exact hm))
  have hlt : blanks s i < s.size := letterAt_lt hlet
  have hd : decide (blanks s i < (s.size : Int)) = true := decide_eq_true hlt
  have hr := bt_range s (blanks s i)
  have HD := Lib.hid (fun w => ((show digitB (bt s (blanks s i)) = false by rw [← digit_bt hlt]; exact hdg) ▸ edigit_any (bt s (blanks s i)) w hr.1 hr.2 : Calls Tryz.prog 102 #[.int .u8 (bt s (blanks s i))] w fun e w' => e = .returned (.bool false) ∧ w = w'))
  have hb34 : (bt s (blanks s i) == 34) = false := by simpa [isAt, hlt] using hqu
  have HWE := Lib.hid hwe
  clear h hm hpm hdg hqu hpa hlet hr hwe hne
  generalize wordAt s i = t at *
  generalize wordAtEnd s i = e1 at *
  generalize blanks s i = q at *
  have hwr : IntKind.i64.wrap (q + (t.size : Int)) = q + (t.size : Int) := by rw [IntKind.wrap_i64]; omega
  subst ht
  have hwr2 : IntKind.i64.wrap (q + 5) = q + 5 := hwr
  go_enter Tryz.func178, Tryz.ntmps178
  go_upto_region 16 with (first
    | (go_at_call 46; refine HA.out.mono ?_; rintro e w' ⟨rfl, rfl⟩)
    | (go_at_call 57; refine HW.out.mono ?_; rintro e w' ⟨rfl, n, rfl⟩)
    | (go_at_call 102; refine (HD.out _).mono ?_; rintro e w' ⟨rfl, rfl⟩)
    | (go_at_call 93; refine (HM.out _).mono ?_; rintro e w' ⟨rfl, m, rfl⟩))
  refine abs_world (F := fun W => Box s i pl 0 g w.heap.size w W) ⟨pat_drewN hB.out.1 _, hB.out.2.1.drewN _, hB.out.2.2⟩ (fun W hW => ?_)
  have HBW := Lib.hid hW
  clear gc gcf hW
  have gc := cell_blk HBW.out.1
  have gcf := frozen_blk HBW.out.1
  have gb := cell_blk HBW.out.2.2
  have gbf := frozen_blk HBW.out.2.2
  have HB1 := Lib.hid (HBW.out.at (j := q + 5) hgne)
  go_wp2_with fail
  refine (vtruth_any _ _).mono ?_
  rintro e w2 ⟨rfl, hk2⟩
  have HB2 := Lib.hid (HB1.out.go hk2)
  clear hk2
  go_wp2_with fail
  refine (eliteral_any _ _ _ _ _ _ _ _ _ _ _).mono ?_
  rintro e w3 ⟨rfl, hk3⟩
  have HB3 := Lib.hid (HB2.out.go hk3)
  have gb3 := cell_blk HB3.out.2.2
  have gbf3 := frozen_blk HB3.out.2.2
  clear hk3
  go_wp2
  refine abs_post (F := fun W => W.heap[w.heap.size]? = some (.cells #[.string litS, .string eS, .int .i64 1, .bool false, .int .i64 0, .string eS, .slice none 0 0, .slice none 0 0, .slice none 0 0] 52 (0, 0)) ∧ PAt s (q + 5) pl 0 g W ∧ Keeps [g] w W) (HB3.out.lay hgne (Nat.le_refl _) _ _ _ _ _ _ _ _ _) (fun W hW => ?_)
  have cr := cell_blk hW.1
  exact bodyPost_ret (v := (litT (boolV false)).agg (.slice none 0 0) (.slice none 0 0) (.slice none 0 0)) (by simp [results, Tryz.results178, go_sem, cr]; exact ⟨rfl, rfl, rfl, rfl, rfl, rfl⟩) rfl (psays_ok s pl g w rfl (leaf_xrep _ _ _ _ _ _ _ _) (by have e2 : e1 = q + 5 := HWE.out; rw [e2]; exact hW.2.1) hW.2.2)
set_option maxRecDepth 20000 in
set_option maxHeartbeats 1000000 in
theorem eone_null (h : PAt s i pl 0 g w) (h0 : 0 ≤ i) (h1 : i ≤ s.size) (hs : s.size ≤ 1000000) (ht : wordAt s i = nullS) :
    Calls Tryz.prog 178 #[.pointer (some ⟨g, 0, none⟩)] w (PSays s (.ok (litT VT.zero) (wordAtEnd s i)) pl g w) := by
  have hne : wordAt s i ≠ eS := by rw [ht]; decide
  have hlet := word_letter hne
  obtain ⟨hdg, hqu, hpa⟩ := letter_not hlet
  have hm : markAt s i ⟨#[40]⟩ < 0 := by
    by_cases hm : 0 ≤ markAt s i ⟨#[40]⟩
    · have hb := mark_byte h0 hm
      rw [show ((40 : UInt8).toNat : Int) = 40 from rfl] at hb
      rw [hpa] at hb; cases hb
    · omega
  obtain ⟨hwe, hws⟩ := word_end h0 hne
  have hglt := hk_lt h
  have hB := Lib.hid (box_new h)
  have hgne : w.heap.size ≠ g := by omega
  have HA := Lib.hid (eahead_any s i pl 0 g _ hB.out.1 h0 hs)
  have HW := Lib.hid (eword_any s i pl 0 g _ hB.out.1 h0 h1 hs)
  have hb0 := blanks_ge0 s i h0
  have gc := cell_blk hB.out.1
  have gcf := frozen_blk hB.out.1
  have hbt := bt_at s (blanks s i)
  have hpm : pmark s i ⟨#[40]⟩ = markAt s i ⟨#[40]⟩ := pmark_nl (by decide +kernel)
  have HM := Lib.hid (fun n => emark_no s ⟨#[40]⟩ i pl g ((w.alloc (.cells zero9 52)).drewN n) (pat_drewN hB.out.1 n) h0 h1 hs (by decide) (by rw [hpm]; exact hm))
  have hlt : blanks s i < s.size := letterAt_lt hlet
  have hd : decide (blanks s i < (s.size : Int)) = true := decide_eq_true hlt
  have hr := bt_range s (blanks s i)
  have HD := Lib.hid (fun w => ((show digitB (bt s (blanks s i)) = false by rw [← digit_bt hlt]; exact hdg) ▸ edigit_any (bt s (blanks s i)) w hr.1 hr.2 : Calls Tryz.prog 102 #[.int .u8 (bt s (blanks s i))] w fun e w' => e = .returned (.bool false) ∧ w = w'))
  have hb34 : (bt s (blanks s i) == 34) = false := by simpa [isAt, hlt] using hqu
  have HWE := Lib.hid hwe
  clear h hm hpm hdg hqu hpa hlet hr hwe hne
  generalize wordAt s i = t at *
  generalize wordAtEnd s i = e1 at *
  generalize blanks s i = q at *
  have hwr : IntKind.i64.wrap (q + (t.size : Int)) = q + (t.size : Int) := by rw [IntKind.wrap_i64]; omega
  subst ht
  have hwr2 : IntKind.i64.wrap (q + 4) = q + 4 := hwr
  go_enter Tryz.func178, Tryz.ntmps178
  go_upto_region 16 with (first
    | (go_at_call 46; refine HA.out.mono ?_; rintro e w' ⟨rfl, rfl⟩)
    | (go_at_call 57; refine HW.out.mono ?_; rintro e w' ⟨rfl, n, rfl⟩)
    | (go_at_call 102; refine (HD.out _).mono ?_; rintro e w' ⟨rfl, rfl⟩)
    | (go_at_call 93; refine (HM.out _).mono ?_; rintro e w' ⟨rfl, m, rfl⟩))
  refine abs_world (F := fun W => Box s i pl 0 g w.heap.size w W) ⟨pat_drewN hB.out.1 _, hB.out.2.1.drewN _, hB.out.2.2⟩ (fun W hW => ?_)
  have HBW := Lib.hid hW
  clear gc gcf hW
  have gc := cell_blk HBW.out.1
  have gcf := frozen_blk HBW.out.1
  have gb := cell_blk HBW.out.2.2
  have gbf := frozen_blk HBW.out.2.2
  have HB1 := Lib.hid (HBW.out.at (j := q + 4) hgne)
  go_wp2_with fail
  refine (eliteral_any _ _ _ _ _ _ _ _ _ _ _).mono ?_
  rintro e w3 ⟨rfl, hk3⟩
  have HB3 := Lib.hid (HB1.out.go hk3)
  have gb3 := cell_blk HB3.out.2.2
  have gbf3 := frozen_blk HB3.out.2.2
  clear hk3
  go_wp2
  refine abs_post (F := fun W => W.heap[w.heap.size]? = some (.cells #[.string litS, .string eS, .int .i64 0, .bool false, .int .i64 0, .string eS, .slice none 0 0, .slice none 0 0, .slice none 0 0] 52 (0, 0)) ∧ PAt s (q + 4) pl 0 g W ∧ Keeps [g] w W) (HB3.out.lay hgne (Nat.le_refl _) _ _ _ _ _ _ _ _ _) (fun W hW => ?_)
  have cr := cell_blk hW.1
  exact bodyPost_ret (v := (litT VT.zero).agg (.slice none 0 0) (.slice none 0 0) (.slice none 0 0)) (by simp [results, Tryz.results178, go_sem, cr]; exact ⟨rfl, rfl, rfl, rfl, rfl, rfl⟩) rfl (psays_ok s pl g w rfl (leaf_xrep _ _ _ _ _ _ _ _) (by have e2 : e1 = q + 4 := HWE.out; rw [e2]; exact hW.2.1) hW.2.2)
set_option maxRecDepth 20000 in
set_option maxHeartbeats 1000000 in
theorem eone_call (h : PAt s i pl 0 g w) (h0 : 0 ≤ i) (h1 : i ≤ s.size) (hs : s.size ≤ 1000000) (r : Res) (ha : 0 < argsN (wordAt s i))
    (HC0 : ∀ W, PAt s (wordAtEnd s i) pl 0 g W → Keeps [g] w W → Calls Tryz.prog 186 #[.pointer (some ⟨g, 0, none⟩), .string (wordAt s i), .int .i64 (argsN (wordAt s i))] W (PSays s r pl g W)) :
    Calls Tryz.prog 178 #[.pointer (some ⟨g, 0, none⟩)] w (PSays s r pl g w) := by
  have hz := argsN_ne ha
  have hne : wordAt s i ≠ eS := hz.1
  have hlet := word_letter hne
  obtain ⟨hdg, hqu, hpa⟩ := letter_not hlet
  have hm : markAt s i ⟨#[40]⟩ < 0 := by
    by_cases hm : 0 ≤ markAt s i ⟨#[40]⟩
    · have hb := mark_byte h0 hm
      rw [show ((40 : UInt8).toNat : Int) = 40 from rfl] at hb
      rw [hpa] at hb; cases hb
    · omega
  obtain ⟨hwe, hws⟩ := word_end h0 hne
  have hglt := hk_lt h
  have hB := Lib.hid (box_new h)
  have hgne : w.heap.size ≠ g := by omega
  have HA := Lib.hid (eahead_any s i pl 0 g _ hB.out.1 h0 hs)
  have HW := Lib.hid (eword_any s i pl 0 g _ hB.out.1 h0 h1 hs)
  have hb0 := blanks_ge0 s i h0
  have gc := cell_blk hB.out.1
  have gcf := frozen_blk hB.out.1
  have hbt := bt_at s (blanks s i)
  have hpm : pmark s i ⟨#[40]⟩ = markAt s i ⟨#[40]⟩ := pmark_nl (by decide +kernel)
  have HM := Lib.hid (fun n => emark_no s ⟨#[40]⟩ i pl g ((w.alloc (.cells zero9 52)).drewN n) (pat_drewN hB.out.1 n) h0 h1 hs (by decide) (by rw [hpm]; exact hm))
  have hlt : blanks s i < s.size := letterAt_lt hlet
  have hd : decide (blanks s i < (s.size : Int)) = true := decide_eq_true hlt
  have hr := bt_range s (blanks s i)
  have HD := Lib.hid (fun w => ((show digitB (bt s (blanks s i)) = false by rw [← digit_bt hlt]; exact hdg) ▸ edigit_any (bt s (blanks s i)) w hr.1 hr.2 : Calls Tryz.prog 102 #[.int .u8 (bt s (blanks s i))] w fun e w' => e = .returned (.bool false) ∧ w = w'))
  have hb34 : (bt s (blanks s i) == 34) = false := by simpa [isAt, hlt] using hqu
  have HWE := Lib.hid hwe
  have hz0 := wo_nil hne
  have HAR := Lib.hid (earity_any (wordAt s i))
  have ha0 : (0 : Int) < argsN (wordAt s i) := by omega
  have HCX := Lib.hid HC0
  clear h hm hpm hdg hqu hpa hlet hr hwe hne ha HC0
  generalize wordAt s i = t at *
  generalize wordAtEnd s i = e1 at *
  generalize blanks s i = q at *
  have hwr : IntKind.i64.wrap (q + (t.size : Int)) = q + (t.size : Int) := by rw [IntKind.wrap_i64]; omega
  have z1 := tl_ne (l := [111, 114]) hz.2.1
  have z2 := tl_ne (l := [97, 110, 100]) hz.2.2.1
  have z3 := tl_ne (l := [110, 111, 116]) hz.2.2.2.1
  have z4 := tl_ne (l := [116, 114, 117, 101]) hz.2.2.2.2.1
  have z5 := tl_ne (l := [102, 97, 108, 115, 101]) hz.2.2.2.2.2.1
  have z6 := tl_ne (l := [110, 117, 108, 108]) hz.2.2.2.2.2.2.1
  have z7 := tl_ne (l := [116, 104, 105, 115]) hz.2.2.2.2.2.2.2
  clear hz
  go_enter Tryz.func178, Tryz.ntmps178
  go_upto_region 16 with (first
    | (go_at_call 46; refine HA.out.mono ?_; rintro e w' ⟨rfl, rfl⟩)
    | (go_at_call 57; refine HW.out.mono ?_; rintro e w' ⟨rfl, n, rfl⟩)
    | (go_at_call 102; refine (HD.out _).mono ?_; rintro e w' ⟨rfl, rfl⟩)
    | (go_at_call 93; refine (HM.out _).mono ?_; rintro e w' ⟨rfl, m, rfl⟩))
  refine abs_world (F := fun W => Box s i pl 0 g w.heap.size w W) ⟨pat_drewN hB.out.1 _, hB.out.2.1.drewN _, hB.out.2.2⟩ (fun W hW => ?_)
  have HBW := Lib.hid hW
  clear gc gcf hW
  have gc := cell_blk HBW.out.1
  have gcf := frozen_blk HBW.out.1
  have gb := cell_blk HBW.out.2.2
  have gbf := frozen_blk HBW.out.2.2
  have HB1 := Lib.hid (HBW.out.at (j := q + t.size) hgne)
  go_wp2_with (go_at_call 52; refine (HAR.out _).mono ?_; rintro e w' ⟨rfl, rfl⟩)
  refine (HCX.out _ (by rw [HWE.out]; exact HB1.out.1) (by exact HB1.out.2.1)).mono ?_
  rintro e w1 hx
  obtain ⟨T, vi, vk, va, rfl, hrep, hk1, hm⟩ := psays_at hx
  obtain ⟨a1, c1, a2, c2, a3, c3, rfl, rfl, rfl⟩ := xrep_shape hrep
  have HB2 : Hid (w1.heap[w.heap.size]? = some (.cells zero9 52 (0, 0))) := Lib.hid (hk1.heap HB1.out.2.2 (by simpa using hgne))
  have HX := Lib.hid (lay_says (b := w.heap.size) (w := w) HB1.out.2.1 (Nat.le_refl _) (hk_lt HB1.out.2.2) hgne hrep hk1 hm)
  have gb3 := cell_blk HB2.out
  have gbf3 := frozen_blk HB2.out
  clear hx hrep hk1 hm
  go_wp2
  refine abs_post (F := fun W => W.heap[w.heap.size]? = some (.cells (T.nine (.slice a1 T.lit.its.length c1) (.slice a2 T.lit.ks.length c2) (.slice a3 T.args.length c3)) 52 (0, 0)) ∧ T.Rep W (w.heap.size ≤ ·) (.slice a1 T.lit.its.length c1) (.slice a2 T.lit.ks.length c2) (.slice a3 T.args.length c3) ∧ Keeps [g] w W ∧ At s r pl g T W) ⟨blk_sets9 HB2.out _ _ _ _ _ _ _ _ _, HX.out _ _ _ _ _ _ _ _ _⟩ (fun W hW => ?_)
  have cr := cell_blk hW.1
  exact bodyPost_ret (v := T.agg (.slice a1 T.lit.its.length c1) (.slice a2 T.lit.ks.length c2) (.slice a3 T.args.length c3)) (by simp [results, Tryz.results178, go_sem, cr]) rfl (at_psays rfl hW.2.1 hW.2.2.1 hW.2.2.2)
end
end Go.Proofs.YtdlkdecigpaaaaaGreatDoor
namespace Go.Proofs.YtdlkdecigpaaaaaGreatDoor
set_option linter.unusedVariables false
set_option linter.unusedSimpArgs false
open Go.RowKit

/-- A call in whatever world of which these facts hold. -/
theorem abs_calls {P : Program} {f : FuncId} {args : Array Value} {Q : Ending → World → Prop} {W : World} (F : World → Prop) (hF : F W) (h : ∀ W', F W' → Calls P f args W' Q) : Calls P f args W Q := h W hF
section
variable (s : ByteArray) (i pl : Int) (g : Nat) (w : World) (r r3 : Res)
set_option maxRecDepth 20000 in
set_option maxHeartbeats 1000000 in
theorem eone_in (h : PAt s i pl 0 g w) (h0 : 0 ≤ i) (h1 : i ≤ s.size) (hs : s.size ≤ 1000000) (hm : 0 ≤ markAt s i ⟨#[40]⟩) (hr3 : Par s (.lev 0) (markAt s i ⟨#[40]⟩) r3)
    (he3 : ∀ p c, r3 = .err p c → r = .err p c ∧ c ≠ 0) (ho3 : ∀ U p, r3 = .ok U p → (markAt s p ⟨#[41]⟩ < 0 ∧ r = .err (blanks s p) 1) ∨ (0 ≤ markAt s p ⟨#[41]⟩ ∧ r = .ok U (markAt s p ⟨#[41]⟩)))
    (HO : ∀ (i' : Int) (r' : Res) (W : World), i < i' → i' ≤ s.size → Par s (.lev 0) i' r' → PAt s i' pl 0 g W → Keeps [g] w W → Calls Tryz.prog 45 #[.pointer (some ⟨g, 0, none⟩)] W (PSays s r' pl g W)) :
    Calls Tryz.prog 178 #[.pointer (some ⟨g, 0, none⟩)] w (PSays s r pl g w) := by
  have hby := mark_byte h0 hm
  rw [show ((40 : UInt8).toNat : Int) = 40 from rfl] at hby
  have hlt : blanks s i < s.size := isAt_lt hby
  have hb40 : bt s (blanks s i) = 40 := by simp only [isAt, Bool.and_eq_true, beq_iff_eq] at hby; exact hby.2
  have hmp := mark_pos hm (by decide)
  have hglt := hk_lt h
  have hB := Lib.hid (box_new h)
  have hgne : w.heap.size ≠ g := by omega
  have HA := Lib.hid (eahead_any s i pl 0 g _ hB.out.1 h0 hs)
  have HW := Lib.hid (eword_any s i pl 0 g _ hB.out.1 h0 h1 hs)
  have hb0 := blanks_ge0 s i h0
  have gc := cell_blk hB.out.1
  have gcf := frozen_blk hB.out.1
  have hbt := bt_at s (blanks s i)
  have hpm : pmark s i ⟨#[40]⟩ = markAt s i ⟨#[40]⟩ := pmark_nl (by decide +kernel)
  have hM := fun n => emark_yes s ⟨#[40]⟩ i pl g ((w.alloc (.cells zero9 52)).drewN n) (pat_drewN hB.out.1 n) h0 h1 hs (by decide) (by decide) (by rw [hpm]; exact hm)
  rw [hpm] at hM
  have HM := Lib.hid hM
  have hd : decide (blanks s i < (s.size : Int)) = true := decide_eq_true hlt
  have HD := Lib.hid (fun w => (edigit_any 40 w (by omega) (by omega) : Calls Tryz.prog 102 #[.int .u8 40] w fun e w' => e = .returned (.bool false) ∧ w = w'))
  rw [hb40] at hbt
  have HR3 := Lib.hid hr3
  have HE3 := Lib.hid he3
  have HO3 := Lib.hid ho3
  have HOX := Lib.hid HO
  clear h hm hpm hM hby hb40 hr3 he3 ho3 HO
  generalize wordAt s i = t at *
  generalize markAt s i ⟨#[40]⟩ = e1 at *
  generalize blanks s i = q at *
  go_enter Tryz.func178, Tryz.ntmps178
  go_wp2_with (first
    | (go_at_call 46; refine HA.out.mono ?_; rintro e w' ⟨rfl, rfl⟩)
    | (go_at_call 57; refine HW.out.mono ?_; rintro e w' ⟨rfl, n, rfl⟩)
    | (go_at_call 102; refine (HD.out _).mono ?_; rintro e w' ⟨rfl, rfl⟩)
    | (go_at_call 93; refine (HM.out _).mono ?_; rintro e w3 ⟨rfl, hp3, hk3⟩; have H3 := Lib.hid (Box.to (b := w.heap.size) (w := w) (w1 := (w.alloc (.cells zero9 52)).drewN _) ⟨pat_drewN hB.out.1 _, hB.out.2.1.drewN _, hB.out.2.2⟩ hgne hk3 hp3); clear hp3 hk3))
  refine (HOX.out e1 r3 w3 hmp.1 hmp.2 HR3.out H3.out.1 H3.out.2.1).mono ?_
  rintro e2 w4 hx
  obtain ⟨T, vi, vk, va, rfl, hrep, hk1, hm1⟩ := psays_at hx
  obtain ⟨a1, c1, a2, c2, a3, c3, rfl, rfl, rfl⟩ := xrep_shape hrep
  have HV := Lib.hid (varx_new (w := w) H3.out.2.2 H3.out.2.1 hglt hrep hk1 hm1)
  have hwz : w.heap.size < w4.heap.size := Nat.lt_of_lt_of_le (hk_lt H3.out.2.2) hk1.size
  clear hx hrep hk1 hm1 gc gcf
  go_wp2_with fail
  refine abs_calls (F := fun W => VarX s r3 pl g w4.heap.size T (.slice a1 T.lit.its.length c1) (.slice a2 T.lit.ks.length c2) (.slice a3 T.args.length c3) w W) HV.out (fun W6 HW6 => ?_)
  have H6 := Lib.hid HW6
  clear HW6 HV
  cases r3 with
  | err p' c' =>
    obtain ⟨hre, hc'⟩ := HE3.out p' c' rfl
    have HRE := Lib.hid hre
    obtain ⟨a, ha0, ha1, hpa⟩ : ∃ a : Int, 0 ≤ a ∧ a ≤ s.size ∧ PAt s a p' c' g W6 := H6.out.at_
    refine (eneed_fail s a p' g W6 ⟨#[41]⟩ c' hpa ha0 hs hc').mono ?_
    rintro e' w' ⟨rfl, rfl⟩
    have gb3 := cell_blk H6.out.blk
    have gb4 := cell_blk H6.out.box
    have gbf4 := frozen_blk H6.out.box
    have HE := Lib.hid (H6.out.ret hglt)
    clear hpa hre hc'
    go_wp2_with fail
    refine abs_post (F := fun W => ToldX s (.err p' c') pl g w.heap.size T (.slice a1 T.lit.its.length c1) (.slice a2 T.lit.ks.length c2) (.slice a3 T.args.length c3) w W) HE.out (fun W hW => ?_)
    have cr := cell_blk hW.blk
    exact bodyPost_ret (v := T.agg (.slice a1 T.lit.its.length c1) (.slice a2 T.lit.ks.length c2) (.slice a3 T.args.length c3)) (by simp [results, Tryz.results178, go_sem, cr]) rfl (HRE.out ▸ at_psays rfl hW.rep hW.keeps hW.at_)
  | ok U p' =>
    obtain ⟨hT, hpa⟩ : T = U ∧ PAt s p' pl 0 g W6 := H6.out.at_
    subst hT
    have hpq := par_pos HR3.out (by omega) hmp.2
    have hpp1 : e1 < p' := hpq.2
    have hpp2 : p' ≤ s.size := hpq.1.2
    have hpm : pmark s p' ⟨#[41]⟩ = markAt s p' ⟨#[41]⟩ := pmark_nl (by decide +kernel)
    clear hpq
    rcases HO3.out T p' rfl with ⟨hno, hre⟩ | ⟨hy, hre⟩
    · have HRE := Lib.hid hre
      refine (eneed_no s p' pl g W6 ⟨#[41]⟩ hpa (by omega) hpp2 hs (by decide) (by rw [hpm]; exact hno)).mono ?_
      rintro e' w7 ⟨rfl, hp7, hk7⟩
      have H7 := Lib.hid (H6.out.go hk7 (show At s (.err (blanks s p') 1) pl g T w7 from (show ∃ a : Int, 0 ≤ a ∧ a ≤ s.size ∧ PAt s a (blanks s p') 1 g w7 from ⟨p', by omega, hpp2, hp7⟩)) hglt hwz)
      have gb3 := cell_blk H7.out.blk
      have gb4 := cell_blk H7.out.box
      have gbf4 := frozen_blk H7.out.box
      have HE := Lib.hid (H7.out.ret hglt)
      clear hpa hre hp7 hk7 hno
      go_wp2_with fail
      refine abs_post (F := fun W => ToldX s (.err (blanks s p') 1) pl g w.heap.size T (.slice a1 T.lit.its.length c1) (.slice a2 T.lit.ks.length c2) (.slice a3 T.args.length c3) w W) HE.out (fun W hW => ?_)
      have cr := cell_blk hW.blk
      exact bodyPost_ret (v := T.agg (.slice a1 T.lit.its.length c1) (.slice a2 T.lit.ks.length c2) (.slice a3 T.args.length c3)) (by simp [results, Tryz.results178, go_sem, cr]) rfl (HRE.out ▸ at_psays rfl hW.rep hW.keeps hW.at_)
    · have HRE := Lib.hid hre
      have hY := eneed_yes s p' pl g W6 ⟨#[41]⟩ hpa (by omega) hpp2 hs (by decide) (by decide) (by rw [hpm]; exact hy)
      rw [hpm] at hY
      refine hY.mono ?_
      rintro e' w7 ⟨rfl, hp7, hk7⟩
      have H7 := Lib.hid (H6.out.go hk7 (show At s (.ok T (markAt s p' ⟨#[41]⟩)) pl g T w7 from ⟨rfl, hp7⟩) hglt hwz)
      have gb3 := cell_blk H7.out.blk
      have gb4 := cell_blk H7.out.box
      have gbf4 := frozen_blk H7.out.box
      have HE := Lib.hid (H7.out.ret hglt)
      clear hpa hre hp7 hk7 hy hY
      go_wp2_with fail
      refine abs_post (F := fun W => ToldX s (.ok T (markAt s p' ⟨#[41]⟩)) pl g w.heap.size T (.slice a1 T.lit.its.length c1) (.slice a2 T.lit.ks.length c2) (.slice a3 T.args.length c3) w W) HE.out (fun W hW => ?_)
      have cr := cell_blk hW.blk
      exact bodyPost_ret (v := T.agg (.slice a1 T.lit.its.length c1) (.slice a2 T.lit.ks.length c2) (.slice a3 T.args.length c3)) (by simp [results, Tryz.results178, go_sem, cr]) rfl (HRE.out ▸ at_psays rfl hW.rep hW.keeps hW.at_)
end
end Go.Proofs.YtdlkdecigpaaaaaGreatDoor
namespace Go.Proofs.YtdlkdecigpaaaaaGreatDoor
set_option linter.unusedVariables false
set_option linter.unusedSimpArgs false
open Go.RowKit

theorem not_marks {s : ByteArray} {i : Int} {r : Res} (h : Par s (.lev 2) i r) (h0 : 0 ≤ i) : ∃ k e0 r0, Marks s notS k i e0 ∧ Par s (.lev 3) e0 r0 ∧ r = upN notS k r0 := by
  generalize hG : G.lev 2 = G' at h
  induction h with
  | not_on hw _ ih =>
    have hp := (pmark_word (s := s) (t := notS) (by decide +kernel) (by decide) h0).1 hw
    have hpos := pmark_pos hp.1 (by decide)
    obtain ⟨k, e0, r0, h1, h2, h3⟩ := ih (by rw [← hp.2]; omega) rfl
    exact ⟨k + 1, e0, r0, ⟨hp.1, by rw [hp.2]; exact h1⟩, h2, by rw [h3]; rfl⟩
  | not_no hw h _ => exact ⟨0, _, _, ⟨rfl, (pmark_word (s := s) (t := notS) (by decide +kernel) (by decide) h0).2 hw⟩, h, rfl⟩
  | lev_err hn => cases hG; unfold lv at hn; omega
  | lev_ok hn => cases hG; unfold lv at hn; omega
  | _ => cases hG
theorem neg_marks {s : ByteArray} {i : Int} {r : Res} (h : Par s (.lev 6) i r) (h0 : 0 ≤ i) : ∃ k e0 r0, Marks s ⟨#[45]⟩ k i e0 ∧ Par s .part e0 r0 ∧ r = upN negS k r0 := by
  generalize hG : G.lev 6 = G' at h
  induction h with
  | neg_on hm _ ih =>
    obtain ⟨k, e0, r0, h1, h2, h3⟩ := ih (by omega) rfl
    have hp : ∀ j, pmark s j ⟨#[45]⟩ = markAt s j ⟨#[45]⟩ := fun j => pmark_nl (by decide +kernel)
    exact ⟨k + 1, e0, r0, ⟨by rw [hp]; exact hm, by rw [hp]; exact h1⟩, h2, by rw [h3]; rfl⟩
  | neg_no hm h _ =>
    have hp : ∀ j, pmark s j ⟨#[45]⟩ = markAt s j ⟨#[45]⟩ := fun j => pmark_nl (by decide +kernel)
    exact ⟨0, _, _, ⟨rfl, by rw [hp]; exact hm⟩, h, rfl⟩
  | lev_err hn => cases hG; unfold lv at hn; omega
  | lev_ok hn => cases hG; unfold lv at hn; omega
  | _ => cases hG
/-- The function that reads what is looked for. -/
def kf : G → Option Nat
  | .lev 0 => some 45
  | .lev 1 => some 74
  | .lev 2 => some 94
  | .lev 3 => some 133
  | .lev 4 => some 153
  | .lev 5 => some 162
  | .lev 6 => some 170
  | .part => some 175
  | .one => some 178
  | _ => none
theorem wordR_err {s : ByteArray} {i : Int} (h : wordAt s i = eS ∨ wordAt s i = orS ∨ wordAt s i = andS ∨ wordAt s i = notS) : wordR s i = .err (blanks s i) 1 := by
  unfold wordR
  rcases h with h | h | h | h <;> rw [h] <;> rfl
theorem wordR_var {s : ByteArray} {i : Int} (hne : wordAt s i ≠ eS) (hr : memL (wordAt s i) resL = false) : wordR s i = .ok (.mk varS (wordAt s i) VT.zero []) (wordAtEnd s i) := by
  have hz := res_ne hr
  unfold wordR
  rw [if_neg hz.2.2.2.1, if_neg hz.2.2.2.2.1, if_neg hz.2.2.2.2.2.1, if_neg hz.2.2.2.2.2.2, if_neg (by rintro (h | h); exact hne h; rw [hr] at h; cases h)]
theorem mem_res {t : ByteArray} (h : memL t resL = true) : t = orS ∨ t = andS ∨ t = notS ∨ t = trueS ∨ t = falseS ∨ t = nullS ∨ t = thisS := by
  rw [memL_iff] at h; simpa [resL] using h
theorem eparse_all (s : ByteArray) (pl : Int) (g : Nat) (hs : s.size ≤ 4000) (hg2 : 5 < g) : ∀ (k : Nat) (G' : G) (i : Int) (r : Res) (W : World), meas s G' i ≤ k → 0 ≤ i → i ≤ s.size → Par s G' i r → PAt s i pl 0 g W → VarOk W →
    ∀ K, kf G' = some K → Calls Tryz.prog K #[.pointer (some ⟨g, 0, none⟩)] W (PSays s r pl g W) := by
  intro k
  induction k using Nat.strongRecOn with
  | _ k ih =>
    intro G' i r W hk h0 h1 hr hp hv K hK
    have hs2 : s.size ≤ 1000000 := by omega
    have step : ∀ (G2 : G) (i2 : Int) (r2 : Res) (W2 : World) (K2 : Nat), meas s G2 i2 < meas s G' i → 0 ≤ i2 → i2 ≤ s.size → Par s G2 i2 r2 → PAt s i2 pl 0 g W2 → Keeps [g] W W2 → kf G2 = some K2 → Calls Tryz.prog K2 #[.pointer (some ⟨g, 0, none⟩)] W2 (PSays s r2 pl g W2) :=
      fun G2 i2 r2 W2 K2 hm h2 h3 h4 h5 h6 h7 => ih (meas s G2 i2) (by omega) G2 i2 r2 W2 (Nat.le_refl _) h2 h3 h4 h5 (hv.keeps h6 (by simpa using hg2)) K2 h7
    have far : ∀ (i2 : Int) (r2 : Res) (W2 : World), i < i2 → i2 ≤ s.size → Par s (.lev 0) i2 r2 → PAt s i2 pl 0 g W2 → Keeps [g] W W2 → Calls Tryz.prog 45 #[.pointer (some ⟨g, 0, none⟩)] W2 (PSays s r2 pl g W2) :=
      fun i2 r2 W2 hm h3 h4 h5 h6 => step (.lev 0) i2 r2 W2 _ (by unfold meas; simp only [rank]; cases G' <;> simp [rank] <;> omega) (by omega) h3 h4 h5 h6 rfl
    match G', hK with
    | .lev 0, hK =>
      cases hK
      exact eor_of s i pl g W r hp fun W1 vL p1 k1 l1 => echain_of s i pl g 0 2048 W1 r _ vL _ (enters_of Tryz.func74 (by kernel_rfl) rfl) (.inl rfl) (.inr ⟨by decide, by decide⟩) (by decide) p1 h0 h1 hs hr l1 (fun k hk => by have := hk_lt hp; omega)
        fun i' r' W2 h2 h3 h4 h5 h6 => step (.lev 1) i' r' W2 _ (by unfold meas; simp only [rank]; omega) (by omega) h3 h4 h5 (k1.trans h6) rfl
    | .lev 1, hK =>
      cases hK
      exact eand_of s i pl g W r hp fun W1 vL p1 k1 l1 => echain_of s i pl g 1 2048 W1 r _ vL _ (enters_of Tryz.func94 (by kernel_rfl) rfl) (.inr (.inl rfl)) (.inr ⟨by decide, by decide⟩) (by decide) p1 h0 h1 hs hr l1 (fun k hk => by have := hk_lt hp; omega)
        fun i' r' W2 h2 h3 h4 h5 h6 => step (.lev 2) i' r' W2 _ (by unfold meas; simp only [rank]; omega) (by omega) h3 h4 h5 (k1.trans h6) rfl
    | .lev 2, hK =>
      cases hK
      obtain ⟨m, e0, r0, hm, hr0, rfl⟩ := not_marks hr h0
      have hme := marks_pos (by decide) m hm h1
      exact enot_of s i pl g W _ hp (esigned_of s notS notS i pl e0 g m _ r0 _ (enters_of Tryz.func133 (by kernel_rfl) rfl) (pat_alloc hp _) h0 h1 hs (by decide) (by decide) hm
        fun W2 h5 h6 => step (.lev 3) e0 r0 W2 _ (by unfold meas; simp only [rank]; omega) (by omega) hme.2 hr0 h5 (((Keeps.refl [g] W).alloc _).trans h6) rfl)
    | .lev 3, hK =>
      cases hK
      exact erel_of s i pl g W r hp fun W1 vL p1 k1 l1 => echain_of s i pl g 3 1 W1 r _ vL _ (enters_of Tryz.func153 (by kernel_rfl) rfl) (.inr (.inr (.inl rfl))) (.inl ⟨rfl, rfl⟩) (by decide) p1 h0 h1 hs hr l1 (fun k hk => by have := hk_lt hp; omega)
        fun i' r' W2 h2 h3 h4 h5 h6 => step (.lev 4) i' r' W2 _ (by unfold meas; simp only [rank]; omega) (by omega) h3 h4 h5 (k1.trans h6) rfl
    | .lev 4, hK =>
      cases hK
      exact esum_of s i pl g W r hp fun W1 vL p1 k1 l1 => echain_of s i pl g 4 16384 W1 r _ vL _ (enters_of Tryz.func162 (by kernel_rfl) rfl) (.inr (.inr (.inr (.inl rfl)))) (.inr ⟨by decide, by decide⟩) (by decide) p1 h0 h1 hs hr l1 (fun k hk => by have := hk_lt hp; omega)
        fun i' r' W2 h2 h3 h4 h5 h6 => step (.lev 5) i' r' W2 _ (by unfold meas; simp only [rank]; omega) (by omega) h3 h4 h5 (k1.trans h6) rfl
    | .lev 5, hK =>
      cases hK
      exact eprod_of s i pl g W r hp fun W1 vL p1 k1 l1 => echain_of s i pl g 5 16384 W1 r _ vL _ (enters_of Tryz.func170 (by kernel_rfl) rfl) (.inr (.inr (.inr (.inr rfl)))) (.inr ⟨by decide, by decide⟩) (by decide) p1 h0 h1 hs hr l1 (fun k hk => by have := hk_lt hp; omega)
        fun i' r' W2 h2 h3 h4 h5 h6 => step (.lev 6) i' r' W2 _ (by unfold meas; simp only [rank]; omega) (by omega) h3 h4 h5 (k1.trans h6) rfl
    | .lev 6, hK =>
      cases hK
      obtain ⟨m, e0, r0, hm, hr0, rfl⟩ := neg_marks hr h0
      have hme := marks_pos (by decide) m hm h1
      exact esign_of s i pl g W _ hp (esigned_of s ⟨#[45]⟩ negS i pl e0 g m _ r0 _ (enters_of Tryz.func175 (by kernel_rfl) rfl) (pat_alloc hp _) h0 h1 hs (by decide) (by decide) hm
        fun W2 h5 h6 => step .part e0 r0 W2 _ (by unfold meas; simp only [rank]; omega) (by omega) hme.2 hr0 h5 (((Keeps.refl [g] W).alloc _).trans h6) rfl)
    | .part, hK =>
      cases hK
      exact epart_of s i pl g W r hp hv hg2 h0 h1 hs2 hr (fun r' W2 h4 h5 h6 => step .one i r' W2 _ (by unfold meas; simp only [rank]; omega) h0 h1 h4 h5 h6 rfl) far
    | .one, hK =>
      cases hK
      cases hr with
      | one_num hd => exact eone_num s i pl g W hp hv h0 h1 hs2 hd
      | one_text hq => exact eone_text s i pl g W hp hv hg2 h0 h1 hs2 hq
      | one_err hm hx => exact eone_in s i pl g W _ _ hp h0 h1 hs2 hm hx (fun p c e => (by cases e; exact ⟨rfl, par_code hx⟩)) (fun U p e => (by cases e)) far
      | one_form hm hx hk => exact eone_in s i pl g W _ _ hp h0 h1 hs2 hm hx (fun p c e => (by cases e)) (fun U p e => (by cases e; exact .inl ⟨hk, rfl⟩)) far
      | one_in hm hx hk => exact eone_in s i pl g W _ _ hp h0 h1 hs2 hm hx (fun p c e => (by cases e)) (fun U p e => (by cases e; exact .inr ⟨hk, rfl⟩)) far
      | one_word hd hq hm ha =>
        by_cases hw : wordAt s i = eS ∨ wordAt s i = orS ∨ wordAt s i = andS ∨ wordAt s i = notS
        · rw [wordR_err hw]; exact eone_fail s i pl g W hp h0 h1 hs2 hd hq hm hw
        · cases hb : memL (wordAt s i) resL with
          | false => rw [wordR_var (fun h => hw (.inl h)) hb]; exact eone_var s i pl g W hp h0 h1 hs2 (fun h => hw (.inl h)) ha hb
          | true =>
            rcases mem_res hb with h | h | h | h | h | h | h
            · exact absurd (.inr (.inl h)) hw
            · exact absurd (.inr (.inr (.inl h))) hw
            · exact absurd (.inr (.inr (.inr h))) hw
            · have e : wordR s i = .ok (litT (boolV true)) (wordAtEnd s i) := by unfold wordR; rw [h]; rfl
              rw [e]; exact eone_true s i pl g W hp h0 h1 hs2 h
            · have e : wordR s i = .ok (litT (boolV false)) (wordAtEnd s i) := by unfold wordR; rw [h]; rfl
              rw [e]; exact eone_false s i pl g W hp h0 h1 hs2 h
            · have e : wordR s i = .ok (litT VT.zero) (wordAtEnd s i) := by unfold wordR; rw [h]; rfl
              rw [e]; exact eone_null s i pl g W hp h0 h1 hs2 h
            · have e : wordR s i = .ok (.mk thisS eS VT.zero []) (wordAtEnd s i) := by unfold wordR; rw [h]; rfl
              rw [e]; exact eone_this s i pl g W hp h0 h1 hs2 h
      | one_open ha hm =>
        have hwp := word_pos h0 (argsN_ne ha).1
        exact eone_call s i pl g W hp h0 h1 hs2 _ ha fun W2 h5 h6 => ecall_of s (wordAtEnd s i) pl g W2 _ _ ha h5 (by omega) hwp.2 hs2 (.inl ⟨hm, rfl⟩) fun i' r' W3 h7 h8 h9 h10 h11 => far i' r' W3 (by omega) h8 h9 h10 (h6.trans h11)
      | one_call ha hm hx =>
        have hwp := word_pos h0 (argsN_ne ha).1
        exact eone_call s i pl g W hp h0 h1 hs2 _ ha fun W2 h5 h6 => ecall_of s (wordAtEnd s i) pl g W2 _ _ ha h5 (by omega) hwp.2 hs2 (.inr ⟨hm, hx⟩) fun i' r' W3 h7 h8 h9 h10 h11 => far i' r' W3 (by omega) h8 h9 h10 (h6.trans h11)
end Go.Proofs.YtdlkdecigpaaaaaGreatDoor
