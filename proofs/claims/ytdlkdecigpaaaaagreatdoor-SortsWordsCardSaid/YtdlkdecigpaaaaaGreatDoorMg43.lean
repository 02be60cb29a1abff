/- Put together: The parser's one, at a word; The parser's one, at a word that is a literal, at this, at a call. -/
import Derived.Test.YtdlkdecigpaaaaaGreatDoorMg42
namespace Go.Proofs.YtdlkdecigpaaaaaGreatDoor
set_option linter.unusedVariables false
set_option linter.unusedSimpArgs false
open Go.RowKit

section
variable (s : ByteArray) (i pl : Int) (g : Nat) (w : World)
theorem res_ne {t : ByteArray} (h : memL t resL = false) : t ≠ orS ∧ t ≠ andS ∧ t ≠ notS ∧ t ≠ trueS ∧ t ≠ falseS ∧ t ≠ nullS ∧ t ≠ thisS := by
  refine ⟨?_, ?_, ?_, ?_, ?_, ?_, ?_⟩ <;> (rintro rfl; revert h; decide +kernel)
set_option maxRecDepth 20000 in
set_option maxHeartbeats 1000000 in
theorem eone_var (h : PAt s i pl 0 g w) (h0 : 0 ≤ i) (h1 : i ≤ s.size) (hs : s.size ≤ 1000000) (hne : wordAt s i ≠ eS) (ha : argsN (wordAt s i) = 0) (hres : memL (wordAt s i) resL = false) :
    Calls Tryz.prog 178 #[.pointer (some ⟨g, 0, none⟩)] w (PSays s (.ok (.mk varS (wordAt s i) VT.zero []) (wordAtEnd s i)) pl g w) := by
  have hlet := word_letter hne
  obtain ⟨hdg, hqu, hpa⟩ := letter_not hlet
  have hm : markAt s i ⟨#[40]⟩ < 0 := by
    by_cases hm : 0 ≤ markAt s i ⟨#[40]⟩
    · have hb := mark_byte h0 hm
      rw [show ((40 : UInt8).toNat : Int) = 40 from rfl] at hb
      rw [hpa] at hb; cases hb
    · omega
  obtain ⟨hwe, hws⟩ := word_end h0 hne
  have hglt := hk_lt h
  have hB := Lib.hid (box_new h)
  have hgne : w.heap.size ≠ g := by omega
  have HA := Lib.hid (eahead_any s i pl 0 g _ hB.out.1 h0 hs)
  have HW := Lib.hid (eword_any s i pl 0 g _ hB.out.1 h0 h1 hs)
  have hb0 := blanks_ge0 s i h0
  have gc := cell_blk hB.out.1
  have gcf := frozen_blk hB.out.1
  have hbt := bt_at s (blanks s i)
  have hpm : pmark s i ⟨#[40]⟩ = markAt s i ⟨#[40]⟩ := pmark_nl (by decide +kernel)
  have HM := Lib.hid (fun n => emark_no s ⟨#[40]⟩ i pl g ((w.alloc (.cells zero9 52)).drewN n) (pat_drewN hB.out.1 n) h0 h1 hs (by decide) (by rw [hpm]; exact hm))
  have hlt : blanks s i < s.size := letterAt_lt hlet
  have hd : decide (blanks s i < (s.size : Int)) = true := decide_eq_true hlt
  have hr := bt_range s (blanks s i)
  have HD := Lib.hid (fun w => ((show digitB (bt s (blanks s i)) = false by rw [← digit_bt hlt]; exact hdg) ▸ edigit_any (bt s (blanks s i)) w hr.1 hr.2 : Calls Tryz.prog 102 #[.int .u8 (bt s (blanks s i))] w fun e w' => e = .returned (.bool false) ∧ w = w'))
  have hb34 : (bt s (blanks s i) == 34) = false := by simpa [isAt, hlt] using hqu
  have HWE := Lib.hid hwe
  have hz0 := wo_nil hne
  have hz := res_ne hres
  have har : ∀ w, Calls Tryz.prog 52 #[.string (wordAt s i)] w fun e w' => e = .returned (.int .i64 0) ∧ w = w' := fun w => by have := earity_any (wordAt s i) w; rw [ha] at this; exact this
  have HAR := Lib.hid har
  clear h hm hpm hdg hqu hpa hlet hr hwe hne ha hres har
  generalize wordAt s i = t at *
  generalize wordAtEnd s i = e1 at *
  generalize blanks s i = q at *
  have hwr : IntKind.i64.wrap (q + (t.size : Int)) = q + (t.size : Int) := by rw [IntKind.wrap_i64]; omega
  have z1 := tl_ne (l := [111, 114]) hz.1
  have z2 := tl_ne (l := [97, 110, 100]) hz.2.1
  have z3 := tl_ne (l := [110, 111, 116]) hz.2.2.1
  have z4 := tl_ne (l := [116, 114, 117, 101]) hz.2.2.2.1
  have z5 := tl_ne (l := [102, 97, 108, 115, 101]) hz.2.2.2.2.1
  have z6 := tl_ne (l := [110, 117, 108, 108]) hz.2.2.2.2.2.1
  have z7 := tl_ne (l := [116, 104, 105, 115]) hz.2.2.2.2.2.2
  clear hz
  go_enter Tryz.func178, Tryz.ntmps178
  go_upto_region 16 with (first
    | (go_at_call 46; refine HA.out.mono ?_; rintro e w' ⟨rfl, rfl⟩)
    | (go_at_call 57; refine HW.out.mono ?_; rintro e w' ⟨rfl, n, rfl⟩)
    | (go_at_call 102; refine (HD.out _).mono ?_; rintro e w' ⟨rfl, rfl⟩)
    | (go_at_call 93; refine (HM.out _).mono ?_; rintro e w' ⟨rfl, m, rfl⟩))
  refine abs_world (F := fun W => Box s i pl 0 g w.heap.size w W) ⟨pat_drewN hB.out.1 _, hB.out.2.1.drewN _, hB.out.2.2⟩ (fun W hW => ?_)
  have HBW := Lib.hid hW
  clear gc gcf hW
  have gc := cell_blk HBW.out.1
  have gcf := frozen_blk HBW.out.1
  have gb := cell_blk HBW.out.2.2
  have gbf := frozen_blk HBW.out.2.2
  have HB1 := Lib.hid (HBW.out.at (j := q + t.size) hgne)
  go_wp2_with (go_at_call 52; refine (HAR.out _).mono ?_; rintro e w' ⟨rfl, rfl⟩)
  refine abs_post (F := fun W => W.heap[w.heap.size]? = some (.cells #[.string varS, .string t, .int .i64 0, .bool false, .int .i64 0, .string eS, .slice none 0 0, .slice none 0 0, .slice none 0 0] 52 (0, 0)) ∧ PAt s (q + t.size) pl 0 g W ∧ Keeps [g] w W) (HB1.out.lay hgne (Nat.le_refl _) _ _ _ _ _ _ _ _ _) (fun W hW => ?_)
  have cr := cell_blk hW.1
  exact bodyPost_ret (v := (XT.mk varS t VT.zero []).agg (.slice none 0 0) (.slice none 0 0) (.slice none 0 0)) (by simp [results, Tryz.results178, go_sem, cr]; exact ⟨rfl, rfl, rfl, rfl, rfl, rfl⟩) rfl (psays_ok s pl g w rfl (leaf_xrep _ _ _ _ _ _ _ _) (HWE.out ▸ hW.2.1) hW.2.2)
end
end Go.Proofs.YtdlkdecigpaaaaaGreatDoor
namespace Go.Proofs.YtdlkdecigpaaaaaGreatDoor
set_option linter.unusedVariables false
set_option linter.unusedSimpArgs false
open Go.RowKit

section
variable (s : ByteArray) (i pl : Int) (g : Nat) (w : World)
set_option maxRecDepth 20000 in
set_option maxHeartbeats 1000000 in
theorem eone_this (h : PAt s i pl 0 g w) (h0 : 0 ≤ i) (h1 : i ≤ s.size) (hs : s.size ≤ 1000000) (ht : wordAt s i = thisS) :
    Calls Tryz.prog 178 #[.pointer (some ⟨g, 0, none⟩)] w (PSays s (.ok (.mk thisS eS VT.zero []) (wordAtEnd s i)) pl g w) := by
  have hne : wordAt s i ≠ eS := by rw [ht]; decide
  have hlet := word_letter hne
  obtain ⟨hdg, hqu, hpa⟩ := letter_not hlet
  have hm : markAt s i ⟨#[40]⟩ < 0 := by
    by_cases hm : 0 ≤ markAt s i ⟨#[40]⟩
    · have hb := mark_byte h0 hm
      rw [show ((40 : UInt8).toNat : Int) = 40 from rfl] at hb
      rw [hpa] at hb; cases hb
    · omega
  obtain ⟨hwe, hws⟩ := word_end h0 hne
  have hglt := hk_lt h
  have hB := Lib.hid (box_new h)
  have hgne : w.heap.size ≠ g := by omega
  have HA := Lib.hid (eahead_any s i pl 0 g _ hB.out.1 h0 hs)
  have HW := Lib.hid (eword_any s i pl 0 g _ hB.out.1 h0 h1 hs)
  have hb0 := blanks_ge0 s i h0
  have gc := cell_blk hB.out.1
  have gcf := frozen_blk hB.out.1
  have hbt := bt_at s (blanks s i)
  have hpm : pmark s i ⟨#[40]⟩ = markAt s i ⟨#[40]⟩ := pmark_nl (by decide +kernel)
  have HM := Lib.hid (fun n => emark_no s ⟨#[40]⟩ i pl g ((w.alloc (.cells zero9 52)).drewN n) (pat_drewN hB.out.1 n) h0 h1 hs (by decide) (by rw [hpm]; exact hm))
  have hlt : blanks s i < s.size := letterAt_lt hlet
  have hd : decide (blanks s i < (s.size : Int)) = true := decide_eq_true hlt
  have hr := bt_range s (blanks s i)
  have HD := Lib.hid (fun w => ((show digitB (bt s (blanks s i)) = false by rw [← digit_bt hlt]; exact hdg) ▸ edigit_any (bt s (blanks s i)) w hr.1 hr.2 : Calls Tryz.prog 102 #[.int .u8 (bt s (blanks s i))] w fun e w' => e = .returned (.bool false) ∧ w = w'))
  have hb34 : (bt s (blanks s i) == 34) = false := by simpa [isAt, hlt] using hqu
  have HWE := Lib.hid hwe
  clear h hm hpm hdg hqu hpa hlet hr hwe hne
  generalize wordAt s i = t at *
  generalize wordAtEnd s i = e1 at *
  generalize blanks s i = q at *
  have hwr : IntKind.i64.wrap (q + (t.size : Int)) = q + (t.size : Int) := by rw [IntKind.wrap_i64]; omega
  subst ht
  have hwr2 : IntKind.i64.wrap (q + 4) = q + 4 := hwr
  go_enter Tryz.func178, Tryz.ntmps178
  go_upto_region 16 with (first
    | (go_at_call 46; refine HA.out.mono ?_; rintro e w' ⟨rfl, rfl⟩)
    | (go_at_call 57; refine HW.out.mono ?_; rintro e w' ⟨rfl, n, rfl⟩)
    | (go_at_call 102; refine (HD.out _).mono ?_; rintro e w' ⟨rfl, rfl⟩)
    | (go_at_call 93; refine (HM.out _).mono ?_; rintro e w' ⟨rfl, m, rfl⟩))
  refine abs_world (F := fun W => Box s i pl 0 g w.heap.size w W) ⟨pat_drewN hB.out.1 _, hB.out.2.1.drewN _, hB.out.2.2⟩ (fun W hW => ?_)
  have HBW := Lib.hid hW
  clear gc gcf hW
  have gc := cell_blk HBW.out.1
  have gcf := frozen_blk HBW.out.1
  have gb := cell_blk HBW.out.2.2
  have gbf := frozen_blk HBW.out.2.2
  have HB1 := Lib.hid (HBW.out.at (j := q + 4) hgne)
  go_wp2_with fail
  refine abs_post (F := fun W => W.heap[w.heap.size]? = some (.cells #[.string thisS, .string eS, .int .i64 0, .bool false, .int .i64 0, .string eS, .slice none 0 0, .slice none 0 0, .slice none 0 0] 52 (0, 0)) ∧ PAt s (q + 4) pl 0 g W ∧ Keeps [g] w W) (HB1.out.lay hgne (Nat.le_refl _) _ _ _ _ _ _ _ _ _) (fun W hW => ?_)
  have cr := cell_blk hW.1
  exact bodyPost_ret (v := (XT.mk thisS eS VT.zero []).agg (.slice none 0 0) (.slice none 0 0) (.slice none 0 0)) (by simp [results, Tryz.results178, go_sem, cr]; exact ⟨rfl, rfl, rfl, rfl, rfl, rfl⟩) rfl (psays_ok s pl g w rfl (leaf_xrep _ _ _ _ _ _ _ _) (by have e2 : e1 = q + 4 := HWE.out; rw [e2]; exact hW.2.1) hW.2.2)
set_option maxRecDepth 20000 in
set_option maxHeartbeats 1000000 in
theorem eone_true (h : PAt s i pl 0 g w) (h0 : 0 ≤ i) (h1 : i ≤ s.size) (hs : s.size ≤ 1000000) (ht : wordAt s i = trueS) :
    Calls Tryz.prog 178 #[.pointer (some ⟨g, 0, none⟩)] w (PSays s (.ok (litT (boolV true)) (wordAtEnd s i)) pl g w) := by
  have hne : wordAt s i ≠ eS := by rw [ht]; decide
  have hlet := word_letter hne
  obtain ⟨hdg, hqu, hpa⟩ := letter_not hlet
  have hm : markAt s i ⟨#[40]⟩ < 0 := by
    by_cases hm : 0 ≤ markAt s i ⟨#[40]⟩
    · have hb := mark_byte h0 hm
      rw [show ((40 : UInt8).toNat : Int) = 40 from rfl] at hb
      rw [hpa] at hb; cases hb
    · omega
  obtain ⟨hwe, hws⟩ := word_end h0 hne
  have hglt := hk_lt h
  have hB := Lib.hid (box_new h)
  have hgne : w.heap.size ≠ g := by omega
  have HA := Lib.hid (eahead_any s i pl 0 g _ hB.out.1 h0 hs)
  have HW := Lib.hid (eword_any s i pl 0 g _ hB.out.1 h0 h1 hs)
  have hb0 := blanks_ge0 s i h0
  have gc := cell_blk hB.out.1
  have gcf := frozen_blk hB.out.1
  have hbt := bt_at s (blanks s i)
  have hpm : pmark s i ⟨#[40]⟩ = markAt s i ⟨#[40]⟩ := pmark_nl (by decide +kernel)
  have HM := Lib.hid (fun n => emark_no s ⟨#[40]⟩ i pl g ((w.alloc (.cells zero9 52)).drewN n) (pat_drewN hB.out.1 n) h0 h1 hs (by decide) (by rw [hpm]; exact hm))
  have hlt : blanks s i < s.size := letterAt_lt hlet
  have hd : decide (blanks s i < (s.size : Int)) = true := decide_eq_true hlt
  have hr := bt_range s (blanks s i)
  have HD := Lib.hid (fun w => ((show digitB (bt s (blanks s i)) = false by rw [← digit_bt hlt]; exact hdg) ▸ edigit_any (bt s (blanks s i)) w hr.1 hr.2 : Calls Tryz.prog 102 #[.int .u8 (bt s (blanks s i))] w fun e w' => e = .returned (.bool false) ∧ w = w'))
  have hb34 : (bt s (blanks s i) == 34) = false := by simpa [isAt, hlt] using hqu
  have HWE := Lib.hid hwe
  clear h hm hpm hdg hqu hpa hlet hr hwe hne
  generalize wordAt s i = t at *
  generalize wordAtEnd s i = e1 at *
  generalize blanks s i = q at *
  have hwr : IntKind.i64.wrap (q + (t.size : Int)) = q + (t.size : Int) := by rw [IntKind.wrap_i64]; omega
  subst ht
  have hwr2 : IntKind.i64.wrap (q + 4) = q + 4 := hwr
  go_enter Tryz.func178, Tryz.ntmps178
  go_upto_region 16 with (first
    | (go_at_call 46; refine HA.out.mono ?_; rintro e w' ⟨rfl, rfl⟩)
    | (go_at_call 57; refine HW.out.mono ?_; rintro e w' ⟨rfl, n, rfl⟩)
    | (go_at_call 102; refine (HD.out _).mono ?_; rintro e w' ⟨rfl, rfl⟩)
    | (go_at_call 93; refine (HM.out _).mono ?_; rintro e w' ⟨rfl, m, rfl⟩))
  refine abs_world (F := fun W => Box s i pl 0 g w.heap.size w W) ⟨pat_drewN hB.out.1 _, hB.out.2.1.drewN _, hB.out.2.2⟩ (fun W hW => ?_)
  have HBW := Lib.hid hW
  clear gc gcf hW
  have gc := cell_blk HBW.out.1
  have gcf := frozen_blk HBW.out.1
  have gb := cell_blk HBW.out.2.2
  have gbf := frozen_blk HBW.out.2.2
  have HB1 := Lib.hid (HBW.out.at (j := q + 4) hgne)
  go_wp2_with fail
  refine (vtruth_any _ _).mono ?_
  rintro e w2 ⟨rfl, hk2⟩
  have HB2 := Lib.hid (HB1.out.go hk2)
  clear hk2
  go_wp2_with fail
  refine (eliteral_any _ _ _ _ _ _ _ _ _ _ _).mono ?_
  rintro e w3 ⟨rfl, hk3⟩
  have HB3 := Lib.hid (HB2.out.go hk3)
  have gb3 := cell_blk HB3.out.2.2
  have gbf3 := frozen_blk HB3.out.2.2
  clear hk3
  go_wp2
  refine abs_post (F := fun W => W.heap[w.heap.size]? = some (.cells #[.string litS, .string eS, .int .i64 1, .bool true, .int .i64 0, .string eS, .slice none 0 0, .slice none 0 0, .slice none 0 0] 52 (0, 0)) ∧ PAt s (q + 4) pl 0 g W ∧ Keeps [g] w W) (HB3.out.lay hgne (Nat.le_refl _) _ _ _ _ _ _ _ _ _) (fun W hW => ?_)
  have cr := cell_blk hW.1
  exact bodyPost_ret (v := (litT (boolV true)).agg (.slice none 0 0) (.slice none 0 0) (.slice none 0 0)) (by simp [results, Tryz.results178, go_sem, cr]; exact ⟨rfl, rfl, rfl, rfl, rfl, rfl⟩) rfl (psays_ok s pl g w rfl (leaf_xrep _ _ _ _ _ _ _ _) (by have e2 : e1 = q + 4 := HWE.out; rw [e2]; exact hW.2.1) hW.2.2)
set_option maxRecDepth 20000 in
set_option maxHeartbeats 1000000 in
theorem eone_false (h : PAt s i pl 0 g w) (h0 : 0 ≤ i) (h1 : i ≤ s.size) (hs : s.size ≤ 1000000) (ht : wordAt s i = falseS) :
    Calls Tryz.prog 178 #[.pointer (some ⟨g, 0, none⟩)] w (PSays s (.ok (litT (boolV false)) (wordAtEnd s i)) pl g w) := by
  have hne : wordAt s i ≠ eS := by rw [ht]; decide
  have hlet := word_letter hne
  obtain ⟨hdg, hqu, hpa⟩ := letter_not hlet
  have hm : markAt s i ⟨#[40]⟩ < 0 := by
    by_cases hm : 0 ≤ markAt s i ⟨#[40]⟩
    · have hb := mark_byte h0 hm
      rw [show ((40 : UInt8).toNat : Int) = 40 from rfl] at hb
      rw [hpa] at hb; cases hb
    · omega
  obtain ⟨hwe, hws⟩ := word_end h0 hne
  have hglt := hk_lt h
  have hB := Lib.hid (box_new h)
  have hgne : w.heap.size ≠ g := by omega
  have HA := Lib.hid (eahead_any s i pl 0 g _ hB.out.1 h0 hs)
  have HW := Lib.hid (eword_any s i pl 0 g _ hB.out.1 h0 h1 hs)
  have hb0 := blanks_ge0 s i h0
  have gc := cell_blk hB.out.1
  have gcf := frozen_blk hB.out.1
  have hbt := bt_at s (blanks s i)
  have hpm : pmark s i ⟨#[40]⟩ = markAt s i ⟨#[40]⟩ := pmark_nl (by decide +kernel)
  have HM := Lib.hid (fun n => emark_no s ⟨#[40]⟩ i pl g ((w.alloc (.cells zero9 52)).drewN n) (pat_drewN hB.out.1 n) h0 h1 hs (by decide) (by rw [hpm]; exact hm))
  have hlt : blanks s i < s.size := letterAt_lt hlet
  have hd : decide (blanks s i < (s.size : Int)) = true := decide_eq_true hlt
  have hr := bt_range s (blanks s i)
  have HD := Lib.hid (fun w => ((show digitB (bt s (blanks s i)) = false by rw [← digit_bt hlt]; exact hdg) ▸ edigit_any (bt s (blanks s i)) w hr.1 hr.2 : Calls Tryz.prog 102 #[.int .u8 (bt s (blanks s i))] w fun e w' => e = .returned (.bool false) ∧ w = w'))
  have hb34 : (bt s (blanks s i) == 34) = false := by simpa [isAt, hlt] using hqu
  have HWE := Lib.hid hwe
  clear h hm hpm hdg hqu hpa hlet hr hwe hne
  generalize wordAt s i = t at *
  generalize wordAtEnd s i = e1 at *
  generalize blanks s i = q at *
  have hwr : IntKind.i64.wrap (q + (t.size : Int)) = q + (t.size : Int) := by rw [IntKind.wrap_i64]; omega
  subst ht
  have hwr2 : IntKind.i64.wrap (q + 5) = q + 5 := hwr
  go_enter Tryz.func178, Tryz.ntmps178
  go_upto_region 16 with (first
    | (go_at_call 46; refine HA.out.mono ?_; rintro e w' ⟨rfl, rfl⟩)
    | (go_at_call 57; refine HW.out.mono ?_; rintro e w' ⟨rfl, n, rfl⟩)
    | (go_at_call 102; refine (HD.out _).mono ?_; rintro e w' ⟨rfl, rfl⟩)
    | (go_at_call 93; refine (HM.out _).mono ?_; rintro e w' ⟨rfl, m, rfl⟩))
  refine abs_world (F := fun W => Box s i pl 0 g w.heap.size w W) ⟨pat_drewN hB.out.1 _, hB.out.2.1.drewN _, hB.out.2.2⟩ (fun W hW => ?_)
  have HBW := Lib.hid hW
  clear gc gcf hW
  have gc := cell_blk HBW.out.1
  have gcf := frozen_blk HBW.out.1
  have gb := cell_blk HBW.out.2.2
  have gbf := frozen_blk HBW.out.2.2
  have HB1 := Lib.hid (HBW.out.at (j := q + 5) hgne)
  go_wp2_with fail
  refine (vtruth_any _ _).mono ?_
  rintro e w2 ⟨rfl, hk2⟩
  have HB2 := Lib.hid (HB1.out.go hk2)
  clear hk2
  go_wp2_with fail
  refine (eliteral_any _ _ _ _ _ _ _ _ _ _ _).mono ?_
  rintro e w3 ⟨rfl, hk3⟩
  have HB3 := Lib.hid (HB2.out.go hk3)
  have gb3 := cell_blk HB3.out.2.2
  have gbf3 := frozen_blk HB3.out.2.2
  clear hk3
  go_wp2
  refine abs_post (F := fun W => W.heap[w.heap.size]? = some (.cells #[.string litS, .string eS, .int .i64 1, .bool false, .int .i64 0, .string eS, .slice none 0 0, .slice none 0 0, .slice none 0 0] 52 (0, 0)) ∧ PAt s (q + 5) pl 0 g W ∧ Keeps [g] w W) (HB3.out.lay hgne (Nat.le_refl _) _ _ _ _ _ _ _ _ _) (fun W hW => ?_)
  have cr := cell_blk hW.1
  exact bodyPost_ret (v := (litT (boolV false)).agg (.slice none 0 0) (.slice none 0 0) (.slice none 0 0)) (by simp [results, Tryz.results178, go_sem, cr]; exact ⟨rfl, rfl, rfl, rfl, rfl, rfl⟩) rfl (psays_ok s pl g w rfl (leaf_xrep _ _ _ _ _ _ _ _) (by have e2 : e1 = q + 5 := HWE.out; rw [e2]; exact hW.2.1) hW.2.2)
set_option maxRecDepth 20000 in
set_option maxHeartbeats 1000000 in
theorem eone_null (h : PAt s i pl 0 g w) (h0 : 0 ≤ i) (h1 : i ≤ s.size) (hs : s.size ≤ 1000000) (ht : wordAt s i = nullS) :
    Calls Tryz.prog 178 #[.pointer (some ⟨g, 0, none⟩)] w (PSays s (.ok (litT VT.zero) (wordAtEnd s i)) pl g w) := by
  have hne : wordAt s i ≠ eS := by rw [ht]; decide
  have hlet := word_letter hne
  obtain ⟨hdg, hqu, hpa⟩ := letter_not hlet
  have hm : markAt s i ⟨#[40]⟩ < 0 := by
    by_cases hm : 0 ≤ markAt s i ⟨#[40]⟩
    · have hb := mark_byte h0 hm
      rw [show ((40 : UInt8).toNat : Int) = 40 from rfl] at hb
      rw [hpa] at hb; cases hb
    · omega
  obtain ⟨hwe, hws⟩ := word_end h0 hne
  have hglt := hk_lt h
  have hB := Lib.hid (box_new h)
  have hgne : w.heap.size ≠ g := by omega
  have HA := Lib.hid (eahead_any s i pl 0 g _ hB.out.1 h0 hs)
  have HW := Lib.hid (eword_any s i pl 0 g _ hB.out.1 h0 h1 hs)
  have hb0 := blanks_ge0 s i h0
  have gc := cell_blk hB.out.1
  have gcf := frozen_blk hB.out.1
  have hbt := bt_at s (blanks s i)
  have hpm : pmark s i ⟨#[40]⟩ = markAt s i ⟨#[40]⟩ := pmark_nl (by decide +kernel)
  have HM := Lib.hid (fun n => emark_no s ⟨#[40]⟩ i pl g ((w.alloc (.cells zero9 52)).drewN n) (pat_drewN hB.out.1 n) h0 h1 hs (by decide) (by rw [hpm]; exact hm))
  have hlt : blanks s i < s.size := letterAt_lt hlet
  have hd : decide (blanks s i < (s.size : Int)) = true := decide_eq_true hlt
  have hr := bt_range s (blanks s i)
  have HD := Lib.hid (fun w => ((show digitB (bt s (blanks s i)) = false by rw [← digit_bt hlt]; exact hdg) ▸ edigit_any (bt s (blanks s i)) w hr.1 hr.2 : Calls Tryz.prog 102 #[.int .u8 (bt s (blanks s i))] w fun e w' => e = .returned (.bool false) ∧ w = w'))
  have hb34 : (bt s (blanks s i) == 34) = false := by simpa [isAt, hlt] using hqu
  have HWE := Lib.hid hwe
  clear h hm hpm hdg hqu hpa hlet hr hwe hne
  generalize wordAt s i = t at *
  generalize wordAtEnd s i = e1 at *
  generalize blanks s i = q at *
  have hwr : IntKind.i64.wrap (q + (t.size : Int)) = q + (t.size : Int) := by rw [IntKind.wrap_i64]; omega
  subst ht
  have hwr2 : IntKind.i64.wrap (q + 4) = q + 4 := hwr
  go_enter Tryz.func178, Tryz.ntmps178
  go_upto_region 16 with (first
    | (go_at_call 46; refine HA.out.mono ?_; rintro e w' ⟨rfl, rfl⟩)
    | (go_at_call 57; refine HW.out.mono ?_; rintro e w' ⟨rfl, n, rfl⟩)
    | (go_at_call 102; refine (HD.out _).mono ?_; rintro e w' ⟨rfl, rfl⟩)
    | (go_at_call 93; refine (HM.out _).mono ?_; rintro e w' ⟨rfl, m, rfl⟩))
  refine abs_world (F := fun W => Box s i pl 0 g w.heap.size w W) ⟨pat_drewN hB.out.1 _, hB.out.2.1.drewN _, hB.out.2.2⟩ (fun W hW => ?_)
  have HBW := Lib.hid hW
  clear gc gcf hW
  have gc := cell_blk HBW.out.1
  have gcf := frozen_blk HBW.out.1
  have gb := cell_blk HBW.out.2.2
  have gbf := frozen_blk HBW.out.2.2
  have HB1 := Lib.hid (HBW.out.at (j := q + 4) hgne)
  go_wp2_with fail
  refine (eliteral_any _ _ _ _ _ _ _ _ _ _ _).mono ?_
  rintro e w3 ⟨rfl, hk3⟩
  have HB3 := Lib.hid (HB1.out.go hk3)
  have gb3 := cell_blk HB3.out.2.2
  have gbf3 := frozen_blk HB3.out.2.2
  clear hk3
  go_wp2
  refine abs_post (F := fun W => W.heap[w.heap.size]? = some (.cells #[.string litS, .string eS, .int .i64 0, .bool false, .int .i64 0, .string eS, .slice none 0 0, .slice none 0 0, .slice none 0 0] 52 (0, 0)) ∧ PAt s (q + 4) pl 0 g W ∧ Keeps [g] w W) (HB3.out.lay hgne (Nat.le_refl _) _ _ _ _ _ _ _ _ _) (fun W hW => ?_)
  have cr := cell_blk hW.1
  exact bodyPost_ret (v := (litT VT.zero).agg (.slice none 0 0) (.slice none 0 0) (.slice none 0 0)) (by simp [results, Tryz.results178, go_sem, cr]; exact ⟨rfl, rfl, rfl, rfl, rfl, rfl⟩) rfl (psays_ok s pl g w rfl (leaf_xrep _ _ _ _ _ _ _ _) (by have e2 : e1 = q + 4 := HWE.out; rw [e2]; exact hW.2.1) hW.2.2)
set_option maxRecDepth 20000 in
set_option maxHeartbeats 1000000 in
theorem eone_call (h : PAt s i pl 0 g w) (h0 : 0 ≤ i) (h1 : i ≤ s.size) (hs : s.size ≤ 1000000) (r : Res) (ha : 0 < argsN (wordAt s i))
    (HC0 : ∀ W, PAt s (wordAtEnd s i) pl 0 g W → Keeps [g] w W → Calls Tryz.prog 186 #[.pointer (some ⟨g, 0, none⟩), .string (wordAt s i), .int .i64 (argsN (wordAt s i))] W (PSays s r pl g W)) :
    Calls Tryz.prog 178 #[.pointer (some ⟨g, 0, none⟩)] w (PSays s r pl g w) := by
  have hz := argsN_ne ha
  have hne : wordAt s i ≠ eS := hz.1
  have hlet := word_letter hne
  obtain ⟨hdg, hqu, hpa⟩ := letter_not hlet
  have hm : markAt s i ⟨#[40]⟩ < 0 := by
    by_cases hm : 0 ≤ markAt s i ⟨#[40]⟩
    · have hb := mark_byte h0 hm
      rw [show ((40 : UInt8).toNat : Int) = 40 from rfl] at hb
      rw [hpa] at hb; cases hb
    · omega
  obtain ⟨hwe, hws⟩ := word_end h0 hne
  have hglt := hk_lt h
  have hB := Lib.hid (box_new h)
  have hgne : w.heap.size ≠ g := by omega
  have HA := Lib.hid (eahead_any s i pl 0 g _ hB.out.1 h0 hs)
  have HW := Lib.hid (eword_any s i pl 0 g _ hB.out.1 h0 h1 hs)
  have hb0 := blanks_ge0 s i h0
  have gc := cell_blk hB.out.1
  have gcf := frozen_blk hB.out.1
  have hbt := bt_at s (blanks s i)
  have hpm : pmark s i ⟨#[40]⟩ = markAt s i ⟨#[40]⟩ := pmark_nl (by decide +kernel)
  have HM := Lib.hid (fun n => emark_no s ⟨#[40]⟩ i pl g ((w.alloc (.cells zero9 52)).drewN n) (pat_drewN hB.out.1 n) h0 h1 hs (by decide) (by rw [hpm]; exact hm))
  have hlt : blanks s i < s.size := letterAt_lt hlet
  have hd : decide (blanks s i < (s.size : Int)) = true := decide_eq_true hlt
  have hr := bt_range s (blanks s i)
  have HD := Lib.hid (fun w => ((show digitB (bt s (blanks s i)) = false by rw [← digit_bt hlt]; exact hdg) ▸ edigit_any (bt s (blanks s i)) w hr.1 hr.2 : Calls Tryz.prog 102 #[.int .u8 (bt s (blanks s i))] w fun e w' => e = .returned (.bool false) ∧ w = w'))
  have hb34 : (bt s (blanks s i) == 34) = false := by simpa [isAt, hlt] using hqu
  have HWE := Lib.hid hwe
  have hz0 := wo_nil hne
  have HAR := Lib.hid (earity_any (wordAt s i))
  have ha0 : (0 : Int) < argsN (wordAt s i) := by omega
  have HCX := Lib.hid HC0
  clear h hm hpm hdg hqu hpa hlet hr hwe hne ha HC0
  generalize wordAt s i = t at *
  generalize wordAtEnd s i = e1 at *
  generalize blanks s i = q at *
  have hwr : IntKind.i64.wrap (q + (t.size : Int)) = q + (t.size : Int) := by rw [IntKind.wrap_i64]; omega
  have z1 := tl_ne (l := [111, 114]) hz.2.1
  have z2 := tl_ne (l := [97, 110, 100]) hz.2.2.1
  have z3 := tl_ne (l := [110, 111, 116]) hz.2.2.2.1
  have z4 := tl_ne (l := [116, 114, 117, 101]) hz.2.2.2.2.1
  have z5 := tl_ne (l := [102, 97, 108, 115, 101]) hz.2.2.2.2.2.1
  have z6 := tl_ne (l := [110, 117, 108, 108]) hz.2.2.2.2.2.2.1
  have z7 := tl_ne (l := [116, 104, 105, 115]) hz.2.2.2.2.2.2.2
  clear hz
  go_enter Tryz.func178, Tryz.ntmps178
  go_upto_region 16 with (first
    | (go_at_call 46; refine HA.out.mono ?_; rintro e w' ⟨rfl, rfl⟩)
    | (go_at_call 57; refine HW.out.mono ?_; rintro e w' ⟨rfl, n, rfl⟩)
    | (go_at_call 102; refine (HD.out _).mono ?_; rintro e w' ⟨rfl, rfl⟩)
    | (go_at_call 93; refine (HM.out _).mono ?_; rintro e w' ⟨rfl, m, rfl⟩))
  refine abs_world (F := fun W => Box s i pl 0 g w.heap.size w W) ⟨pat_drewN hB.out.1 _, hB.out.2.1.drewN _, hB.out.2.2⟩ (fun W hW => ?_)
  have HBW := Lib.hid hW
  clear gc gcf hW
  have gc := cell_blk HBW.out.1
  have gcf := frozen_blk HBW.out.1
  have gb := cell_blk HBW.out.2.2
  have gbf := frozen_blk HBW.out.2.2
  have HB1 := Lib.hid (HBW.out.at (j := q + t.size) hgne)
  go_wp2_with (go_at_call 52; refine (HAR.out _).mono ?_; rintro e w' ⟨rfl, rfl⟩)
  refine (HCX.out _ (by rw [HWE.out]; exact HB1.out.1) (by exact HB1.out.2.1)).mono ?_
  rintro e w1 hx
  obtain ⟨T, vi, vk, va, rfl, hrep, hk1, hm⟩ := psays_at hx
  obtain ⟨a1, c1, a2, c2, a3, c3, rfl, rfl, rfl⟩ := xrep_shape hrep
  have HB2 : Hid (w1.heap[w.heap.size]? = some (.cells zero9 52 (0, 0))) := Lib.hid (hk1.heap HB1.out.2.2 (by simpa using hgne))
  have HX := Lib.hid (lay_says (b := w.heap.size) (w := w) HB1.out.2.1 (Nat.le_refl _) (hk_lt HB1.out.2.2) hgne hrep hk1 hm)
  have gb3 := cell_blk HB2.out
  have gbf3 := frozen_blk HB2.out
  clear hx hrep hk1 hm
  go_wp2
  refine abs_post (F := fun W => W.heap[w.heap.size]? = some (.cells (T.nine (.slice a1 T.lit.its.length c1) (.slice a2 T.lit.ks.length c2) (.slice a3 T.args.length c3)) 52 (0, 0)) ∧ T.Rep W (w.heap.size ≤ ·) (.slice a1 T.lit.its.length c1) (.slice a2 T.lit.ks.length c2) (.slice a3 T.args.length c3) ∧ Keeps [g] w W ∧ At s r pl g T W) ⟨blk_sets9 HB2.out _ _ _ _ _ _ _ _ _, HX.out _ _ _ _ _ _ _ _ _⟩ (fun W hW => ?_)
  have cr := cell_blk hW.1
  exact bodyPost_ret (v := T.agg (.slice a1 T.lit.its.length c1) (.slice a2 T.lit.ks.length c2) (.slice a3 T.args.length c3)) (by simp [results, Tryz.results178, go_sem, cr]) rfl (at_psays rfl hW.2.1 hW.2.2.1 hW.2.2.2)
end
end Go.Proofs.YtdlkdecigpaaaaaGreatDoor
