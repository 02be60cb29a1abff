/- Put together: The parser's one: a text; The parser's one: an int; an answer handed on; The parser's levels with a sign ahead; The parser's signs ahead; What stands between expressions, by the parser's marks. Plain words; A variable that bears a tree; trees of one and of two parts; what is told at a walk's end. -/
import Derived.Test.YtdlkdecigpaaaaaGreatDoorMg36
namespace Go.Proofs.YtdlkdecigpaaaaaGreatDoor
set_option linter.unusedVariables false
set_option linter.unusedSimpArgs false
open Go.RowKit

section
variable (s : ByteArray) (i pl : Int) (g : Nat) (w : World)
set_option maxRecDepth 20000 in
set_option maxHeartbeats 8000000 in
theorem eone_text (h : PAt s i pl 0 g w) (hv : VarOk w) (hg2 : 5 < g) (h0 : 0 ≤ i) (h1 : i ≤ s.size) (hs : s.size ≤ 1000000) (hq : isAt s (blanks s i) 34 = true) :
    Calls Tryz.prog 178 #[.pointer (some ⟨g, 0, none⟩)] w (PSays s (textR s (blanks s i)) pl g w) := by
  have hglt := hk_lt h
  have hB := Lib.hid (box_new h)
  have hgne : w.heap.size ≠ g := by omega
  have HA := Lib.hid (eahead_any s i pl 0 g _ hB.out.1 h0 hs)
  have HW := Lib.hid (eword_any s i pl 0 g _ hB.out.1 h0 h1 hs)
  have hva : VarOk (w.alloc (.cells zero9 52)) := hv.keeps ((Keeps.refl [] w).alloc _) (by simp)
  have HT := Lib.hid (fun n => etext_any s i pl g _ (pat_drewN hB.out.1 n) (hva.keeps ((Keeps.refl [] _).drewN n) (by simp)) hg2 h0 h1 hs hq)
  have gc := cell_blk hB.out.1
  have hlt := isAt_lt hq
  have hbt := bt_at s (blanks s i)
  have hb34 : bt s (blanks s i) = 34 := by
    simp only [isAt, Bool.and_eq_true, beq_iff_eq] at hq
    exact hq.2
  have HD := Lib.hid (fun w => (edigit_any 34 w (by omega) (by omega) : Calls Tryz.prog 102 #[.int .u8 34] w fun e w' => e = .returned (.bool false) ∧ w = w'))
  rw [hb34] at hbt
  have hb0 := blanks_ge0 s i h0
  have HR : Hid (textR s (blanks s i) = if (strF s (blanks s i)).2.2 = 0 then .ok (litT (textV (strF s (blanks s i)).1.text)) (strF s (blanks s i)).1.stop else .err (strF s (blanks s i)).2.1 (strF s (blanks s i)).2.2) := Lib.hid rfl
  generalize textR s (blanks s i) = r at *
  generalize strF s (blanks s i) = x at *
  generalize wordAt s i = t at *
  generalize blanks s i = q at *
  clear h hv hva hb34 hq
  go_enter Tryz.func178, Tryz.ntmps178
  go_wp2_with (first
    | (go_at_call 46; refine HA.out.mono ?_; rintro e w' ⟨rfl, rfl⟩)
    | (go_at_call 57; refine HW.out.mono ?_; rintro e w' ⟨rfl, n, rfl⟩)
    | (go_at_call 102; refine (HD.out _).mono ?_; rintro e w' ⟨rfl, rfl⟩))
  refine (HT.out _).mono ?_
  rintro e w1 hx
  by_cases hc : x.2.2 = 0
  · obtain ⟨rfl, hp1, hk1⟩ := hx.1 hc
    have HR2 := Lib.hid (HR.out.trans (if_pos hc))
    have HB1 := Lib.hid (Box.to (b := w.heap.size) (w := w) ⟨pat_drewN hB.out.1 _, hB.out.2.1.drewN _, hB.out.2.2⟩ hgne hk1 hp1)
    clear hx hp1 hk1 hc HR
    go_wp2_with fail
    refine (vtext_any _ _).mono ?_
    rintro e w2 ⟨rfl, hk2⟩
    have HB2 := Lib.hid (HB1.out.go hk2)
    clear hk2
    go_wp2_with fail
    refine (eliteral_any _ _ _ _ _ _ _ _ _ _ _).mono ?_
    rintro e w3 ⟨rfl, hk3⟩
    have HB3 := Lib.hid (HB2.out.go hk3)
    have gb3 := cell_blk HB3.out.2.2
    have gbf3 := frozen_blk HB3.out.2.2
    clear hk3
    go_wp2
    refine abs_post (F := fun W => W.heap[w.heap.size]? = some (.cells #[.string litS, .string eS, .int .i64 3, .bool false, .int .i64 0, .string x.1.text, .slice none 0 0, .slice none 0 0, .slice none 0 0] 52 (0, 0)) ∧ PAt s x.1.stop pl 0 g W ∧ Keeps [g] w W) (HB3.out.lay hgne (Nat.le_refl _) _ _ _ _ _ _ _ _ _) (fun W hW => ?_)
    have cr := cell_blk hW.1
    exact bodyPost_ret (v := (litT (textV x.1.text)).agg (.slice none 0 0) (.slice none 0 0) (.slice none 0 0)) (by simp [results, Tryz.results178, go_sem, cr]; exact ⟨rfl, rfl, rfl, rfl, rfl, rfl⟩) rfl (HR2.out ▸ psays_ok s pl g w rfl (leaf_xrep _ _ _ _ _ _ _ _) hW.2.1 hW.2.2)
  · obtain ⟨rfl, hp1, hk1⟩ := hx.2 hc
    have HR2 := Lib.hid (HR.out.trans (if_neg hc))
    have HB1 := Lib.hid (Box.to (b := w.heap.size) (w := w) ⟨pat_drewN hB.out.1 _, hB.out.2.1.drewN _, hB.out.2.2⟩ hgne hk1 hp1)
    clear hx hp1 hk1 hc HR
    go_wp2_with fail
    refine (vtext_any _ _).mono ?_
    rintro e w2 ⟨rfl, hk2⟩
    have HB2 := Lib.hid (HB1.out.go hk2)
    clear hk2
    go_wp2_with fail
    refine (eliteral_any _ _ _ _ _ _ _ _ _ _ _).mono ?_
    rintro e w3 ⟨rfl, hk3⟩
    have HB3 := Lib.hid (HB2.out.go hk3)
    have gb3 := cell_blk HB3.out.2.2
    have gbf3 := frozen_blk HB3.out.2.2
    clear hk3
    go_wp2
    refine abs_post (F := fun W => W.heap[w.heap.size]? = some (.cells #[.string litS, .string eS, .int .i64 3, .bool false, .int .i64 0, .string eS, .slice none 0 0, .slice none 0 0, .slice none 0 0] 52 (0, 0)) ∧ PAt s i x.2.1 x.2.2 g W ∧ Keeps [g] w W) (HB3.out.lay hgne (Nat.le_refl _) _ _ _ _ _ _ _ _ _) (fun W hW => ?_)
    have cr := cell_blk hW.1
    exact bodyPost_ret (v := (litT (textV eS)).agg (.slice none 0 0) (.slice none 0 0) (.slice none 0 0)) (by simp [results, Tryz.results178, go_sem, cr]; exact ⟨rfl, rfl, rfl, rfl, rfl, rfl⟩) rfl (HR2.out ▸ psays_err s pl g w rfl (leaf_xrep _ _ _ _ _ _ _ _) h0 h1 hW.2.1 hW.2.2)
end
end Go.Proofs.YtdlkdecigpaaaaaGreatDoor
namespace Go.Proofs.YtdlkdecigpaaaaaGreatDoor
set_option linter.unusedVariables false
set_option linter.unusedSimpArgs false
open Go.RowKit

section
variable {s : ByteArray} {pl : Int} {g b : Nat} {w W w1 : World} {T : XT} {vi vk va : Value}
/-- Where the parser is behind an answer. -/
def At (s : ByteArray) (r : Res) (pl : Int) (g : Nat) (T : XT) (w' : World) : Prop :=
  match r with | .ok U p => T = U ∧ PAt s p pl 0 g w' | .err p c => ∃ a : Int, 0 ≤ a ∧ a ≤ s.size ∧ PAt s a p c g w'
theorem At.keeps {r : Res} {S : List Nat} {w2 : World} (h : At s r pl g T w1) (k : Keeps S w1 w2) (hg : g ∉ S) : At s r pl g T w2 := by
  cases r with
  | ok U p => exact ⟨h.1, pat_keeps h.2 k hg⟩
  | err p c => obtain ⟨a, h0, h1, h2⟩ := h; exact (show ∃ a : Int, 0 ≤ a ∧ a ≤ s.size ∧ PAt s a p c g w2 from ⟨a, h0, h1, pat_keeps h2 k hg⟩)
theorem psays_at {r : Res} {e : Ending} (h : PSays s r pl g W e w1) : ∃ (T : XT) (vi vk va : Value), e = .returned (T.agg vi vk va) ∧ T.Rep w1 (W.heap.size ≤ ·) vi vk va ∧ Keeps [g] W w1 ∧ At s r pl g T w1 := h
theorem at_psays {r : Res} {e : Ending} (h0 : e = .returned (T.agg vi vk va)) (h1 : T.Rep w1 (W.heap.size ≤ ·) vi vk va) (h2 : Keeps [g] W w1) (h3 : At s r pl g T w1) : PSays s r pl g W e w1 := ⟨T, vi, vk, va, h0, h1, h2, h3⟩
theorem lay_says {r : Res} (hB : Keeps [g] w W) (hbw : w.heap.size ≤ b) (hbW : b < W.heap.size) (hgb : b ≠ g) (hr : T.Rep w1 (W.heap.size ≤ ·) vi vk va) (hk : Keeps [g] W w1) (hm : At s r pl g T w1) (v0 v1 v2 v3 v4 v5 v6 v7 v8 : Value) :
    T.Rep (sets9 w1 b v0 v1 v2 v3 v4 v5 v6 v7 v8) (w.heap.size ≤ ·) vi vk va ∧ Keeps [g] w (sets9 w1 b v0 v1 v2 v3 v4 v5 v6 v7 v8) ∧ At s r pl g T (sets9 w1 b v0 v1 v2 v3 v4 v5 v6 v7 v8) := by
  have k9 := keeps_sets9 w1 b v0 v1 v2 v3 v4 v5 v6 v7 v8
  have hsz := hB.size
  refine ⟨(hr.keep (kc_keeps k9 fun k hk2 => by simp; omega)).mono (fun k hk2 => Nat.le_trans hsz hk2), (hB.trans hk).step k9 (fun k hk2 hk3 => by simp at hk2; omega), hm.keeps k9 (by simpa using fun e => hgb e.symm)⟩
end
section
variable (s : ByteArray) (i pl : Int) (g : Nat) (w : World)
set_option maxRecDepth 20000 in
set_option maxHeartbeats 8000000 in
theorem eone_num (h : PAt s i pl 0 g w) (hv : VarOk w) (h0 : 0 ≤ i) (h1 : i ≤ s.size) (hs : s.size ≤ 1000000) (hq : digitAt s (blanks s i) = true) :
    Calls Tryz.prog 178 #[.pointer (some ⟨g, 0, none⟩)] w (PSays s (numR s (blanks s i)) pl g w) := by
  have hglt := hk_lt h
  have hB := Lib.hid (box_new h)
  have hgne : w.heap.size ≠ g := by omega
  have HA := Lib.hid (eahead_any s i pl 0 g _ hB.out.1 h0 hs)
  have HW := Lib.hid (eword_any s i pl 0 g _ hB.out.1 h0 h1 hs)
  have hva : VarOk (w.alloc (.cells zero9 52)) := hv.keeps ((Keeps.refl [] w).alloc _) (by simp)
  have hb0 := blanks_ge0 s i h0
  have HT := Lib.hid (fun n => enumber_any s i pl (blanks s i) g _ (pat_drewN hB.out.1 n) (hva.keeps ((Keeps.refl [] _).drewN n) (by simp)) hb0 hs hq)
  have gc := cell_blk hB.out.1
  have hlt := digitAt_lt hq
  have hbt := bt_at s (blanks s i)
  have hr := bt_range s (blanks s i)
  have HD := Lib.hid (fun w => ((show digitB (bt s (blanks s i)) = true by rw [← digit_bt hlt]; exact hq) ▸ edigit_any (bt s (blanks s i)) w hr.1 hr.2 : Calls Tryz.prog 102 #[.int .u8 (bt s (blanks s i))] w fun e w' => e = .returned (.bool true) ∧ w = w'))
  generalize numR s (blanks s i) = r at *
  generalize wordAt s i = t at *
  generalize blanks s i = q at *
  clear h hv hva hq
  go_enter Tryz.func178, Tryz.ntmps178
  go_wp2_with (first
    | (go_at_call 46; refine HA.out.mono ?_; rintro e w' ⟨rfl, rfl⟩)
    | (go_at_call 57; refine HW.out.mono ?_; rintro e w' ⟨rfl, n, rfl⟩)
    | (go_at_call 102; refine (HD.out _).mono ?_; rintro e w' ⟨rfl, rfl⟩))
  refine (HT.out _).mono ?_
  rintro e w1 hx
  obtain ⟨T, vi, vk, va, rfl, hrep, hk1, hm⟩ := psays_at hx
  obtain ⟨a1, c1, a2, c2, a3, c3, rfl, rfl, rfl⟩ := xrep_shape hrep
  have HB1 : Hid (w1.heap[w.heap.size]? = some (.cells zero9 52 (0, 0))) := Lib.hid (hk1.heap hB.out.2.2 (by simpa using hgne))
  have HX := Lib.hid (lay_says (b := w.heap.size) (w := w) (hB.out.2.1.drewN n) (Nat.le_refl _) (hk_lt hB.out.2.2) hgne hrep hk1 hm)
  have gb3 := cell_blk HB1.out
  have gbf3 := frozen_blk HB1.out
  clear hx hrep hk1 hm
  go_wp2
  refine abs_post (F := fun W => W.heap[w.heap.size]? = some (.cells #[.string T.op, .string T.nm, .int .i64 T.lit.k, .bool T.lit.b, .int .i64 T.lit.n, .string T.lit.s, .slice a1 T.lit.its.length c1, .slice a2 T.lit.ks.length c2, .slice a3 T.args.length c3] 52 (0, 0)) ∧ T.Rep W (w.heap.size ≤ ·) (.slice a1 T.lit.its.length c1) (.slice a2 T.lit.ks.length c2) (.slice a3 T.args.length c3) ∧ Keeps [g] w W ∧ At s r pl g T W) ⟨blk_sets9 HB1.out _ _ _ _ _ _ _ _ _, HX.out _ _ _ _ _ _ _ _ _⟩ (fun W hW => ?_)
  have cr := cell_blk hW.1
  exact bodyPost_ret (v := T.agg (.slice a1 T.lit.its.length c1) (.slice a2 T.lit.ks.length c2) (.slice a3 T.args.length c3)) (by simp [results, Tryz.results178, go_sem, cr]) rfl (at_psays rfl hW.2.1 hW.2.2.1 hW.2.2.2)
end
end Go.Proofs.YtdlkdecigpaaaaaGreatDoor
namespace Go.Proofs.YtdlkdecigpaaaaaGreatDoor
set_option linter.unusedVariables false
set_option linter.unusedSimpArgs false
open Go.RowKit

section
variable (s : ByteArray) (i pl : Int) (g : Nat) (w : World)
set_option maxRecDepth 20000 in
set_option maxHeartbeats 4000000 in
theorem esign_of (r : Res) (h : PAt s i pl 0 g w) (HS : Calls Tryz.prog 132 #[.pointer (some ⟨g, 0, none⟩), .func (.func 175) #[] #[], .string ⟨#[45]⟩, .string negS] (w.alloc (.cells zero9 52)) (PSays s r pl g (w.alloc (.cells zero9 52)))) :
    Calls Tryz.prog 170 #[.pointer (some ⟨g, 0, none⟩)] w (PSays s r pl g w) := by
  have hglt := hk_lt h
  have hB := Lib.hid (box_new h)
  have hgne : w.heap.size ≠ g := by omega
  have HT := Lib.hid HS
  clear h HS
  go_enter Tryz.func170, Tryz.ntmps170
  go_wp2_with fail
  refine HT.out.mono ?_
  rintro e w1 hx
  obtain ⟨T, vi, vk, va, rfl, hrep, hk1, hm⟩ := psays_at hx
  obtain ⟨a1, c1, a2, c2, a3, c3, rfl, rfl, rfl⟩ := xrep_shape hrep
  have HB1 : Hid (w1.heap[w.heap.size]? = some (.cells zero9 52 (0, 0))) := Lib.hid (hk1.heap hB.out.2.2 (by simpa using hgne))
  have HX := Lib.hid (lay_says (b := w.heap.size) (w := w) hB.out.2.1 (Nat.le_refl _) (hk_lt hB.out.2.2) hgne hrep hk1 hm)
  have gb3 := cell_blk HB1.out
  have gbf3 := frozen_blk HB1.out
  clear hx hrep hk1 hm
  go_wp2
  refine abs_post (F := fun W => W.heap[w.heap.size]? = some (.cells #[.string T.op, .string T.nm, .int .i64 T.lit.k, .bool T.lit.b, .int .i64 T.lit.n, .string T.lit.s, .slice a1 T.lit.its.length c1, .slice a2 T.lit.ks.length c2, .slice a3 T.args.length c3] 52 (0, 0)) ∧ T.Rep W (w.heap.size ≤ ·) (.slice a1 T.lit.its.length c1) (.slice a2 T.lit.ks.length c2) (.slice a3 T.args.length c3) ∧ Keeps [g] w W ∧ At s r pl g T W) ⟨blk_sets9 HB1.out _ _ _ _ _ _ _ _ _, HX.out _ _ _ _ _ _ _ _ _⟩ (fun W hW => ?_)
  have cr := cell_blk hW.1
  exact bodyPost_ret (v := T.agg (.slice a1 T.lit.its.length c1) (.slice a2 T.lit.ks.length c2) (.slice a3 T.args.length c3)) (by simp [results, Tryz.results170, go_sem, cr]) rfl (at_psays rfl hW.2.1 hW.2.2.1 hW.2.2.2)
set_option maxRecDepth 20000 in
set_option maxHeartbeats 4000000 in
theorem enot_of (r : Res) (h : PAt s i pl 0 g w) (HS : Calls Tryz.prog 132 #[.pointer (some ⟨g, 0, none⟩), .func (.func 133) #[] #[], .string notS, .string notS] (w.alloc (.cells zero9 52)) (PSays s r pl g (w.alloc (.cells zero9 52)))) :
    Calls Tryz.prog 94 #[.pointer (some ⟨g, 0, none⟩)] w (PSays s r pl g w) := by
  have hglt := hk_lt h
  have hB := Lib.hid (box_new h)
  have hgne : w.heap.size ≠ g := by omega
  have HT := Lib.hid HS
  clear h HS
  go_enter Tryz.func94, Tryz.ntmps94
  go_wp2_with fail
  refine HT.out.mono ?_
  rintro e w1 hx
  obtain ⟨T, vi, vk, va, rfl, hrep, hk1, hm⟩ := psays_at hx
  obtain ⟨a1, c1, a2, c2, a3, c3, rfl, rfl, rfl⟩ := xrep_shape hrep
  have HB1 : Hid (w1.heap[w.heap.size]? = some (.cells zero9 52 (0, 0))) := Lib.hid (hk1.heap hB.out.2.2 (by simpa using hgne))
  have HX := Lib.hid (lay_says (b := w.heap.size) (w := w) hB.out.2.1 (Nat.le_refl _) (hk_lt hB.out.2.2) hgne hrep hk1 hm)
  have gb3 := cell_blk HB1.out
  have gbf3 := frozen_blk HB1.out
  clear hx hrep hk1 hm
  go_wp2
  refine abs_post (F := fun W => W.heap[w.heap.size]? = some (.cells #[.string T.op, .string T.nm, .int .i64 T.lit.k, .bool T.lit.b, .int .i64 T.lit.n, .string T.lit.s, .slice a1 T.lit.its.length c1, .slice a2 T.lit.ks.length c2, .slice a3 T.args.length c3] 52 (0, 0)) ∧ T.Rep W (w.heap.size ≤ ·) (.slice a1 T.lit.its.length c1) (.slice a2 T.lit.ks.length c2) (.slice a3 T.args.length c3) ∧ Keeps [g] w W ∧ At s r pl g T W) ⟨blk_sets9 HB1.out _ _ _ _ _ _ _ _ _, HX.out _ _ _ _ _ _ _ _ _⟩ (fun W hW => ?_)
  have cr := cell_blk hW.1
  exact bodyPost_ret (v := T.agg (.slice a1 T.lit.its.length c1) (.slice a2 T.lit.ks.length c2) (.slice a3 T.args.length c3)) (by simp [results, Tryz.results94, go_sem, cr]) rfl (at_psays rfl hW.2.1 hW.2.2.1 hW.2.2.2)
end
end Go.Proofs.YtdlkdecigpaaaaaGreatDoor
namespace Go.Proofs.YtdlkdecigpaaaaaGreatDoor
set_option linter.unusedVariables false
set_option linter.unusedSimpArgs false
open Go.RowKit

def upN (op : ByteArray) : Nat → Res → Res
  | 0, r => r
  | k + 1, r => (upN op k r).up op
/-- So many signs stand behind a place; the place behind them. -/
def Marks (s t : ByteArray) : Nat → Int → Int → Prop
  | 0, i, e => e = i ∧ pmark s i t < 0
  | k + 1, i, e => 0 ≤ pmark s i t ∧ Marks s t k (pmark s i t) e
theorem up_comm (op : ByteArray) : ∀ (k : Nat) (r : Res), upN op k (r.up op) = upN op (k + 1) r
  | 0, _ => rfl
  | k + 1, r => by show (upN op k (r.up op)).up op = (upN op (k + 1) r).up op; rw [up_comm op k r]
theorem marks_pos {s t : ByteArray} (ht : 0 < t.size) : ∀ (k : Nat) {i e : Int}, Marks s t k i e → i ≤ s.size → i ≤ e ∧ e ≤ s.size
  | 0, _, _, h, h1 => by have := h.1; omega
  | k + 1, i, e, h, _ => by
    have hp := pmark_pos h.1 ht
    have := marks_pos ht k h.2 hp.2.2
    omega
theorem At.up {s op : ByteArray} {r : Res} {pl : Int} {g : Nat} {T : XT} {w : World} (h : At s r pl g T w) : At s (r.up op) pl g (unT op T) w := by
  cases r with
  | ok U p => exact ⟨by rw [h.1], h.2⟩
  | err p c => exact h
/-- There are so many. -/
theorem marks_all {s t : ByteArray} (ht : 0 < t.size) : ∀ (m : Nat) (i : Int), 0 ≤ i → i ≤ s.size → s.size - i.toNat ≤ m → ∃ k e, Marks s t k i e
  | m, i, h0, h1, hm => by
    by_cases c : pmark s i t < 0
    · exact ⟨0, i, rfl, c⟩
    · have hp := pmark_pos (s := s) (i := i) (t := t) (by omega) ht
      cases m with
      | zero => exact absurd hp.2 (by omega)
      | succ m =>
        obtain ⟨k, e, h⟩ := marks_all ht m (pmark s i t) (by omega) hp.2.2 (by omega)
        exact ⟨k + 1, e, by omega, h⟩
end Go.Proofs.YtdlkdecigpaaaaaGreatDoor
namespace Go.Proofs.YtdlkdecigpaaaaaGreatDoor
set_option linter.unusedVariables false
set_option linter.unusedSimpArgs false
open Go.RowKit

section
variable {s : ByteArray} {i : Int} {n : Nat}
theorem pmark_nl {t : ByteArray} (h : letterB (bt t 0) = false) : pmark s i t = markAt s i t := by unfold pmark; rw [h]; rfl
theorem signs_nl (hn : n = 3 ∨ n = 4 ∨ n = 5) {t : ByteArray} (h : t ∈ signsL n) : letterB (bt t 0) = false := by
  have h3 : ∀ t ∈ signsL 3, letterB (bt t 0) = false := by decide +kernel
  have h4 : ∀ t ∈ signsL 4, letterB (bt t 0) = false := by decide +kernel
  have h5 : ∀ t ∈ signsL 5, letterB (bt t 0) = false := by decide +kernel
  rcases hn with rfl | rfl | rfl
  · exact h3 t h
  · exact h4 t h
  · exact h5 t h
theorem fm_none : ∀ {l : List ByteArray}, firstMark s i l = none → ∀ t ∈ l, markAt s i t < 0
  | [], _, t, ht => by simp at ht
  | a :: l, h, t, ht => by
    unfold firstMark at h
    split at h
    · cases h
    · rename_i hc
      rcases List.mem_cons.1 ht with rfl | ht
      · omega
      · exact fm_none h t ht
theorem fm_some : ∀ {l : List ByteArray} {op : ByteArray} {e : Int}, firstMark s i l = some (op, e) → ∃ q, ∃ hq : q < l.length, l[q] = op ∧ (∀ (j : Nat) (hj : j < l.length), j < q → markAt s i l[j] < 0) ∧ markAt s i l[q] = e ∧ 0 ≤ e
  | [], _, _, h => by simp [firstMark] at h
  | a :: l, op, e, h => by
    unfold firstMark at h
    split at h
    · rename_i hc
      obtain ⟨rfl, rfl⟩ : a = op ∧ markAt s i a = e := by simpa using h
      exact ⟨0, by simp, rfl, fun j _ hj => by omega, rfl, hc⟩
    · rename_i hc
      obtain ⟨q, hq, h1, h2, h3, h4⟩ := fm_some h
      refine ⟨q + 1, by simpa using hq, by simpa using h1, fun j hj hjq => ?_, by simpa using h3, h4⟩
      cases j with
      | zero => simp only [List.getElem_cons_zero]; omega
      | succ j => simpa using h2 j (by simpa using hj) (by omega)
theorem pmark_word {t : ByteArray} (hl : letterB (bt t 0) = true) (hne : t ≠ eS) (h0 : 0 ≤ i) : (wordAt s i = t → 0 ≤ pmark s i t ∧ pmark s i t = wordAtEnd s i) ∧ (wordAt s i ≠ t → pmark s i t < 0) := by
  unfold pmark
  rw [if_pos hl]
  refine ⟨fun h => ?_, fun h => ?_⟩
  · rw [if_pos h]; exact word_mark h0 h hne
  · rw [if_neg h]; omega
theorem betw_none (hn : lv n) (h0 : 0 ≤ i) (h : betw s i n = none) : ∀ t ∈ signsL n, pmark s i t < 0 := by
  intro t ht
  by_cases c0 : n = 0
  · subst c0
    obtain rfl : t = orS := by simpa [signsL] using ht
    refine (pmark_word (by decide +kernel) (by decide) h0).2 fun hw => ?_
    simp [betw, hw] at h
  · by_cases c1 : n = 1
    · subst c1
      obtain rfl : t = andS := by simpa [signsL] using ht
      refine (pmark_word (by decide +kernel) (by decide) h0).2 fun hw => ?_
      simp [betw, hw] at h
    · rw [pmark_nl (signs_nl (by unfold lv at hn; omega) ht)]
      unfold betw at h
      rw [if_neg c0, if_neg c1] at h
      exact fm_none h t ht
theorem betw_some (hn : lv n) (h0 : 0 ≤ i) {op : ByteArray} {e : Int} (h : betw s i n = some (op, e)) :
    ∃ q, ∃ hq : q < (signsL n).length, (signsL n)[q] = op ∧ (∀ (j : Nat) (hj : j < (signsL n).length), j < q → pmark s i (signsL n)[j] < 0) ∧ pmark s i (signsL n)[q] = e ∧ 0 ≤ e := by
  by_cases c0 : n = 0
  · subst c0
    by_cases hw : wordAt s i = orS
    · obtain ⟨rfl, rfl⟩ : orS = op ∧ wordAtEnd s i = e := by simpa [betw, hw] using h
      have hp := (pmark_word (s := s) (i := i) (t := orS) (by decide +kernel) (by decide) h0).1 hw
      exact ⟨0, by decide, rfl, fun j _ hj => by omega, hp.2, by rw [← hp.2]; exact hp.1⟩
    · simp [betw, hw] at h
  · by_cases c1 : n = 1
    · subst c1
      by_cases hw : wordAt s i = andS
      · obtain ⟨rfl, rfl⟩ : andS = op ∧ wordAtEnd s i = e := by simpa [betw, hw] using h
        have hp := (pmark_word (s := s) (i := i) (t := andS) (by decide +kernel) (by decide) h0).1 hw
        exact ⟨0, by decide, rfl, fun j _ hj => by omega, hp.2, by rw [← hp.2]; exact hp.1⟩
      · simp [betw, hw] at h
    · have h345 : n = 3 ∨ n = 4 ∨ n = 5 := by unfold lv at hn; omega
      unfold betw at h
      rw [if_neg c0, if_neg c1] at h
      obtain ⟨q, hq, h1, h2, h3, h4⟩ := fm_some h
      refine ⟨q, hq, h1, fun j hj hjq => ?_, ?_, h4⟩
      · rw [pmark_nl (signs_nl h345 (List.getElem_mem hj))]; exact h2 j hj hjq
      · rw [pmark_nl (signs_nl h345 (List.getElem_mem hq))]; exact h3
end
end Go.Proofs.YtdlkdecigpaaaaaGreatDoor
namespace Go.Proofs.YtdlkdecigpaaaaaGreatDoor
set_option linter.unusedVariables false
set_option linter.unusedSimpArgs false
open Go.RowKit

abbrev XT.nine (T : XT) (vi vk va : Value) : Array Value := #[.string T.op, .string T.nm, .int .i64 T.lit.k, .bool T.lit.b, .int .i64 T.lit.n, .string T.lit.s, vi, vk, va]
theorem Sl.of_blk {w : World} {S : Nat → Prop} {g : Nat} {cs : Array Value} {t : TypeId} (h : w.heap[g]? = some (.cells cs t (0, 0))) (hS : S g) {size n : Nat} (hs : cs.size = n * size) : Sl w S size (.slice (some ⟨g, 0, none⟩) n n) n cs.toList :=
  ⟨by simp [hs], _, _, rfl, Nat.le_refl _, fun h => (by cases h), fun _ => ⟨g, 0, rfl, hS, cs, t, _, h, fun j u hj => by simpa using hj, fun j _ h => Nat.not_lt_zero _ h.2⟩⟩
section
variable {w W : World} {S : Nat → Prop} {m : Nat} {t : TypeId} {T U : XT} {vi vk va ui uk ua : Value}
theorem un_rep (op nm : ByteArray) (h : W.heap[m]? = some (.cells (T.nine vi vk va) t (0, 0))) (hS : S m) (hr : T.Rep W S vi vk va) : (XT.mk op nm VT.zero [T]).Rep W S (.slice none 0 0) (.slice none 0 0) (.slice (some ⟨m, 0, none⟩) 1 1) :=
  node_xrep (Sl.of_blk (n := 1) h hS rfl) ⟨T.head vi vk va, [], by simp [XT.head], ⟨vi, vk, va, rfl, hr⟩, rfl⟩
theorem bin_rep (op nm : ByteArray) (h : W.heap[m]? = some (.cells (T.nine vi vk va ++ U.nine ui uk ua) t (0, 0))) (hS : S m) (hr : T.Rep W S vi vk va) (hu : U.Rep W S ui uk ua) : (XT.mk op nm VT.zero [T, U]).Rep W S (.slice none 0 0) (.slice none 0 0) (.slice (some ⟨m, 0, none⟩) 2 2) :=
  node_xrep (Sl.of_blk (n := 2) h hS rfl) ⟨T.head vi vk va, U.head ui uk ua, by simp [XT.head], ⟨vi, vk, va, rfl, hr⟩, U.head ui uk ua, [], by simp, ⟨ui, uk, ua, rfl, hu⟩, rfl⟩
end
/-- Block b bears a tree, its parts lie in other new blocks; the result's block is as it was made. -/
structure VarX (s : ByteArray) (r : Res) (pl : Int) (g b : Nat) (T : XT) (vi vk va : Value) (w W : World) : Prop where
  blk : W.heap[b]? = some (.cells (T.nine vi vk va) 52 (0, 0))
  rep : T.Rep W (fun k => w.heap.size < k ∧ k ≠ b) vi vk va
  keeps : Keeps [g] w W
  box : W.heap[w.heap.size]? = some (.cells zero9 52 (0, 0))
  at_ : At s r pl g T W
/-- What stands at the end of a walk that answers a tree: block b bears it. -/
structure ToldX (s : ByteArray) (r : Res) (pl : Int) (g b : Nat) (T : XT) (vi vk va : Value) (w W : World) : Prop where
  blk : W.heap[b]? = some (.cells (T.nine vi vk va) 52 (0, 0))
  rep : T.Rep W (w.heap.size ≤ ·) vi vk va
  keeps : Keeps [g] w W
  at_ : At s r pl g T W
section
variable {s : ByteArray} {r : Res} {pl : Int} {g b : Nat} {T : XT} {vi vk va : Value} {w W : World}
theorem VarX.ret (h : VarX s r pl g b T vi vk va w W) (hg : g < w.heap.size) :
    ToldX s r pl g w.heap.size T vi vk va w (sets9 W w.heap.size (.string T.op) (.string T.nm) (.int .i64 T.lit.k) (.bool T.lit.b) (.int .i64 T.lit.n) (.string T.lit.s) vi vk va) := by
  have k9 := keeps_sets9 W w.heap.size (.string T.op) (.string T.nm) (.int .i64 T.lit.k) (.bool T.lit.b) (.int .i64 T.lit.n) (.string T.lit.s) vi vk va
  exact ⟨blk_sets9 h.box _ _ _ _ _ _ _ _ _, (h.rep.keep (kc_keeps k9 fun k hk2 => by simp; omega)).mono (fun k hk2 => by omega), h.keeps.step k9 (fun k hk2 hk3 => by simp at hk2; omega), h.at_.keeps k9 (by simp; omega)⟩
/-- A variable that is laid behind a call. -/
theorem varx_new {w0 : World} (hbox : w0.heap[w.heap.size]? = some (.cells zero9 52 (0, 0))) (hk0 : Keeps [g] w w0) (hg : g < w.heap.size) (hrep : T.Rep W (w0.heap.size ≤ ·) vi vk va) (hk : Keeps [g] w0 W) (hm : At s r pl g T W) :
    VarX s r pl g W.heap.size T vi vk va w (W.alloc (.cells (T.nine vi vk va) 52)) := by
  have hsz := hk.size
  have hsz0 := hk0.size
  have hb0 := hk_lt hbox
  have ka : Keeps [] W (W.alloc (.cells (T.nine vi vk va) 52)) := (Keeps.refl _ _).alloc _
  have hbox1 := hk.heap hbox (by simp; omega)
  refine ⟨new_blk _ _, (hrep.into (S' := fun k => w.heap.size < k ∧ k ≠ W.heap.size) (fun k x t fr h1 h2 => ⟨by omega, by have := hk_lt h2; omega⟩)).keep (kc_keeps ka fun k _ => by simp), (hk0.trans hk).step ka (fun k h1 h2 => by simp at h1), ka.heap hbox1 (by simp), hm.keeps ka (by simp)⟩
theorem sets9_alloc {W : World} {b : Nat} (o : Obj) (h : b < W.heap.size) (v0 v1 v2 v3 v4 v5 v6 v7 v8 : Value) : sets9 (W.alloc o) b v0 v1 v2 v3 v4 v5 v6 v7 v8 = (sets9 W b v0 v1 v2 v3 v4 v5 v6 v7 v8).alloc o := by
  have e : ∀ (W' : World) (i : Nat) (v : Value), W'.heap.size = W.heap.size → (W'.alloc o).setCell ⟨b, i, none⟩ v = (W'.setCell ⟨b, i, none⟩ v).alloc o := fun W' i v h' => World.setCell_alloc_past o b i v (by rw [h']; exact h)
  unfold sets9
  rw [e W 0 v0 rfl, e _ 1 v1 (by simp only [World.size_setCell]), e _ 2 v2 (by simp only [World.size_setCell]), e _ 3 v3 (by simp only [World.size_setCell]), e _ 4 v4 (by simp only [World.size_setCell]), e _ 5 v5 (by simp only [World.size_setCell]), e _ 6 v6 (by simp only [World.size_setCell]), e _ 7 v7 (by simp only [World.size_setCell]), e _ 8 v8 (by simp only [World.size_setCell])]
theorem VarX.un (h : VarX s r pl g b T vi vk va w W) (op : ByteArray) (hg : g < w.heap.size) (hb : w.heap.size < b) :
    VarX s (r.up op) pl g b (unT op T) (.slice none 0 0) (.slice none 0 0) (.slice (some ⟨W.heap.size, 0, none⟩) 1 1) w
      ((sets9 W b (.string op) (.string eS) (.int .i64 0) (.bool false) (.int .i64 0) (.string eS) (.slice none 0 0) (.slice none 0 0) (.slice (some ⟨W.heap.size, 0, none⟩) 1 1)).alloc (.cells (T.nine vi vk va) 52)) := by
  have k9 := keeps_sets9 (W.alloc (.cells (T.nine vi vk va) 52)) b (.string op) (.string eS) (.int .i64 0) (.bool false) (.int .i64 0) (.string eS) (.slice none 0 0) (.slice none 0 0) (.slice (some ⟨W.heap.size, 0, none⟩) 1 1)
  have hbl := hk_lt h.blk
  rw [← sets9_alloc _ hbl]
  have hsz := h.keeps.size
  have ka : Keeps [] W (W.alloc (.cells (T.nine vi vk va) 52)) := (Keeps.refl _ _).alloc _
  have k8 := (ka.mono (S' := [b]) (by simp)).trans k9
  have hu := un_rep op eS (S := fun k => w.heap.size < k ∧ k ≠ b) (new_blk W (.cells (T.nine vi vk va) 52)) ⟨by have := hk_lt h.box; omega, by omega⟩ (h.rep.keep (kc_keeps ka fun k _ => by simp))
  refine ⟨blk_sets9 (ka.same h.blk) _ _ _ _ _ _ _ _ _, hu.keep (kc_keeps k9 fun k hk => by simp; exact hk.2), h.keeps.step k8 (fun k h1 h2 => by simp at h1; omega), k8.heap h.box (by simp; omega), (At.up (op := op) h.at_).keeps k8 (by simp; omega)⟩
end
end Go.Proofs.YtdlkdecigpaaaaaGreatDoor
