/- Put together: The parser's one: a text; The parser's one: an int; an answer handed on; The parser's levels with a sign ahead; The parser's signs ahead; What stands between expressions, by the parser's marks. Plain words; A variable that bears a tree; trees of one and of two parts; what is told at a walk's end; The walk of signs ahead; What is put together from the left: two variables that bear trees; the states of a chain; The walk of a chain; The document's parser: a mark, a name's number of parts, what is reserved; The document's parser: a name's number of parts; what is reserved. -/
import Derived.Test.YtdlkdecigpaaaaaGreatDoorMp26
namespace Go.Proofs.YtdlkdecigpaaaaaGreatDoor
set_option linter.unusedVariables false
set_option linter.unusedSimpArgs false
open Go.RowKit

section
variable (s : ByteArray) (i pl : Int) (g : Nat) (w : World)
set_option maxRecDepth 20000 in
set_option maxHeartbeats 8000000 in
theorem eone_text (h : PAt s i pl 0 g w) (hv : VarOk w) (hg2 : 5 < g) (h0 : 0 ≤ i) (h1 : i ≤ s.size) (hs : s.size ≤ 1000000) (hq : isAt s (blanks s i) 34 = true) :
    Calls Tryz.prog 178 #[.pointer (some ⟨g, 0, none⟩)] w (PSays s (textR s (blanks s i)) pl g w) := by
  have hglt := hk_lt h
  have hB := Lib.hid (box_new h)
  have hgne : w.heap.size ≠ g := by omega
  have HA := Lib.hid (eahead_any s i pl 0 g _ hB.out.1 h0 hs)
  have HW := Lib.hid (eword_any s i pl 0 g _ hB.out.1 h0 h1 hs)
  have hva : VarOk (w.alloc (.cells zero9 52)) := hv.keeps ((Keeps.refl [] w).alloc _) (by simp)
  have HT := Lib.hid (fun n => etext_any s i pl g _ (pat_drewN hB.out.1 n) (hva.keeps ((Keeps.refl [] _).drewN n) (by simp)) hg2 h0 h1 hs hq)
  have gc := cell_blk hB.out.1
  have hlt := isAt_lt hq
  have hbt := bt_at s (blanks s i)
  have hb34 : bt s (blanks s i) = 34 := by
    simp only [isAt, Bool.and_eq_true, beq_iff_eq] at hq
    exact hq.2
  have HD := Lib.hid (fun w => (edigit_any 34 w (by omega) (by omega) : Calls Tryz.prog 102 #[.int .u8 34] w fun e w' => e = .returned (.bool false) ∧ w = w'))
  rw [hb34] at hbt
  have hb0 := blanks_ge0 s i h0
  have HR : Hid (textR s (blanks s i) = if (strF s (blanks s i)).2.2 = 0 then .ok (litT (textV (strF s (blanks s i)).1.text)) (strF s (blanks s i)).1.stop else .err (strF s (blanks s i)).2.1 (strF s (blanks s i)).2.2) := Lib.hid rfl
  generalize textR s (blanks s i) = r at *
  generalize strF s (blanks s i) = x at *
  generalize wordAt s i = t at *
  generalize blanks s i = q at *
  clear h hv hva hb34 hq
  go_enter Tryz.func178, Tryz.ntmps178
  go_wp2_with (first
    | (go_at_call 46; refine HA.out.mono ?_; rintro e w' ⟨rfl, rfl⟩)
    | (go_at_call 57; refine HW.out.mono ?_; rintro e w' ⟨rfl, n, rfl⟩)
    | (go_at_call 102; refine (HD.out _).mono ?_; rintro e w' ⟨rfl, rfl⟩))
  refine (HT.out _).mono ?_
  rintro e w1 hx
  by_cases hc : x.2.2 = 0
  · obtain ⟨rfl, hp1, hk1⟩ := hx.1 hc
    have HR2 := Lib.hid (HR.out.trans (if_pos hc))
    have HB1 := Lib.hid (Box.to (b := w.heap.size) (w := w) ⟨pat_drewN hB.out.1 _, hB.out.2.1.drewN _, hB.out.2.2⟩ hgne hk1 hp1)
    clear hx hp1 hk1 hc HR
    go_wp2_with fail
    refine (vtext_any _ _).mono ?_
    rintro e w2 ⟨rfl, hk2⟩
    have HB2 := Lib.hid (HB1.out.go hk2)
    clear hk2
    go_wp2_with fail
    refine (eliteral_any _ _ _ _ _ _ _ _ _ _ _).mono ?_
    rintro e w3 ⟨rfl, hk3⟩
    have HB3 := Lib.hid (HB2.out.go hk3)
    have gb3 := cell_blk HB3.out.2.2
    have gbf3 := frozen_blk HB3.out.2.2
    clear hk3
    go_wp2
    refine abs_post (F := fun W => W.heap[w.heap.size]? = some (.cells #[.string litS, .string eS, .int .i64 3, .bool false, .int .i64 0, .string x.1.text, .slice none 0 0, .slice none 0 0, .slice none 0 0] 52 (0, 0)) ∧ PAt s x.1.stop pl 0 g W ∧ Keeps [g] w W) (HB3.out.lay hgne (Nat.le_refl _) _ _ _ _ _ _ _ _ _) (fun W hW => ?_)
    have cr := cell_blk hW.1
    exact bodyPost_ret (v := (litT (textV x.1.text)).agg (.slice none 0 0) (.slice none 0 0) (.slice none 0 0)) (by simp [results, Tryz.results178, go_sem, cr]; exact ⟨rfl, rfl, rfl, rfl, rfl, rfl⟩) rfl (HR2.out ▸ psays_ok s pl g w rfl (leaf_xrep _ _ _ _ _ _ _ _) hW.2.1 hW.2.2)
  · obtain ⟨rfl, hp1, hk1⟩ := hx.2 hc
    have HR2 := Lib.hid (HR.out.trans (if_neg hc))
    have HB1 := Lib.hid (Box.to (b := w.heap.size) (w := w) ⟨pat_drewN hB.out.1 _, hB.out.2.1.drewN _, hB.out.2.2⟩ hgne hk1 hp1)
    clear hx hp1 hk1 hc HR
    go_wp2_with fail
    refine (vtext_any _ _).mono ?_
    rintro e w2 ⟨rfl, hk2⟩
    have HB2 := Lib.hid (HB1.out.go hk2)
    clear hk2
    go_wp2_with fail
    refine (eliteral_any _ _ _ _ _ _ _ _ _ _ _).mono ?_
    rintro e w3 ⟨rfl, hk3⟩
    have HB3 := Lib.hid (HB2.out.go hk3)
    have gb3 := cell_blk HB3.out.2.2
    have gbf3 := frozen_blk HB3.out.2.2
    clear hk3
    go_wp2
    refine abs_post (F := fun W => W.heap[w.heap.size]? = some (.cells #[.string litS, .string eS, .int .i64 3, .bool false, .int .i64 0, .string eS, .slice none 0 0, .slice none 0 0, .slice none 0 0] 52 (0, 0)) ∧ PAt s i x.2.1 x.2.2 g W ∧ Keeps [g] w W) (HB3.out.lay hgne (Nat.le_refl _) _ _ _ _ _ _ _ _ _) (fun W hW => ?_)
    have cr := cell_blk hW.1
    exact bodyPost_ret (v := (litT (textV eS)).agg (.slice none 0 0) (.slice none 0 0) (.slice none 0 0)) (by simp [results, Tryz.results178, go_sem, cr]; exact ⟨rfl, rfl, rfl, rfl, rfl, rfl⟩) rfl (HR2.out ▸ psays_err s pl g w rfl (leaf_xrep _ _ _ _ _ _ _ _) h0 h1 hW.2.1 hW.2.2)
end
end Go.Proofs.YtdlkdecigpaaaaaGreatDoor
namespace Go.Proofs.YtdlkdecigpaaaaaGreatDoor
set_option linter.unusedVariables false
set_option linter.unusedSimpArgs false
open Go.RowKit

section
variable {s : ByteArray} {pl : Int} {g b : Nat} {w W w1 : World} {T : XT} {vi vk va : Value}
/-- Where the parser is behind an answer. -/
def At (s : ByteArray) (r : Res) (pl : Int) (g : Nat) (T : XT) (w' : World) : Prop :=
  match r with | .ok U p => T = U ∧ PAt s p pl 0 g w' | .err p c => ∃ a : Int, 0 ≤ a ∧ a ≤ s.size ∧ PAt s a p c g w'
theorem At.keeps {r : Res} {S : List Nat} {w2 : World} (h : At s r pl g T w1) (k : Keeps S w1 w2) (hg : g ∉ S) : At s r pl g T w2 := by
  cases r with
  | ok U p => exact ⟨h.1, pat_keeps h.2 k hg⟩
  | err p c => obtain ⟨a, h0, h1, h2⟩ := h; exact (show ∃ a : Int, 0 ≤ a ∧ a ≤ s.size ∧ PAt s a p c g w2 from ⟨a, h0, h1, pat_keeps h2 k hg⟩)
theorem psays_at {r : Res} {e : Ending} (h : PSays s r pl g W e w1) : ∃ (T : XT) (vi vk va : Value), e = .returned (T.agg vi vk va) ∧ T.Rep w1 (W.heap.size ≤ ·) vi vk va ∧ Keeps [g] W w1 ∧ At s r pl g T w1 := h
theorem at_psays {r : Res} {e : Ending} (h0 : e = .returned (T.agg vi vk va)) (h1 : T.Rep w1 (W.heap.size ≤ ·) vi vk va) (h2 : Keeps [g] W w1) (h3 : At s r pl g T w1) : PSays s r pl g W e w1 := ⟨T, vi, vk, va, h0, h1, h2, h3⟩
theorem lay_says {r : Res} (hB : Keeps [g] w W) (hbw : w.heap.size ≤ b) (hbW : b < W.heap.size) (hgb : b ≠ g) (hr : T.Rep w1 (W.heap.size ≤ ·) vi vk va) (hk : Keeps [g] W w1) (hm : At s r pl g T w1) (v0 v1 v2 v3 v4 v5 v6 v7 v8 : Value) :
    T.Rep (sets9 w1 b v0 v1 v2 v3 v4 v5 v6 v7 v8) (w.heap.size ≤ ·) vi vk va ∧ Keeps [g] w (sets9 w1 b v0 v1 v2 v3 v4 v5 v6 v7 v8) ∧ At s r pl g T (sets9 w1 b v0 v1 v2 v3 v4 v5 v6 v7 v8) := by
  have k9 := keeps_sets9 w1 b v0 v1 v2 v3 v4 v5 v6 v7 v8
  have hsz := hB.size
  refine ⟨(hr.keep (kc_keeps k9 fun k hk2 => by simp; omega)).mono (fun k hk2 => Nat.le_trans hsz hk2), (hB.trans hk).step k9 (fun k hk2 hk3 => by simp at hk2; omega), hm.keeps k9 (by simpa using fun e => hgb e.symm)⟩
end
section
variable (s : ByteArray) (i pl : Int) (g : Nat) (w : World)
set_option maxRecDepth 20000 in
set_option maxHeartbeats 8000000 in
theorem eone_num (h : PAt s i pl 0 g w) (hv : VarOk w) (h0 : 0 ≤ i) (h1 : i ≤ s.size) (hs : s.size ≤ 1000000) (hq : digitAt s (blanks s i) = true) :
    Calls Tryz.prog 178 #[.pointer (some ⟨g, 0, none⟩)] w (PSays s (numR s (blanks s i)) pl g w) := by
  have hglt := hk_lt h
  have hB := Lib.hid (box_new h)
  have hgne : w.heap.size ≠ g := by omega
  have HA := Lib.hid (eahead_any s i pl 0 g _ hB.out.1 h0 hs)
  have HW := Lib.hid (eword_any s i pl 0 g _ hB.out.1 h0 h1 hs)
  have hva : VarOk (w.alloc (.cells zero9 52)) := hv.keeps ((Keeps.refl [] w).alloc _) (by simp)
  have hb0 := blanks_ge0 s i h0
  have HT := Lib.hid (fun n => enumber_any s i pl (blanks s i) g _ (pat_drewN hB.out.1 n) (hva.keeps ((Keeps.refl [] _).drewN n) (by simp)) hb0 hs hq)
  have gc := cell_blk hB.out.1
  have hlt := digitAt_lt hq
  have hbt := bt_at s (blanks s i)
  have hr := bt_range s (blanks s i)
  have HD := Lib.hid (fun w => ((show digitB (bt s (blanks s i)) = true by rw [← digit_bt hlt]; exact hq) ▸ edigit_any (bt s (blanks s i)) w hr.1 hr.2 : Calls Tryz.prog 102 #[.int .u8 (bt s (blanks s i))] w fun e w' => e = .returned (.bool true) ∧ w = w'))
  generalize numR s (blanks s i) = r at *
  generalize wordAt s i = t at *
  generalize blanks s i = q at *
  clear h hv hva hq
  go_enter Tryz.func178, Tryz.ntmps178
  go_wp2_with (first
    | (go_at_call 46; refine HA.out.mono ?_; rintro e w' ⟨rfl, rfl⟩)
    | (go_at_call 57; refine HW.out.mono ?_; rintro e w' ⟨rfl, n, rfl⟩)
    | (go_at_call 102; refine (HD.out _).mono ?_; rintro e w' ⟨rfl, rfl⟩))
  refine (HT.out _).mono ?_
  rintro e w1 hx
  obtain ⟨T, vi, vk, va, rfl, hrep, hk1, hm⟩ := psays_at hx
  obtain ⟨a1, c1, a2, c2, a3, c3, rfl, rfl, rfl⟩ := xrep_shape hrep
  have HB1 : Hid (w1.heap[w.heap.size]? = some (.cells zero9 52 (0, 0))) := Lib.hid (hk1.heap hB.out.2.2 (by simpa using hgne))
  have HX := Lib.hid (lay_says (b := w.heap.size) (w := w) (hB.out.2.1.drewN n) (Nat.le_refl _) (hk_lt hB.out.2.2) hgne hrep hk1 hm)
  have gb3 := cell_blk HB1.out
  have gbf3 := frozen_blk HB1.out
  clear hx hrep hk1 hm
  go_wp2
  refine abs_post (F := fun W => W.heap[w.heap.size]? = some (.cells #[.string T.op, .string T.nm, .int .i64 T.lit.k, .bool T.lit.b, .int .i64 T.lit.n, .string T.lit.s, .slice a1 T.lit.its.length c1, .slice a2 T.lit.ks.length c2, .slice a3 T.args.length c3] 52 (0, 0)) ∧ T.Rep W (w.heap.size ≤ ·) (.slice a1 T.lit.its.length c1) (.slice a2 T.lit.ks.length c2) (.slice a3 T.args.length c3) ∧ Keeps [g] w W ∧ At s r pl g T W) ⟨blk_sets9 HB1.out _ _ _ _ _ _ _ _ _, HX.out _ _ _ _ _ _ _ _ _⟩ (fun W hW => ?_)
  have cr := cell_blk hW.1
  exact bodyPost_ret (v := T.agg (.slice a1 T.lit.its.length c1) (.slice a2 T.lit.ks.length c2) (.slice a3 T.args.length c3)) (by simp [results, Tryz.results178, go_sem, cr]) rfl (at_psays rfl hW.2.1 hW.2.2.1 hW.2.2.2)
end
end Go.Proofs.YtdlkdecigpaaaaaGreatDoor
namespace Go.Proofs.YtdlkdecigpaaaaaGreatDoor
set_option linter.unusedVariables false
set_option linter.unusedSimpArgs false
open Go.RowKit

section
variable (s : ByteArray) (i pl : Int) (g : Nat) (w : World)
set_option maxRecDepth 20000 in
set_option maxHeartbeats 4000000 in
theorem esign_of (r : Res) (h : PAt s i pl 0 g w) (HS : Calls Tryz.prog 132 #[.pointer (some ⟨g, 0, none⟩), .func (.func 175) #[] #[], .string ⟨#[45]⟩, .string negS] (w.alloc (.cells zero9 52)) (PSays s r pl g (w.alloc (.cells zero9 52)))) :
    Calls Tryz.prog 170 #[.pointer (some ⟨g, 0, none⟩)] w (PSays s r pl g w) := by
  have hglt := hk_lt h
  have hB := Lib.hid (box_new h)
  have hgne : w.heap.size ≠ g := by omega
  have HT := Lib.hid HS
  clear h HS
  go_enter Tryz.func170, Tryz.ntmps170
  go_wp2_with fail
  refine HT.out.mono ?_
  rintro e w1 hx
  obtain ⟨T, vi, vk, va, rfl, hrep, hk1, hm⟩ := psays_at hx
  obtain ⟨a1, c1, a2, c2, a3, c3, rfl, rfl, rfl⟩ := xrep_shape hrep
  have HB1 : Hid (w1.heap[w.heap.size]? = some (.cells zero9 52 (0, 0))) := Lib.hid (hk1.heap hB.out.2.2 (by simpa using hgne))
  have HX := Lib.hid (lay_says (b := w.heap.size) (w := w) hB.out.2.1 (Nat.le_refl _) (hk_lt hB.out.2.2) hgne hrep hk1 hm)
  have gb3 := cell_blk HB1.out
  have gbf3 := frozen_blk HB1.out
  clear hx hrep hk1 hm
  go_wp2
  refine abs_post (F := fun W => W.heap[w.heap.size]? = some (.cells #[.string T.op, .string T.nm, .int .i64 T.lit.k, .bool T.lit.b, .int .i64 T.lit.n, .string T.lit.s, .slice a1 T.lit.its.length c1, .slice a2 T.lit.ks.length c2, .slice a3 T.args.length c3] 52 (0, 0)) ∧ T.Rep W (w.heap.size ≤ ·) (.slice a1 T.lit.its.length c1) (.slice a2 T.lit.ks.length c2) (.slice a3 T.args.length c3) ∧ Keeps [g] w W ∧ At s r pl g T W) ⟨blk_sets9 HB1.out _ _ _ _ _ _ _ _ _, HX.out _ _ _ _ _ _ _ _ _⟩ (fun W hW => ?_)
  have cr := cell_blk hW.1
  exact bodyPost_ret (v := T.agg (.slice a1 T.lit.its.length c1) (.slice a2 T.lit.ks.length c2) (.slice a3 T.args.length c3)) (by simp [results, Tryz.results170, go_sem, cr]) rfl (at_psays rfl hW.2.1 hW.2.2.1 hW.2.2.2)
set_option maxRecDepth 20000 in
set_option maxHeartbeats 4000000 in
theorem enot_of (r : Res) (h : PAt s i pl 0 g w) (HS : Calls Tryz.prog 132 #[.pointer (some ⟨g, 0, none⟩), .func (.func 133) #[] #[], .string notS, .string notS] (w.alloc (.cells zero9 52)) (PSays s r pl g (w.alloc (.cells zero9 52)))) :
    Calls Tryz.prog 94 #[.pointer (some ⟨g, 0, none⟩)] w (PSays s r pl g w) := by
  have hglt := hk_lt h
  have hB := Lib.hid (box_new h)
  have hgne : w.heap.size ≠ g := by omega
  have HT := Lib.hid HS
  clear h HS
  go_enter Tryz.func94, Tryz.ntmps94
  go_wp2_with fail
  refine HT.out.mono ?_
  rintro e w1 hx
  obtain ⟨T, vi, vk, va, rfl, hrep, hk1, hm⟩ := psays_at hx
  obtain ⟨a1, c1, a2, c2, a3, c3, rfl, rfl, rfl⟩ := xrep_shape hrep
  have HB1 : Hid (w1.heap[w.heap.size]? = some (.cells zero9 52 (0, 0))) := Lib.hid (hk1.heap hB.out.2.2 (by simpa using hgne))
  have HX := Lib.hid (lay_says (b := w.heap.size) (w := w) hB.out.2.1 (Nat.le_refl _) (hk_lt hB.out.2.2) hgne hrep hk1 hm)
  have gb3 := cell_blk HB1.out
  have gbf3 := frozen_blk HB1.out
  clear hx hrep hk1 hm
  go_wp2
  refine abs_post (F := fun W => W.heap[w.heap.size]? = some (.cells #[.string T.op, .string T.nm, .int .i64 T.lit.k, .bool T.lit.b, .int .i64 T.lit.n, .string T.lit.s, .slice a1 T.lit.its.length c1, .slice a2 T.lit.ks.length c2, .slice a3 T.args.length c3] 52 (0, 0)) ∧ T.Rep W (w.heap.size ≤ ·) (.slice a1 T.lit.its.length c1) (.slice a2 T.lit.ks.length c2) (.slice a3 T.args.length c3) ∧ Keeps [g] w W ∧ At s r pl g T W) ⟨blk_sets9 HB1.out _ _ _ _ _ _ _ _ _, HX.out _ _ _ _ _ _ _ _ _⟩ (fun W hW => ?_)
  have cr := cell_blk hW.1
  exact bodyPost_ret (v := T.agg (.slice a1 T.lit.its.length c1) (.slice a2 T.lit.ks.length c2) (.slice a3 T.args.length c3)) (by simp [results, Tryz.results94, go_sem, cr]) rfl (at_psays rfl hW.2.1 hW.2.2.1 hW.2.2.2)
end
end Go.Proofs.YtdlkdecigpaaaaaGreatDoor
namespace Go.Proofs.YtdlkdecigpaaaaaGreatDoor
set_option linter.unusedVariables false
set_option linter.unusedSimpArgs false
open Go.RowKit

def upN (op : ByteArray) : Nat → Res → Res
  | 0, r => r
  | k + 1, r => (upN op k r).up op
/-- So many signs stand behind a place; the place behind them. -/
def Marks (s t : ByteArray) : Nat → Int → Int → Prop
  | 0, i, e => e = i ∧ pmark s i t < 0
  | k + 1, i, e => 0 ≤ pmark s i t ∧ Marks s t k (pmark s i t) e
theorem up_comm (op : ByteArray) : ∀ (k : Nat) (r : Res), upN op k (r.up op) = upN op (k + 1) r
  | 0, _ => rfl
  | k + 1, r => by show (upN op k (r.up op)).up op = (upN op (k + 1) r).up op; rw [up_comm op k r]
theorem marks_pos {s t : ByteArray} (ht : 0 < t.size) : ∀ (k : Nat) {i e : Int}, Marks s t k i e → i ≤ s.size → i ≤ e ∧ e ≤ s.size
  | 0, _, _, h, h1 => by have := h.1; omega
  | k + 1, i, e, h, _ => by
    have hp := pmark_pos h.1 ht
    have := marks_pos ht k h.2 hp.2.2
    omega
theorem At.up {s op : ByteArray} {r : Res} {pl : Int} {g : Nat} {T : XT} {w : World} (h : At s r pl g T w) : At s (r.up op) pl g (unT op T) w := by
  cases r with
  | ok U p => exact ⟨by rw [h.1], h.2⟩
  | err p c => exact h
/-- There are so many. -/
theorem marks_all {s t : ByteArray} (ht : 0 < t.size) : ∀ (m : Nat) (i : Int), 0 ≤ i → i ≤ s.size → s.size - i.toNat ≤ m → ∃ k e, Marks s t k i e
  | m, i, h0, h1, hm => by
    by_cases c : pmark s i t < 0
    · exact ⟨0, i, rfl, c⟩
    · have hp := pmark_pos (s := s) (i := i) (t := t) (by omega) ht
      cases m with
      | zero => exact absurd hp.2 (by omega)
      | succ m =>
        obtain ⟨k, e, h⟩ := marks_all ht m (pmark s i t) (by omega) hp.2.2 (by omega)
        exact ⟨k + 1, e, by omega, h⟩
end Go.Proofs.YtdlkdecigpaaaaaGreatDoor
namespace Go.Proofs.YtdlkdecigpaaaaaGreatDoor
set_option linter.unusedVariables false
set_option linter.unusedSimpArgs false
open Go.RowKit

section
variable {s : ByteArray} {i : Int} {n : Nat}
theorem pmark_nl {t : ByteArray} (h : letterB (bt t 0) = false) : pmark s i t = markAt s i t := by unfold pmark; rw [h]; rfl
theorem signs_nl (hn : n = 3 ∨ n = 4 ∨ n = 5) {t : ByteArray} (h : t ∈ signsL n) : letterB (bt t 0) = false := by
  have h3 : ∀ t ∈ signsL 3, letterB (bt t 0) = false := by decide +kernel
  have h4 : ∀ t ∈ signsL 4, letterB (bt t 0) = false := by decide +kernel
  have h5 : ∀ t ∈ signsL 5, letterB (bt t 0) = false := by decide +kernel
  rcases hn with rfl | rfl | rfl
  · exact h3 t h
  · exact h4 t h
  · exact h5 t h
theorem fm_none : ∀ {l : List ByteArray}, firstMark s i l = none → ∀ t ∈ l, markAt s i t < 0
  | [], _, t, ht => by simp at ht
  | a :: l, h, t, ht => by
    unfold firstMark at h
    split at h
    · cases h
    · rename_i hc
      rcases List.mem_cons.1 ht with rfl | ht
      · omega
      · exact fm_none h t ht
theorem fm_some : ∀ {l : List ByteArray} {op : ByteArray} {e : Int}, firstMark s i l = some (op, e) → ∃ q, ∃ hq : q < l.length, l[q] = op ∧ (∀ (j : Nat) (hj : j < l.length), j < q → markAt s i l[j] < 0) ∧ markAt s i l[q] = e ∧ 0 ≤ e
  | [], _, _, h => by simp [firstMark] at h
  | a :: l, op, e, h => by
    unfold firstMark at h
    split at h
    · rename_i hc
      obtain ⟨rfl, rfl⟩ : a = op ∧ markAt s i a = e := by simpa using h
      exact ⟨0, by simp, rfl, fun j _ hj => by omega, rfl, hc⟩
    · rename_i hc
      obtain ⟨q, hq, h1, h2, h3, h4⟩ := fm_some h
      refine ⟨q + 1, by simpa using hq, by simpa using h1, fun j hj hjq => ?_, by simpa using h3, h4⟩
      cases j with
      | zero => simp only [List.getElem_cons_zero]; omega
      | succ j => simpa using h2 j (by simpa using hj) (by omega)
theorem pmark_word {t : ByteArray} (hl : letterB (bt t 0) = true) (hne : t ≠ eS) (h0 : 0 ≤ i) : (wordAt s i = t → 0 ≤ pmark s i t ∧ pmark s i t = wordAtEnd s i) ∧ (wordAt s i ≠ t → pmark s i t < 0) := by
  unfold pmark
  rw [if_pos hl]
  refine ⟨fun h => ?_, fun h => ?_⟩
  · rw [if_pos h]; exact word_mark h0 h hne
  · rw [if_neg h]; omega
theorem betw_none (hn : lv n) (h0 : 0 ≤ i) (h : betw s i n = none) : ∀ t ∈ signsL n, pmark s i t < 0 := by
  intro t ht
  by_cases c0 : n = 0
  · subst c0
    obtain rfl : t = orS := by simpa [signsL] using ht
    refine (pmark_word (by decide +kernel) (by decide) h0).2 fun hw => ?_
    simp [betw, hw] at h
  · by_cases c1 : n = 1
    · subst c1
      obtain rfl : t = andS := by simpa [signsL] using ht
      refine (pmark_word (by decide +kernel) (by decide) h0).2 fun hw => ?_
      simp [betw, hw] at h
    · rw [pmark_nl (signs_nl (by unfold lv at hn; omega) ht)]
      unfold betw at h
      rw [if_neg c0, if_neg c1] at h
      exact fm_none h t ht
theorem betw_some (hn : lv n) (h0 : 0 ≤ i) {op : ByteArray} {e : Int} (h : betw s i n = some (op, e)) :
    ∃ q, ∃ hq : q < (signsL n).length, (signsL n)[q] = op ∧ (∀ (j : Nat) (hj : j < (signsL n).length), j < q → pmark s i (signsL n)[j] < 0) ∧ pmark s i (signsL n)[q] = e ∧ 0 ≤ e := by
  by_cases c0 : n = 0
  · subst c0
    by_cases hw : wordAt s i = orS
    · obtain ⟨rfl, rfl⟩ : orS = op ∧ wordAtEnd s i = e := by simpa [betw, hw] using h
      have hp := (pmark_word (s := s) (i := i) (t := orS) (by decide +kernel) (by decide) h0).1 hw
      exact ⟨0, by decide, rfl, fun j _ hj => by omega, hp.2, by rw [← hp.2]; exact hp.1⟩
    · simp [betw, hw] at h
  · by_cases c1 : n = 1
    · subst c1
      by_cases hw : wordAt s i = andS
      · obtain ⟨rfl, rfl⟩ : andS = op ∧ wordAtEnd s i = e := by simpa [betw, hw] using h
        have hp := (pmark_word (s := s) (i := i) (t := andS) (by decide +kernel) (by decide) h0).1 hw
        exact ⟨0, by decide, rfl, fun j _ hj => by omega, hp.2, by rw [← hp.2]; exact hp.1⟩
      · simp [betw, hw] at h
    · have h345 : n = 3 ∨ n = 4 ∨ n = 5 := by unfold lv at hn; omega
      unfold betw at h
      rw [if_neg c0, if_neg c1] at h
      obtain ⟨q, hq, h1, h2, h3, h4⟩ := fm_some h
      refine ⟨q, hq, h1, fun j hj hjq => ?_, ?_, h4⟩
      · rw [pmark_nl (signs_nl h345 (List.getElem_mem hj))]; exact h2 j hj hjq
      · rw [pmark_nl (signs_nl h345 (List.getElem_mem hq))]; exact h3
end
end Go.Proofs.YtdlkdecigpaaaaaGreatDoor
namespace Go.Proofs.YtdlkdecigpaaaaaGreatDoor
set_option linter.unusedVariables false
set_option linter.unusedSimpArgs false
open Go.RowKit

abbrev XT.nine (T : XT) (vi vk va : Value) : Array Value := #[.string T.op, .string T.nm, .int .i64 T.lit.k, .bool T.lit.b, .int .i64 T.lit.n, .string T.lit.s, vi, vk, va]
theorem Sl.of_blk {w : World} {S : Nat → Prop} {g : Nat} {cs : Array Value} {t : TypeId} (h : w.heap[g]? = some (.cells cs t (0, 0))) (hS : S g) {size n : Nat} (hs : cs.size = n * size) : Sl w S size (.slice (some ⟨g, 0, none⟩) n n) n cs.toList :=
  ⟨by simp [hs], _, _, rfl, Nat.le_refl _, fun h => (by cases h), fun _ => ⟨g, 0, rfl, hS, cs, t, _, h, fun j u hj => by simpa using hj, fun j _ h => Nat.not_lt_zero _ h.2⟩⟩
section
variable {w W : World} {S : Nat → Prop} {m : Nat} {t : TypeId} {T U : XT} {vi vk va ui uk ua : Value}
theorem un_rep (op nm : ByteArray) (h : W.heap[m]? = some (.cells (T.nine vi vk va) t (0, 0))) (hS : S m) (hr : T.Rep W S vi vk va) : (XT.mk op nm VT.zero [T]).Rep W S (.slice none 0 0) (.slice none 0 0) (.slice (some ⟨m, 0, none⟩) 1 1) :=
  node_xrep (Sl.of_blk (n := 1) h hS rfl) ⟨T.head vi vk va, [], by simp [XT.head], ⟨vi, vk, va, rfl, hr⟩, rfl⟩
theorem bin_rep (op nm : ByteArray) (h : W.heap[m]? = some (.cells (T.nine vi vk va ++ U.nine ui uk ua) t (0, 0))) (hS : S m) (hr : T.Rep W S vi vk va) (hu : U.Rep W S ui uk ua) : (XT.mk op nm VT.zero [T, U]).Rep W S (.slice none 0 0) (.slice none 0 0) (.slice (some ⟨m, 0, none⟩) 2 2) :=
  node_xrep (Sl.of_blk (n := 2) h hS rfl) ⟨T.head vi vk va, U.head ui uk ua, by simp [XT.head], ⟨vi, vk, va, rfl, hr⟩, U.head ui uk ua, [], by simp, ⟨ui, uk, ua, rfl, hu⟩, rfl⟩
end
/-- Block b bears a tree, its parts lie in other new blocks; the result's block is as it was made. -/
structure VarX (s : ByteArray) (r : Res) (pl : Int) (g b : Nat) (T : XT) (vi vk va : Value) (w W : World) : Prop where
  blk : W.heap[b]? = some (.cells (T.nine vi vk va) 52 (0, 0))
  rep : T.Rep W (fun k => w.heap.size < k ∧ k ≠ b) vi vk va
  keeps : Keeps [g] w W
  box : W.heap[w.heap.size]? = some (.cells zero9 52 (0, 0))
  at_ : At s r pl g T W
/-- What stands at the end of a walk that answers a tree: block b bears it. -/
structure ToldX (s : ByteArray) (r : Res) (pl : Int) (g b : Nat) (T : XT) (vi vk va : Value) (w W : World) : Prop where
  blk : W.heap[b]? = some (.cells (T.nine vi vk va) 52 (0, 0))
  rep : T.Rep W (w.heap.size ≤ ·) vi vk va
  keeps : Keeps [g] w W
  at_ : At s r pl g T W
section
variable {s : ByteArray} {r : Res} {pl : Int} {g b : Nat} {T : XT} {vi vk va : Value} {w W : World}
theorem VarX.ret (h : VarX s r pl g b T vi vk va w W) (hg : g < w.heap.size) :
    ToldX s r pl g w.heap.size T vi vk va w (sets9 W w.heap.size (.string T.op) (.string T.nm) (.int .i64 T.lit.k) (.bool T.lit.b) (.int .i64 T.lit.n) (.string T.lit.s) vi vk va) := by
  have k9 := keeps_sets9 W w.heap.size (.string T.op) (.string T.nm) (.int .i64 T.lit.k) (.bool T.lit.b) (.int .i64 T.lit.n) (.string T.lit.s) vi vk va
  exact ⟨blk_sets9 h.box _ _ _ _ _ _ _ _ _, (h.rep.keep (kc_keeps k9 fun k hk2 => by simp; omega)).mono (fun k hk2 => by omega), h.keeps.step k9 (fun k hk2 hk3 => by simp at hk2; omega), h.at_.keeps k9 (by simp; omega)⟩
/-- A variable that is laid behind a call. -/
theorem varx_new {w0 : World} (hbox : w0.heap[w.heap.size]? = some (.cells zero9 52 (0, 0))) (hk0 : Keeps [g] w w0) (hg : g < w.heap.size) (hrep : T.Rep W (w0.heap.size ≤ ·) vi vk va) (hk : Keeps [g] w0 W) (hm : At s r pl g T W) :
    VarX s r pl g W.heap.size T vi vk va w (W.alloc (.cells (T.nine vi vk va) 52)) := by
  have hsz := hk.size
  have hsz0 := hk0.size
  have hb0 := hk_lt hbox
  have ka : Keeps [] W (W.alloc (.cells (T.nine vi vk va) 52)) := (Keeps.refl _ _).alloc _
  have hbox1 := hk.heap hbox (by simp; omega)
  refine ⟨new_blk _ _, (hrep.into (S' := fun k => w.heap.size < k ∧ k ≠ W.heap.size) (fun k x t fr h1 h2 => ⟨by omega, by have := hk_lt h2; omega⟩)).keep (kc_keeps ka fun k _ => by simp), (hk0.trans hk).step ka (fun k h1 h2 => by simp at h1), ka.heap hbox1 (by simp), hm.keeps ka (by simp)⟩
theorem sets9_alloc {W : World} {b : Nat} (o : Obj) (h : b < W.heap.size) (v0 v1 v2 v3 v4 v5 v6 v7 v8 : Value) : sets9 (W.alloc o) b v0 v1 v2 v3 v4 v5 v6 v7 v8 = (sets9 W b v0 v1 v2 v3 v4 v5 v6 v7 v8).alloc o := by
  have e : ∀ (W' : World) (i : Nat) (v : Value), W'.heap.size = W.heap.size → (W'.alloc o).setCell ⟨b, i, none⟩ v = (W'.setCell ⟨b, i, none⟩ v).alloc o := fun W' i v h' => World.setCell_alloc_past o b i v (by rw [h']; exact h)
  unfold sets9
  rw [e W 0 v0 rfl, e _ 1 v1 (by simp only [World.size_setCell]), e _ 2 v2 (by simp only [World.size_setCell]), e _ 3 v3 (by simp only [World.size_setCell]), e _ 4 v4 (by simp only [World.size_setCell]), e _ 5 v5 (by simp only [World.size_setCell]), e _ 6 v6 (by simp only [World.size_setCell]), e _ 7 v7 (by simp only [World.size_setCell]), e _ 8 v8 (by simp only [World.size_setCell])]
theorem VarX.un (h : VarX s r pl g b T vi vk va w W) (op : ByteArray) (hg : g < w.heap.size) (hb : w.heap.size < b) :
    VarX s (r.up op) pl g b (unT op T) (.slice none 0 0) (.slice none 0 0) (.slice (some ⟨W.heap.size, 0, none⟩) 1 1) w
      ((sets9 W b (.string op) (.string eS) (.int .i64 0) (.bool false) (.int .i64 0) (.string eS) (.slice none 0 0) (.slice none 0 0) (.slice (some ⟨W.heap.size, 0, none⟩) 1 1)).alloc (.cells (T.nine vi vk va) 52)) := by
  have k9 := keeps_sets9 (W.alloc (.cells (T.nine vi vk va) 52)) b (.string op) (.string eS) (.int .i64 0) (.bool false) (.int .i64 0) (.string eS) (.slice none 0 0) (.slice none 0 0) (.slice (some ⟨W.heap.size, 0, none⟩) 1 1)
  have hbl := hk_lt h.blk
  rw [← sets9_alloc _ hbl]
  have hsz := h.keeps.size
  have ka : Keeps [] W (W.alloc (.cells (T.nine vi vk va) 52)) := (Keeps.refl _ _).alloc _
  have k8 := (ka.mono (S' := [b]) (by simp)).trans k9
  have hu := un_rep op eS (S := fun k => w.heap.size < k ∧ k ≠ b) (new_blk W (.cells (T.nine vi vk va) 52)) ⟨by have := hk_lt h.box; omega, by omega⟩ (h.rep.keep (kc_keeps ka fun k _ => by simp))
  refine ⟨blk_sets9 (ka.same h.blk) _ _ _ _ _ _ _ _ _, hu.keep (kc_keeps k9 fun k hk => by simp; exact hk.2), h.keeps.step k8 (fun k h1 h2 => by simp at h1; omega), k8.heap h.box (by simp; omega), (At.up (op := op) h.at_).keeps k8 (by simp; omega)⟩
end
end Go.Proofs.YtdlkdecigpaaaaaGreatDoor
namespace Go.Proofs.YtdlkdecigpaaaaaGreatDoor
set_option linter.unusedVariables false
set_option linter.unusedSimpArgs false
open Go.RowKit

section
variable (s t op : ByteArray) (i pl e0 : Int) (g k : Nat) (w : World) (r : Res)
set_option maxRecDepth 20000 in
set_option maxHeartbeats 1000000 in
theorem esigned_of (K : Nat) (eg : ∀ args w, (callFunc K args).run Tryz.prog w = .ok (.enter K args) w) (h : PAt s i pl 0 g w) (h0 : 0 ≤ i) (h1 : i ≤ s.size) (hs : s.size ≤ 4000) (ht : 0 < t.size) (ht2 : t.size ≤ 1000000) (hm : Marks s t k i e0)
    (HN : ∀ W, PAt s e0 pl 0 g W → Keeps [g] w W → Calls Tryz.prog K #[.pointer (some ⟨g, 0, none⟩)] W (PSays s r pl g W)) :
    Calls Tryz.prog 132 #[.pointer (some ⟨g, 0, none⟩), .func (.func K) #[] #[], .string t, .string op] w (PSays s (upN op k r) pl g w) := by
  have hglt := hk_lt h
  have hB := Lib.hid (box_new h)
  have hgne : w.heap.size ≠ g := by omega
  have hke := marks_pos ht k hm h1
  have HMK := Lib.hid hm
  have HNX := Lib.hid HN
  clear h HN hm
  go_enter Tryz.func132, Tryz.ntmps132
  go_wp2
  go_loopw [9] (fun v W => ∃ (j m : Nat) (i1 : Int), v = .int .i64 j ∧ 0 ≤ i1 ∧ i1 ≤ s.size ∧ (j : Int) ≤ i1 ∧ j + m = k ∧ Hid (Marks s t m i1 e0 ∧ Box s i1 pl 0 g w.heap.size w W)) (fun v _ => k - (intOf v).toNat)
  case atStart => exact ⟨0, k, i, rfl, h0, h1, by omega, by omega, Lib.hid ⟨HMK.out, hB.out⟩⟩
  case round =>
    obtain ⟨j, m, i1, rfl, h0', h1', hj, hjk, HX⟩ := hrel
    cases m with
    | zero =>
      have HY := Lib.hid (emark_no s t i1 pl g wr HX.out.2.1 h0' h1' (by omega) ht HX.out.1.2)
      have he0 : e0 = i1 := HX.out.1.1
      have HCall := Lib.hid (fun n => HNX.out (wr.drewN n) (he0 ▸ pat_drewN HX.out.2.1 n) (HX.out.2.2.1.drewN n))
      obtain rfl : j = k := by omega
      clear he0 hke
      go_wp2_with (go_at_call 93; refine HY.out.mono ?_; rintro e w' ⟨rfl, n, rfl⟩)
      refine (HCall.out n).mono ?_
      rintro e1 w2 hx
      obtain ⟨T, vi, vk, va, rfl, hrep, hk1, hm1⟩ := psays_at hx
      obtain ⟨a1, c1, a2, c2, a3, c3, rfl, rfl, rfl⟩ := xrep_shape hrep
      have HV := Lib.hid (varx_new (w := w) (w0 := wr.drewN n) HX.out.2.2.2 (HX.out.2.2.1.drewN n) hglt hrep hk1 hm1)
      have hwz : w.heap.size < w2.heap.size := by have := hk_lt HX.out.2.2.2; have := hk1.size; exact Nat.lt_of_lt_of_le (by assumption) this
      clear hx hrep hk1 hm1 HCall HY
      go_wp2
      refine abs_world (F := fun W => VarX s r pl g w2.heap.size T (.slice a1 T.lit.its.length c1) (.slice a2 T.lit.ks.length c2) (.slice a3 T.args.length c3) w W) HV.out (fun W3 HW3 => ?_)
      have HV3 := Lib.hid HW3
      clear HW3 HV
      go_loopw [20] (fun v W => ∃ (q : Nat) (T' : XT) (vi vk va : Value), v = .int .i64 q ∧ q ≤ j ∧ Hid (VarX s (upN op q r) pl g w2.heap.size T' vi vk va w W)) (fun v _ => j - (intOf v).toNat)
      case atStart => exact ⟨0, T, _, _, _, rfl, Nat.zero_le _, HV3⟩
      case round =>
        obtain ⟨q, T', vi, vk, va, rfl, hq, HQ⟩ := hrel
        obtain ⟨b1, d1, b2, d2, b3, d3, rfl, rfl, rfl⟩ := xrep_shape HQ.out.rep
        have gb3 := cell_blk HQ.out.blk
        have gbf3 := frozen_blk HQ.out.blk
        have gb4 := cell_blk HQ.out.box
        have gbf4 := frozen_blk HQ.out.box
        have hl3 := hk_lt HQ.out.blk
        have hl4 := hk_lt HQ.out.box
        by_cases hlt : q < j
        · have HU := Lib.hid (HQ.out.un op hglt hwz)
          go_wp2
          go_roundw
          case rel => exact ⟨q + 1, unT op T', _, _, _, by go_num, by omega, HU⟩
          case measure => simp [intOf]; omega
        · obtain rfl : q = j := by omega
          have HE := Lib.hid (HQ.out.ret hglt)
          go_wp2
          refine abs_post (F := fun W => ToldX s (upN op q r) pl g w.heap.size T' (.slice b1 T'.lit.its.length d1) (.slice b2 T'.lit.ks.length d2) (.slice b3 T'.args.length d3) w W) HE.out (fun W hW => ?_)
          have cr := cell_blk hW.blk
          exact bodyPost_ret (v := T'.agg (.slice b1 T'.lit.its.length d1) (.slice b2 T'.lit.ks.length d2) (.slice b3 T'.args.length d3)) (by simp [results, Tryz.results132, go_sem, cr]) rfl (at_psays rfl hW.rep hW.keeps hW.at_)
    | succ m =>
      have HY := Lib.hid (emark_yes s t i1 pl g wr HX.out.2.1 h0' h1' (by omega) ht ht2 HX.out.1.1)
      have hp := pmark_pos HX.out.1.1 ht
      clear hke
      go_wp2_with (go_at_call 93; refine HY.out.mono ?_; rintro e w' ⟨rfl, hp1, hk1⟩; have HZ := Lib.hid (HX.out.2.to hgne hk1 hp1); clear hp1 hk1)
      go_roundw
      case rel => exact ⟨j + 1, m, pmark s i1 t, by go_num, by omega, by omega, by omega, by omega, Lib.hid ⟨HX.out.1.2, HZ.out⟩⟩
      case measure => simp [intOf]; omega
end
end Go.Proofs.YtdlkdecigpaaaaaGreatDoor
namespace Go.Proofs.YtdlkdecigpaaaaaGreatDoor
set_option linter.unusedVariables false
set_option linter.unusedSimpArgs false
open Go.RowKit

theorem cells_alloc {W : World} {b : Nat} {f : Nat → Option Value} (h : ∀ j, W.cell? ⟨b, j, none⟩ = f j) (hb : b < W.heap.size) (o : Obj) : ∀ j, (W.alloc o).drew.cell? ⟨b, j, none⟩ = f j := fun j => by
  have e : (W.alloc o).heap[b]? = W.heap[b]? := Below.heap_alloc W o b hb
  rw [← h j]; show (W.alloc o).cell? _ = _; simp only [World.cell?, e]
theorem cell_alloc {W : World} {b j : Nat} {v : Value} (h : W.cell? ⟨b, j, none⟩ = some v) (hb : b < W.heap.size) (o : Obj) : (W.alloc o).drew.cell? ⟨b, j, none⟩ = some v := by
  have e : (W.alloc o).heap[b]? = W.heap[b]? := Below.heap_alloc W o b hb
  rw [← h]; show (W.alloc o).cell? _ = _; simp only [World.cell?, e]
def Res.bin (op : ByteArray) (T : XT) : Res → Res
  | .ok U p => .ok (binT op T U) p
  | .err p c => .err p c
/-- Two variables bear trees. -/
structure VarXY (s : ByteArray) (r : Res) (pl : Int) (g b c : Nat) (T : XT) (vi vk va : Value) (U : XT) (ui uk ua : Value) (w W : World) : Prop where
  blk : W.heap[b]? = some (.cells (T.nine vi vk va) 52 (0, 0))
  blk2 : W.heap[c]? = some (.cells (U.nine ui uk ua) 52 (0, 0))
  rep : T.Rep W (fun k => w.heap.size < k ∧ k ≠ b) vi vk va
  rep2 : U.Rep W (fun k => w.heap.size < k ∧ k ≠ b) ui uk ua
  keeps : Keeps [g] w W
  box : W.heap[w.heap.size]? = some (.cells zero9 52 (0, 0))
  at_ : At s r pl g U W
section
variable {s : ByteArray} {r r' : Res} {pl pl' : Int} {g b : Nat} {T U : XT} {vi vk va ui uk ua : Value} {w W W' : World}
theorem VarX.go (h : VarX s r pl g b T vi vk va w W) (k : Keeps [g] W W') (hm : At s r' pl' g T W') (hg : g < w.heap.size) (hb : w.heap.size < b) : VarX s r' pl' g b T vi vk va w W' :=
  ⟨k.heap h.blk (by simp; omega), h.rep.keep (kc_keeps k fun k hk => by simp; omega), h.keeps.trans k, k.heap h.box (by simp; omega), hm⟩
theorem VarX.drewN (h : VarX s r pl g b T vi vk va w W) (n : Nat) : VarX s r pl g b T vi vk va w (W.drewN n) := by
  have k : Keeps [] W (W.drewN n) := (Keeps.refl _ _).drewN n
  exact ⟨h.blk, h.rep.keep (kc_drewN n), h.keeps.drewN n, h.box, h.at_.keeps k (by simp)⟩
theorem VarX.drew (h : VarX s r pl g b T vi vk va w W) : VarX s r pl g b T vi vk va w W.drew := by
  have k : Keeps [] W W.drew := (Keeps.refl _ _).drew
  exact ⟨h.blk, h.rep.keep kc_drew, h.keeps.drew, h.box, h.at_.keeps k (by simp)⟩
theorem varxy_new (h : VarX s r pl g b T vi vk va w W) (hg : g < w.heap.size) (hb : w.heap.size < b) (hu : U.Rep W' (W.heap.size ≤ ·) ui uk ua) (k : Keeps [g] W W') (hm : At s r' pl g U W') :
    VarXY s r' pl g b W'.heap.size T vi vk va U ui uk ua w (W'.alloc (.cells (U.nine ui uk ua) 52)) := by
  have ka : Keeps [] W' (W'.alloc (.cells (U.nine ui uk ua) 52)) := (Keeps.refl _ _).alloc _
  have hbl := hk_lt h.blk
  have hbx := hk_lt h.box
  have hsz := k.size
  exact ⟨ka.heap (k.heap h.blk (by simp; omega)) (by simp), new_blk _ _, (h.rep.keep (kc_keeps k fun k hk => by simp; omega)).keep (kc_keeps ka fun k _ => by simp),
    (hu.mono (fun k hk => ⟨by omega, by omega⟩)).keep (kc_keeps ka fun k _ => by simp), (h.keeps.trans k).step ka (fun k h1 h2 => by simp at h1), ka.heap (k.heap h.box (by simp; omega)) (by simp), hm.keeps ka (by simp)⟩
theorem At.bin {op : ByteArray} {p : Int} (h : At s r pl g U W) (T : XT) : At s (r.bin op T) pl g (binT op T U) W := by
  cases r with
  | ok V q => exact ⟨by rw [h.1], h.2⟩
  | err q c => exact h
theorem VarXY.bin {c : Nat} (h : VarXY s r pl g b c T vi vk va U ui uk ua w W) (op : ByteArray) (hg : g < w.heap.size) (hb : w.heap.size < b) :
    VarX s (r.bin op T) pl g b (binT op T U) (.slice none 0 0) (.slice none 0 0) (.slice (some ⟨W.heap.size, 0, none⟩) 2 2) w
      ((sets9 W b (.string op) (.string eS) (.int .i64 0) (.bool false) (.int .i64 0) (.string eS) (.slice none 0 0) (.slice none 0 0) (.slice (some ⟨W.heap.size, 0, none⟩) 2 2)).alloc (.cells (T.nine vi vk va ++ U.nine ui uk ua) 52)) := by
  have k9 := keeps_sets9 (W.alloc (.cells (T.nine vi vk va ++ U.nine ui uk ua) 52)) b (.string op) (.string eS) (.int .i64 0) (.bool false) (.int .i64 0) (.string eS) (.slice none 0 0) (.slice none 0 0) (.slice (some ⟨W.heap.size, 0, none⟩) 2 2)
  have hbl := hk_lt h.blk
  rw [← sets9_alloc _ hbl]
  have hsz := h.keeps.size
  have ka : Keeps [] W (W.alloc (.cells (T.nine vi vk va ++ U.nine ui uk ua) 52)) := (Keeps.refl _ _).alloc _
  have k8 := (ka.mono (S' := [b]) (by simp)).trans k9
  have hu := bin_rep op eS (S := fun k => w.heap.size < k ∧ k ≠ b) (new_blk W (.cells (T.nine vi vk va ++ U.nine ui uk ua) 52)) ⟨by have := hk_lt h.box; omega, by omega⟩ (h.rep.keep (kc_keeps ka fun k _ => by simp)) (h.rep2.keep (kc_keeps ka fun k _ => by simp))
  refine ⟨blk_sets9 (ka.same h.blk) _ _ _ _ _ _ _ _ _, hu.keep (kc_keeps k9 fun k hk => by simp; exact hk.2), h.keeps.step k8 (fun k h1 h2 => by simp at h1; omega), k8.heap h.box (by simp; omega), (At.bin (p := 0) h.at_ T).keeps k8 (by simp; omega)⟩
end
/-- A chain's state: it is done, with an error or for the rounds are out; or it goes on. -/
def ChSt (s : ByteArray) (n most : Nat) (r : Res) (i : Int) (j : Nat) (r1 : Res) : Prop :=
  (r1 = r ∧ ((∃ p c, r = .err p c ∧ c ≠ 0) ∨ j = most)) ∨ ∃ T p, r1 = .ok T p ∧ Par s (.more n T) p r ∧ i + 2 * j ≤ p ∧ p ≤ s.size ∧ (n = 3 → j = 0)
section
variable {s : ByteArray} {n most : Nat} {r : Res} {i : Int}
theorem par_code {g : G} {p c : Int} (h : Par s g i (.err p c)) : c ≠ 0 := par_pos h
theorem lev_split (hn : lv n) (h : Par s (.lev n) i r) : ∃ r1, Par s (.lev (n + 1)) i r1 ∧ (∀ p c, r1 = .err p c → r = .err p c) ∧ ∀ T p, r1 = .ok T p → Par s (.more n T) p r := by
  unfold lv at hn
  cases h with
  | lev_err _ h => exact ⟨_, h, fun p c e => (by cases e; rfl), fun T p e => (by cases e)⟩
  | lev_ok _ h k => exact ⟨_, h, fun p c e => (by cases e), fun T p e => (by cases e; exact k)⟩
  | not_on => omega
  | not_no => omega
  | neg_on => omega
  | neg_no => omega
theorem chst_first (hn : lv n) (h : Par s (.lev n) i r) (h0 : 0 ≤ i) (h1 : i ≤ s.size) : ∃ r1, Par s (.lev (n + 1)) i r1 ∧ ChSt s n most r i 0 r1 := by
  obtain ⟨r1, k1, k2, k3⟩ := lev_split hn h
  refine ⟨r1, k1, ?_⟩
  cases r1 with
  | err p c => exact .inl ⟨(k2 p c rfl).symm, .inl ⟨p, c, k2 p c rfl, par_code k1⟩⟩
  | ok T p => have hp := par_pos k1 h0 h1; exact .inr ⟨T, p, rfl, k3 T p rfl, by have := hp.2; simp; exact hp.1.1, hp.1.2, fun _ => rfl⟩
theorem more_cases {T : XT} {p : Int} (h : Par s (.more n T) p r) : (betw s p n = none ∧ r = .ok T p) ∨ ∃ op e r2, betw s p n = some (op, e) ∧ Par s (.lev (n + 1)) e r2 ∧
    ((∃ p' c', r2 = .err p' c' ∧ r = .err p' c') ∨ ∃ U p', r2 = .ok U p' ∧ (n = 3 ∧ r = .ok (binT op T U) p' ∨ n ≠ 3 ∧ Par s (.more n (binT op T U)) p' r)) := by
  cases h with
  | more_end h => exact .inl ⟨h, rfl⟩
  | more_err h k => exact .inr ⟨_, _, _, h, k, .inl ⟨_, _, rfl, rfl⟩⟩
  | more_one h k => exact .inr ⟨_, _, _, h, k, .inr ⟨_, _, rfl, .inl ⟨rfl, rfl⟩⟩⟩
  | more_on h1 h k l => exact .inr ⟨_, _, _, h, k, .inr ⟨_, _, rfl, .inr ⟨h1, l⟩⟩⟩
theorem chst_step {T : XT} {p e : Int} {op : ByteArray} {r2 : Res} {j : Nat} (hmost : n = 3 ∧ most = 1 ∨ n ≠ 3 ∧ 2048 ≤ most) (h0 : 0 ≤ i) (hj : i + 2 * j ≤ p) (hp : p ≤ s.size) (h3 : n = 3 → j = 0) (hb : betw s p n = some (op, e)) (hr : Par s (.lev (n + 1)) e r2)
    (h : (∃ p' c', r2 = .err p' c' ∧ r = .err p' c') ∨ ∃ U p', r2 = .ok U p' ∧ (n = 3 ∧ r = .ok (binT op T U) p' ∨ n ≠ 3 ∧ Par s (.more n (binT op T U)) p' r)) : ChSt s n most r i (j + 1) (r2.bin op T) := by
  have hbp := betw_pos (by omega) hb
  rcases h with ⟨p', c', rfl, rfl⟩ | ⟨U, p', rfl, ⟨rfl, rfl⟩ | ⟨hn, h⟩⟩
  · exact .inl ⟨rfl, .inl ⟨_, _, rfl, par_code hr⟩⟩
  · exact .inl ⟨rfl, .inr (by have := h3 rfl; omega)⟩
  · have h5 := par_pos hr (by omega) hbp.2
    exact .inr ⟨_, _, rfl, h, by have := h5.2; have h6 : e < p' := h5.2; omega, h5.1.2, fun h => absurd h hn⟩
end
end Go.Proofs.YtdlkdecigpaaaaaGreatDoor
namespace Go.Proofs.YtdlkdecigpaaaaaGreatDoor
set_option linter.unusedVariables false
set_option linter.unusedSimpArgs false
open Go.RowKit

section
variable (s : ByteArray) (i pl : Int) (g n most : Nat) (w : World) (r : Res) (S : Nat → Prop) (vL : Value)
set_option maxRecDepth 20000 in
set_option maxHeartbeats 1000000 in
theorem echain_of (K : Nat) (eg : ∀ args w, (callFunc K args).run Tryz.prog w = .ok (.enter K args) w) (hn : lv n) (hmost : n = 3 ∧ most = 1 ∨ n ≠ 3 ∧ 2048 ≤ most) (hmx : most ≤ 1000000) (h : PAt s i pl 0 g w) (h0 : 0 ≤ i) (h1 : i ≤ s.size) (hs : s.size ≤ 4000) (hr : Par s (.lev n) i r)
    (hL : Sl w S 1 vL (signsL n).length ((signsL n).map Value.string)) (hS : ∀ k, S k → k ≠ g)
    (HN : ∀ (i' : Int) (r' : Res) (W : World), i ≤ i' → i' ≤ s.size → Par s (.lev (n + 1)) i' r' → PAt s i' pl 0 g W → Keeps [g] w W → Calls Tryz.prog K #[.pointer (some ⟨g, 0, none⟩)] W (PSays s r' pl g W)) :
    Calls Tryz.prog 73 #[.pointer (some ⟨g, 0, none⟩), .func (.func K) #[] #[], .int .i64 most, vL] w (PSays s r pl g w) := by
  have hglt := hk_lt h
  have hB := Lib.hid (box_new h)
  have hgne : w.heap.size ≠ g := by omega
  have hLn : (signsL n).length ≤ 10 := by rcases hn with rfl | rfl | rfl | rfl | rfl <;> decide
  obtain ⟨aL, cL, rfl, _, _⟩ := hL.shape
  obtain ⟨r0, hr0, hst⟩ := chst_first (most := most) hn hr h0 h1
  have HL := Lib.hid (fun (W : World) (k : Keeps [g] w W) => hL.keep (kc_keeps k fun k hk => by simpa using hS k hk))
  have HF := Lib.hid (HN i r0 _ (Int.le_refl _) h1 hr0 hB.out.1 hB.out.2.1)
  have HNX := Lib.hid HN
  have HST := Lib.hid hst
  have HN0 := Lib.hid hn
  clear h hL hS HN hr0 hst hr hn
  go_enter Tryz.func73, Tryz.ntmps73
  go_wp2_with fail
  refine HF.out.mono ?_
  rintro e1 w2 hx
  obtain ⟨T, vi, vk, va, rfl, hrep, hk1, hm1⟩ := psays_at hx
  obtain ⟨a1, c1, a2, c2, a3, c3, rfl, rfl, rfl⟩ := xrep_shape hrep
  have HV := Lib.hid (varx_new (w := w) hB.out.2.2 hB.out.2.1 hglt hrep hk1 hm1)
  have hwz : w.heap.size < w2.heap.size := Nat.lt_of_lt_of_le (hk_lt hB.out.2.2) hk1.size
  clear hx hrep hk1 hm1 HF
  go_wp2_with fail
  refine abs_world (F := fun W => VarX s r0 pl g w2.heap.size T (.slice a1 T.lit.its.length c1) (.slice a2 T.lit.ks.length c2) (.slice a3 T.args.length c3) w W) HV.out (fun W3 HW3 => ?_)
  have HV3 := Lib.hid HW3
  clear HW3 HV
  go_loopw [16] (fun v W => ∃ (j : Nat) (r1 : Res) (T' : XT) (vi vk va : Value), v = .int .i64 j ∧ j ≤ most ∧ Hid (ChSt s n most r i j r1 ∧ VarX s r1 pl g w2.heap.size T' vi vk va w W)) (fun v _ => most - (intOf v).toNat)
  case atStart => exact ⟨0, r0, T, _, _, _, rfl, Nat.zero_le _, Lib.hid ⟨HST.out, HV3.out⟩⟩
  case round =>
    obtain ⟨j, r1, T', vi, vk, va, rfl, hj, HQ⟩ := hrel
    obtain ⟨b1, d1, b2, d2, b3, d3, rfl, rfl, rfl⟩ := xrep_shape HQ.out.2.rep
    have gb3 := cell_blk HQ.out.2.blk
    have gbf3 := frozen_blk HQ.out.2.blk
    have gb4 := cell_blk HQ.out.2.box
    have gbf4 := frozen_blk HQ.out.2.box
    have hl3 := hk_lt HQ.out.2.blk
    have hl4 := hk_lt HQ.out.2.box
    have HLr := Lib.hid (HL.out _ HQ.out.2.keeps)
    by_cases hlt : j < most
    · rcases HQ.out.1 with ⟨rfl, he⟩ | ⟨T0, p, rfl, hpar, hjp, hp, h3⟩
      · -- it is done
        obtain ⟨p, c, rfl, hc⟩ := he.resolve_right (by omega)
        obtain ⟨a, ha0, ha1, hpa⟩ : ∃ a : Int, 0 ≤ a ∧ a ≤ s.size ∧ PAt s a p c g wr := HQ.out.2.at_
        have HI := Lib.hid (index_fail s (signsL n) _ S a p c g wr HLr.out hpa ha0 (by omega) hc hLn)
        have HE := Lib.hid (HQ.out.2.ret hglt)
        clear hpa he
        go_wp2_with (go_at_call 92; refine HI.out.mono ?_; rintro e w' ⟨rfl, rfl⟩)
        refine abs_post (F := fun W => ToldX s (.err p c) pl g w.heap.size T' (.slice b1 T'.lit.its.length d1) (.slice b2 T'.lit.ks.length d2) (.slice b3 T'.args.length d3) w W) HE.out (fun W hW => ?_)
        have cr := cell_blk hW.blk
        exact bodyPost_ret (v := T'.agg (.slice b1 T'.lit.its.length d1) (.slice b2 T'.lit.ks.length d2) (.slice b3 T'.args.length d3)) (by simp [results, Tryz.results73, go_sem, cr]) rfl (at_psays rfl hW.rep hW.keeps hW.at_)
      · have hat : T' = T0 ∧ PAt s p pl 0 g wr := HQ.out.2.at_
        obtain ⟨rfl, hpa⟩ := hat
        have hip : i ≤ p := by omega
        rcases more_cases hpar with ⟨hb, hre⟩ | ⟨op, e, r2, hb, hr2, hst2⟩
        · have HI := Lib.hid (index_none s (signsL n) _ S p pl g wr HLr.out hpa (by omega) hp (by omega) hLn (fun t ht => (signs_size ht).1) (betw_none HN0.out (by omega) hb))
          have HE := Lib.hid (fun m => (HQ.out.2.drewN m).ret hglt)
          have HRE := Lib.hid hre
          clear hpa hpar hre hb h3
          go_wp2_with (go_at_call 92; refine HI.out.mono ?_; rintro e w' ⟨rfl, m, rfl⟩)
          refine abs_post (F := fun W => ToldX s (.ok T' p) pl g w.heap.size T' (.slice b1 T'.lit.its.length d1) (.slice b2 T'.lit.ks.length d2) (.slice b3 T'.args.length d3) w W) (HE.out _) (fun W hW => ?_)
          have cr := cell_blk hW.blk
          exact bodyPost_ret (v := T'.agg (.slice b1 T'.lit.its.length d1) (.slice b2 T'.lit.ks.length d2) (.slice b3 T'.args.length d3)) (by simp [results, Tryz.results73, go_sem, cr]) rfl (HRE.out ▸ at_psays rfl hW.rep hW.keeps hW.at_)
        · obtain ⟨q, hq, hop, hbef, hate, he0⟩ := betw_some HN0.out (by omega) hb
          have hbp := betw_pos (by omega : 0 ≤ p) hb
          have hI := index_some s (signsL n) _ S p pl g wr q hq HLr.out hpa (by omega) hp (by omega) hLn (fun t ht => ⟨(signs_size ht).1, by have := (signs_size ht).2; omega⟩) hbef (by rw [hate]; exact he0)
          rw [hate] at hI
          have HI := Lib.hid hI
          have HS2 := Lib.hid (chst_step hmost h0 hjp hp h3 hb hr2 hst2)
          have HR2 := Lib.hid hr2
          have HOP : Hid ((signsL n)[q] = op) := Lib.hid hop
          have he1 : e ≤ s.size := hbp.2
          have hie : i ≤ e := by omega
          clear hI hop hbef hate hb hr2 hst2 hpar hpa h3 hbp gb3 gbf3 gb4 gbf4 hl3 hl4
          go_wp2_with (go_at_call 92; refine HI.out.mono ?_; rintro e' w3 ⟨rfl, hp3, hk3⟩; have H3 := Lib.hid (And.intro hp3 hk3); clear hp3 hk3)
          have HVe := Lib.hid (HQ.out.2.go H3.out.2 (show At s (.ok T' e) pl g T' w3 from ⟨rfl, H3.out.1⟩) hglt hwz)
          refine (HNX.out e r2 w3 hie he1 HR2.out H3.out.1 HVe.out.keeps).mono ?_
          rintro e2 w4 hx
          obtain ⟨U, ui, uk, ua, rfl, hrep, hk4, hm4⟩ := psays_at hx
          obtain ⟨x1, y1, x2, y2, x3, y3, rfl, rfl, rfl⟩ := xrep_shape hrep
          have HXY := Lib.hid (varxy_new HVe.out hglt hwz hrep hk4 hm4)
          have hw4 : w2.heap.size < w4.heap.size := Nat.lt_of_lt_of_le (hk_lt HVe.out.blk) hk4.size
          clear hx hrep hk4 hm4
          go_wp2_with fail
          refine abs_world (F := fun W => VarXY s r2 pl g w2.heap.size w4.heap.size T' (.slice b1 T'.lit.its.length d1) (.slice b2 T'.lit.ks.length d2) (.slice b3 T'.args.length d3) U (.slice x1 U.lit.its.length y1) (.slice x2 U.lit.ks.length y2) (.slice x3 U.args.length y3) w W) HXY.out (fun W5 HW5 => ?_)
          have H5 := Lib.hid HW5
          clear HW5 HXY
          have gx := cell_blk H5.out.blk
          have gfx := frozen_blk H5.out.blk
          have gy := cell_blk H5.out.blk2
          have hlx := hk_lt H5.out.blk
          have hly := hk_lt H5.out.blk2
          obtain ⟨g', o', c', hv, _, _, hgl, hcells⟩ := (HL.out _ H5.out.keeps).at (by omega)
          cases hv
          have y0 := hcells q (.string op) (by rw [List.getElem?_map, List.getElem?_eq_getElem hq, HOP.out]; rfl)
          clear hcells
          have HB5 := Lib.hid (H5.out.bin op hglt hwz)
          go_region_law (fail)
          all_goals
            clear gx gfx gy hlx hly y0
            refine ‹∀ (a : Act) (w : World), _ → _› _ _ ?_
            go_wp2_with fail
            go_roundw
            case rel => exact ⟨j + 1, r2.bin op T', binT op T' U, _, _, _, by go_num, by omega, Lib.hid ⟨HS2.out, HB5.out.drew⟩⟩
            case measure => simp [intOf]; omega
    · rcases HQ.out.1 with ⟨rfl, he⟩ | ⟨T0, p, rfl, hpar, hjp, hp, h3⟩
      · have HE := Lib.hid (HQ.out.2.ret hglt)
        obtain rfl : j = most := by omega
        clear he
        go_wp2_with fail
        refine abs_post (F := fun W => ToldX s r1 pl g w.heap.size T' (.slice b1 T'.lit.its.length d1) (.slice b2 T'.lit.ks.length d2) (.slice b3 T'.args.length d3) w W) HE.out (fun W hW => ?_)
        have cr := cell_blk hW.blk
        exact bodyPost_ret (v := T'.agg (.slice b1 T'.lit.its.length d1) (.slice b2 T'.lit.ks.length d2) (.slice b3 T'.args.length d3)) (by simp [results, Tryz.results73, go_sem, cr]) rfl (at_psays rfl hW.rep hW.keeps hW.at_)
      · exfalso
        rcases hmost with ⟨rfl, rfl⟩ | ⟨h4, h5⟩
        · have := h3 rfl; omega
        · omega
end
end Go.Proofs.YtdlkdecigpaaaaaGreatDoor
namespace Go.Proofs.YtdlkdecigpaaaaaGreatDoor
set_option linter.unusedVariables false
set_option linter.unusedSimpArgs false
open Go.RowKit

set_option maxRecDepth 20000 in
set_option maxHeartbeats 2000000 in
theorem rmark_any (s t : ByteArray) (i : Int) (w : World) (h0 : 0 ≤ i) (h1 : i ≤ s.size) (hs : s.size ≤ 1000000) (ht : t.size ≤ 1000) :
    Calls Tryz.prog 66 #[.string s, .int .i64 i, .string t] w fun e w' => e = .returned (.int .i64 (markAt s i t)) ∧ w = w' := by
  have HB := Lib.hid (fun w => blanks_any s i w h0 (by omega))
  have hb0 := blanks_ge s i
  have hb1 := blanks_le h0 h1
  have HV : Hid (markAt s i t = if blanks s i + t.size ≤ s.size ∧ s.extract (blanks s i).toNat ((blanks s i).toNat + t.size) = t then blanks s i + t.size else -1) := Lib.hid rfl
  generalize markAt s i t = m at *
  generalize blanks s i = b at *
  have hw : IntKind.i64.wrap (b + (t.size : Int)) = b + (t.size : Int) := by rw [IntKind.wrap_i64]; omega
  have e1 : (b + (t.size : Int)).toNat = b.toNat + t.size := by omega
  by_cases c1 : b + t.size ≤ s.size
  · have hlt : decide ((s.size : Int) < b + t.size) = false := by simpa using c1
    by_cases c2 : s.extract b.toNat (b.toNat + t.size) = t
    · have hq := str_beq c2
      have hv : m = b + t.size := by rw [HV.out, if_pos ⟨c1, c2⟩]
      have hV := Lib.hid hv
      clear HV hv c2
      go_enter Tryz.func66, Tryz.ntmps66
      go_wp2_with (go_at_call 30; refine (HB.out _).mono ?_; rintro e w' ⟨rfl, rfl⟩)
      go_ret
      exact ⟨ret_i64 hV.out.symm, rfl⟩
    · have hq := str_bne c2
      have hv : m = -1 := by rw [HV.out, if_neg fun h => c2 h.2]
      have hV := Lib.hid hv
      clear HV hv c2
      go_enter Tryz.func66, Tryz.ntmps66
      go_wp2_with (go_at_call 30; refine (HB.out _).mono ?_; rintro e w' ⟨rfl, rfl⟩)
      go_ret
      exact ⟨ret_i64 hV.out.symm, rfl⟩
  · have hlt : decide ((s.size : Int) < b + t.size) = true := by simpa using c1
    have hv : m = -1 := by rw [HV.out, if_neg fun h => c1 h.1]
    have hV := Lib.hid hv
    clear HV hv
    go_enter Tryz.func66, Tryz.ntmps66
    go_wp2_with (go_at_call 30; refine (HB.out _).mono ?_; rintro e w' ⟨rfl, rfl⟩)
    go_ret
    exact ⟨ret_i64 hV.out.symm, rfl⟩
end Go.Proofs.YtdlkdecigpaaaaaGreatDoor
namespace Go.Proofs.YtdlkdecigpaaaaaGreatDoor
set_option linter.unusedVariables false
set_option linter.unusedSimpArgs false
open Go.RowKit

abbrev oneA : Array Value := #[.string lenS, .string sumS, .string minS, .string maxS, .string allS, .string anyS, .string keysS]
abbrev twoA : Array Value := #[.string hasS, .string countS, .string startsS, .string endsS, .string joinS]
abbrev resA : Array Value := #[.string orS, .string andS, .string notS, .string trueS, .string falseS, .string nullS, .string thisS]
theorem seven {j : Nat} (h : j < 7) : j = 0 ∨ j = 1 ∨ j = 2 ∨ j = 3 ∨ j = 4 ∨ j = 5 ∨ j = 6 := by omega
theorem one_ix (j : Nat) (hj : j < 7) : ∀ w : World, (Instr.index 135 (.agg oneA) (.int .i64 (j : Int))).run Tryz.prog w = .ok (.string (oneL.getD j eS)) w := by
  rcases seven hj with rfl | rfl | rfl | rfl | rfl | rfl | rfl <;> intro w <;> kernel_rfl
theorem res_ix (j : Nat) (hj : j < 7) : ∀ w : World, (Instr.index 135 (.agg resA) (.int .i64 (j : Int))).run Tryz.prog w = .ok (.string (resL.getD j eS)) w := by
  rcases seven hj with rfl | rfl | rfl | rfl | rfl | rfl | rfl <;> intro w <;> kernel_rfl
theorem two_ix (j : Nat) (hj : j < 5) : ∀ w : World, (Instr.index 71 (.agg twoA) (.int .i64 (j : Int))).run Tryz.prog w = .ok (.string (twoL.getD j eS)) w := by
  rcases (by omega : j = 0 ∨ j = 1 ∨ j = 2 ∨ j = 3 ∨ j = 4) with rfl | rfl | rfl | rfl | rfl <;> intro w <;> kernel_rfl
theorem mem_hit {nm : ByteArray} {l : List ByteArray} {j : Nat} (hj : j < l.length) (h : l.getD j eS = nm) : memL nm l = true := by
  rw [memL_iff, ← h, List.getD_eq_getElem?_getD, List.getElem?_eq_getElem hj]; exact List.getElem_mem hj
theorem mem_miss {nm : ByteArray} {l : List ByteArray} (h : ∀ j, j < l.length → ¬ l.getD j eS = nm) : memL nm l = false := by
  cases e : memL nm l with
  | false => rfl
  | true =>
    obtain ⟨j, hj, h1⟩ := List.mem_iff_getElem.1 (memL_iff.1 e)
    exact absurd (by rw [List.getD_eq_getElem?_getD, List.getElem?_eq_getElem hj]; exact h1) (h j hj)
theorem miss_on {nm : ByteArray} {l : List ByteArray} {j : Nat} (h : ∀ k, k < j → ¬ l.getD k eS = nm) (h1 : ¬ l.getD j eS = nm) : ∀ k, k < j + 1 → ¬ l.getD k eS = nm := fun k hk => by
  by_cases e : k = j
  · rw [e]; exact h1
  · exact h k (by omega)
set_option maxRecDepth 20000 in
set_option maxHeartbeats 2000000 in
theorem rargs_any (nm : ByteArray) (w : World) : Calls Tryz.prog 55 #[.string nm] w fun e w' => e = .returned (.int .i64 (argsN nm)) ∧ w = w' := by
  go_enter Tryz.func55, Tryz.ntmps55
  go_wp2
  go_loop [8] (fun v => ∃ j : Nat, j ≤ 7 ∧ v = .int .i64 j ∧ Hid (∀ k, k < j → ¬ oneL.getD k eS = nm)) (fun v => 7 - (intOf v).toNat)
  case atStart => exact ⟨0, by omega, rfl, Lib.hid fun k hk => absurd hk (by omega)⟩
  case round =>
    obtain ⟨j, hj, rfl, HX⟩ := hrel
    by_cases hlt : j < 7
    · have IX := one_ix j hlt
      by_cases c : oneL.getD j eS = nm
      · have HV : Hid (argsN nm = 1) := Lib.hid (by unfold argsN; rw [mem_hit hlt c]; rfl)
        have hq := str_beq c
        clear c
        generalize oneL.getD j eS = x at *
        go_wp2
        go_ret
        exact ⟨ret_i64 (by rw [HV.out]; rfl), rfl⟩
      · have HM := Lib.hid (miss_on HX.out c)
        have hq := str_bne c
        clear c
        generalize hx : oneL.getD j eS = x at *
        clear hx
        go_wp2
        go_round
        case rel => exact ⟨j + 1, by omega, by go_num, HM⟩
        case measure => simp [intOf]; omega
    · obtain rfl : j = 7 := by omega
      have H1 : Hid (memL nm oneL = false) := Lib.hid (mem_miss fun k hk => HX.out k hk)
      clear HX
      go_wp2
      go_loop [16] (fun v => ∃ j : Nat, j ≤ 5 ∧ v = .int .i64 j ∧ Hid (∀ k, k < j → ¬ twoL.getD k eS = nm)) (fun v => 5 - (intOf v).toNat)
      case atStart => exact ⟨0, by omega, rfl, Lib.hid fun k hk => absurd hk (by omega)⟩
      case round =>
        obtain ⟨j, hj, rfl, HX⟩ := hrel
        by_cases hlt : j < 5
        · have IX := two_ix j hlt
          by_cases c : twoL.getD j eS = nm
          · have HV : Hid (argsN nm = 2) := Lib.hid (by unfold argsN; rw [H1.out, mem_hit hlt c]; rfl)
            have hq := str_beq c
            clear c
            generalize twoL.getD j eS = x at *
            go_wp2
            go_ret
            exact ⟨ret_i64 (by rw [HV.out]; rfl), rfl⟩
          · have HM := Lib.hid (miss_on HX.out c)
            have hq := str_bne c
            clear c
            generalize hx : twoL.getD j eS = x at *
            clear hx
            go_wp2
            go_round
            case rel => exact ⟨j + 1, by omega, by go_num, HM⟩
            case measure => simp [intOf]; omega
        · obtain rfl : j = 5 := by omega
          have HV : Hid (argsN nm = 0) := Lib.hid (by unfold argsN; rw [H1.out, mem_miss fun k hk => HX.out k hk]; rfl)
          clear HX
          go_wp2
          go_ret
          exact ⟨ret_i64 (by rw [HV.out]; rfl), rfl⟩
set_option maxRecDepth 20000 in
set_option maxHeartbeats 2000000 in
theorem rreserved_any (nm : ByteArray) (w : World) : Calls Tryz.prog 59 #[.string nm] w fun e w' => e = .returned (.bool (resB nm)) ∧ w = w' := by
  have HA := Lib.hid (fun w => rargs_any nm w)
  go_enter Tryz.func59, Tryz.ntmps59
  go_wp2
  go_loop [6] (fun v => ∃ j : Nat, j ≤ 7 ∧ v = .int .i64 j ∧ Hid (∀ k, k < j → ¬ resL.getD k eS = nm)) (fun v => 7 - (intOf v).toNat)
  case atStart => exact ⟨0, by omega, rfl, Lib.hid fun k hk => absurd hk (by omega)⟩
  case round =>
    obtain ⟨j, hj, rfl, HX⟩ := hrel
    by_cases hlt : j < 7
    · have IX := res_ix j hlt
      by_cases c : resL.getD j eS = nm
      · have HV : Hid (resB nm = true) := Lib.hid (by unfold resB; rw [mem_hit hlt c]; rfl)
        have hq := str_beq c
        clear c
        generalize resL.getD j eS = x at *
        go_wp2
        go_ret
        exact ⟨ret_bool HV.out.symm, rfl⟩
      · have HM := Lib.hid (miss_on HX.out c)
        have hq := str_bne c
        clear c
        generalize hx : resL.getD j eS = x at *
        clear hx
        go_wp2
        go_round
        case rel => exact ⟨j + 1, by omega, by go_num, HM⟩
        case measure => simp [intOf]; omega
    · obtain rfl : j = 7 := by omega
      have HV : Hid (resB nm = decide (0 < argsN nm)) := Lib.hid (by unfold resB; rw [mem_miss fun k hk => HX.out k hk]; rfl)
      clear HX
      go_wp2_with (go_at_call 55; refine (HA.out _).mono ?_; rintro e w' ⟨rfl, rfl⟩)
      go_ret
      exact ⟨ret_bool (by rw [HV.out]), rfl⟩
end Go.Proofs.YtdlkdecigpaaaaaGreatDoor
