/- The law's do, where an act is Drop or Get. -/
import Derived.Test.YtbajghjdnjodmaaCWalk2
import Derived.Test.YtbajghjdnjodmaaCFew
namespace Go.Proofs.Ytbajghjdnjodmaa
set_option linter.unusedVariables false
set_option linter.unusedSimpArgs false
open Go.RowKit

/-- What an act that is done says. -/
def DoSaid (S : Nat → Prop) (m : Nat) (w : World) (r : Ending) (w' : World) : Prop := ∃ (lv' : Value) (l' : List ET), r = .returned (.tuple #[lv', .bool true]) ∧ Doc w' (fun x => S x ∨ w.heap.size ≤ x) lv' l' ∧ DocOk l' ∧ Syn w' (fun x => S x ∨ w.heap.size ≤ x) m l' ∧ But m w w'
theorem rem4 {k q : Int} (h0 : 0 ≤ k) (hq : k % 4 = q) : k.tmod 4 = q := by rw [Int.tmod_eq_emod_of_nonneg h0]; exact hq
theorem doc_but {m : Nat} {S S' : Nat → Prop} {w w' : World} {v : Value} {l k : List ET} (h : Doc w S v l) (hs : Syn w S' m k) (b : But m w w') : Doc w' S v l := h.keep (hs.kc b)
theorem doc_true {S : Nat → Prop} {w : World} {v : Value} {l : List ET} (h : Doc w S v l) : Doc w (fun _ => True) v l := h.go (Kc.refl _ _) fun _ _ _ _ _ _ => trivial
section
variable (g m : Nat) (l : List ET) (lv : Value) (a : AT) (vn vd : Value) (S : Nat → Prop) (w : World)
set_option maxRecDepth 20000 in
set_option maxHeartbeats 1000000 in
theorem do_drop (hq : a.k % 4 = 2) (h0 : 0 ≤ a.k) (h255 : a.k ≤ 255) (hsz : a.nm.size ≤ 9223372036854775807) (hg : w.heap[g]? = some (.cells #[.map (some m)] 69 (0, 0))) (h : Syn w S m l) (hd : DocOk l) (hD : Doc w S lv l) :
    Calls Try.prog 26 #[.pointer (some ⟨g, 0, none⟩), lv, a.agg vn vd] w (DoSaid S m w) := by
  have hq1 := rem4 h0 hq
  have HD := Lib.hid (fun (W : World) (hb : Below w.heap.size w W) => drop24_any l lv a.nm S W (hD.below hb) hd.len)
  have HC := Lib.hid (fun (W : World) (hb : Below w.heap.size w W) => cdrop_any g m l a.nm S W (hk_below hg hb) (h.below hb) hd hsz)
  have HS := Lib.hid h
  have HO := Lib.hid (drop_ok24 hd a.nm)
  clear hg h hd hD hq
  go_enter Try.func26, Try.ntmps26
  go_wp2_with (first
    | (go_at_call 40; refine (HD.out _ (by ((repeat (first | with_reducible exact Below.refl _ _ | with_reducible refine bl_drew ?_ | with_reducible refine bl_alloc ?_ _ | with_reducible refine bl_set ?_ (by dsimp only; omega) _)); done))).mono ?_; rintro e' w1 ⟨lv', rfl, hdoc, hb1⟩; have HB1 : Hid (Below w.heap.size w w1) := Lib.hid (bl_step (by ((repeat (first | with_reducible exact Below.refl _ _ | with_reducible refine bl_drew ?_ | with_reducible refine bl_alloc ?_ _ | with_reducible refine bl_set ?_ (by dsimp only; omega) _)); done)) hb1); have HDoc := Lib.hid (hdoc.go (S' := fun x => S x ∨ w.heap.size ≤ x) (Kc.refl _ _) (fun _ _ _ _ h _ => h.imp id (fun h => Nat.le_trans (by simp) h))); have c1 := cell_blk (hk_below (by ((repeat (first | with_reducible exact new_blk _ _ | with_reducible exact new_blk1 _ _ _ | with_reducible exact new_blk2 _ _ _ _ | with_reducible refine hk_drew ?_ | with_reducible refine hk_alloc ?_ _ | with_reducible refine hk_set ?_ (by dsimp only; omega) _)); done) : _ = some (Obj.cells #[.int .u8 a.k, .string a.nm, vn, .bool a.has, vd] 41 (0, 0))) hb1); clear hb1 hdoc)
    | (go_at_call 15; refine (HC.out _ HB1.out).mono ?_; rintro e' w2 ⟨rfl, hsy, hbut⟩; have HY := Lib.hid hsy; have HBT := Lib.hid hbut; clear hsy hbut))
  go_ret2
  exact ⟨_, _, ret2 rfl (by simp), doc_but HDoc.out (HS.out.below HB1.out) HBT.out, HO.out, HY.out.mono fun _ h => .inl h, (but_below HB1.out).trans HBT.out⟩
set_option maxRecDepth 20000 in
set_option maxHeartbeats 1000000 in
theorem do_none (hq : a.k % 4 = 3) (h0 : 0 ≤ a.k) (h255 : a.k ≤ 255) (hsz : a.nm.size ≤ 9223372036854775807) (hg : w.heap[g]? = some (.cells #[.map (some m)] 69 (0, 0))) (h : Syn w S m l) (hd : DocOk l) (hD : Doc w S lv l) (hf : findF a.nm l 0 = none) :
    Calls Try.prog 26 #[.pointer (some ⟨g, 0, none⟩), lv, a.agg vn vd] w (DoSaid S m w) := by
  have hq1 := rem4 h0 hq
  have HG := Lib.hid (fun (W : World) (hb : Below w.heap.size w W) => cget_none g m l a.nm S W (hk_below hg hb) (h.below hb) hsz hf)
  have HF := Lib.hid (fun (W : World) (hb : Below w.heap.size w W) => find_any l lv a.nm S W (hD.below hb) (by have := hd.len; omega))
  have hfi : findI a.nm l = -1 := by unfold findI; rw [hf]
  rw [hfi] at HF
  have HR := Lib.hid (fun (W : World) => (show Calls Try.prog 22 #[.string ⟨#[]⟩, ET.zero.ent (.slice none 0 0) (.slice none 0 0) (.slice none 0 0)] W _ from ref_any ET.zero ET.zero_ok (fun _ => True) (.slice none 0 0) (.slice none 0 0) (.slice none 0 0) W ⟨VT.zero_rep _ _, Sl.nil⟩))
  have HM := Lib.hid (fun (W : World) (vi vk : Value) (hc : ET.zero.Cells W (fun _ => True) vi vk (.slice none 0 0)) => (show Calls Try.prog 21 #[ET.zero.agg vi vk (.slice none 0 0), .agg #[.string ⟨#[]⟩, .int .i64 0, .bool false, .int .i64 0, .string ⟨#[]⟩, .slice none 0 0, .slice none 0 0, .bool false, .string ⟨#[]⟩, .slice none 0 0]] W _ from same24_any ET.zero ET.zero_ok _ (fun _ => True) vi vk (.slice none 0 0) (.slice none 0 0) (.slice none 0 0) (.slice none 0 0) W hc ⟨VT.zero_rep _ _, Sl.nil⟩))
  have HS := Lib.hid h
  have HD := Lib.hid hD
  have HO := Lib.hid hd
  clear hg h hd hD hq hf hfi
  go_enter Try.func26, Try.ntmps26
  go_wp2_with (first
    | (go_at_call 20; refine (HG.out _ (by ((repeat (first | with_reducible exact Below.refl _ _ | with_reducible refine bl_drew ?_ | with_reducible refine bl_alloc ?_ _ | with_reducible refine bl_set ?_ (by dsimp only; omega) _)); done))).mono ?_; rintro e' w1 ⟨rfl, hb1⟩; have HB1 : Hid (Below w.heap.size w w1) := Lib.hid (bl_step (by ((repeat (first | with_reducible exact Below.refl _ _ | with_reducible refine bl_drew ?_ | with_reducible refine bl_alloc ?_ _ | with_reducible refine bl_set ?_ (by dsimp only; omega) _)); done)) hb1); have P1 := hk_below (by ((repeat (first | with_reducible exact new_blk _ _ | with_reducible exact new_blk1 _ _ _ | with_reducible exact new_blk2 _ _ _ _ | with_reducible refine hk_drew ?_ | with_reducible refine hk_alloc ?_ _ | with_reducible refine hk_set ?_ (by dsimp only; omega) _)); done) : _ = some (Obj.cells #[.int .u8 a.k, .string a.nm, vn, .bool a.has, vd] 41 (0, 0))) hb1; have c1 := cell_blk P1; have s1 := hk_lt P1; clear hb1 P1)
    | (go_at_call 41; refine (HF.out _ (by ((repeat (first | with_reducible exact HB1.out | with_reducible exact Below.refl _ _ | with_reducible refine bl_drew ?_ | with_reducible refine bl_alloc ?_ _ | with_reducible refine bl_set ?_ (by dsimp only; omega) _)); done))).mono ?_; rintro e' w2 ⟨rfl, rfl⟩)
    | (go_at_call 22; with_reducible refine (HR.out _).mono ?_; rintro e' w3 ⟨wi, wk, rfl, hc3, hb3⟩; have HB3 : Hid (Below w.heap.size w w3) := Lib.hid (bl_step (by ((repeat (first | with_reducible exact HB1.out | with_reducible exact Below.refl _ _ | with_reducible refine bl_drew ?_ | with_reducible refine bl_alloc ?_ _ | with_reducible refine bl_set ?_ (by dsimp only; omega) _)); done)) hb3); have HC3 := Lib.hid hc3; clear hc3 hb3)
    | (go_at_call 21; refine (HM.out _ _ _ HC3.out).mono ?_; rintro e' w4 ⟨rfl, hb4⟩; have HB4 : Hid (Below w.heap.size w w4) := Lib.hid (bl_step HB3.out hb4); clear hb4))
  go_ret2
  exact ⟨_, _, rfl, (HD.out.below HB4.out).go (Kc.refl _ _) (fun _ _ _ _ h _ => .inl h), HO.out, (HS.out.below HB4.out).mono (fun _ h => .inl h), but_below HB4.out⟩
end
end Go.Proofs.Ytbajghjdnjodmaa
