/- CorpusPlays: whatever is put, got and dropped, each call answers, and the corpus is, as the document says. -/
import Derived.Test.YtbajghjdnjodmaaCDoC
namespace Go.Proofs.Ytbajghjdnjodmaa
set_option linter.unusedVariables false
set_option linter.unusedSimpArgs false
open Go.RowKit

theorem below_but {m : Nat} {w W W' : World} (h : Below w.heap.size w W) (b : But m W W') (hm : w.heap.size ≤ m) : Below w.heap.size w W' :=
  ⟨b.os.trans h.os, b.tape.trans h.tape, b.output.trans h.output, Nat.le_trans h.size b.size, fun j hj => (b.block j (Nat.lt_of_lt_of_le hj h.size) (by omega)).trans (h.block j hj)⟩
/-- A corpus of the call's own, and the document's row. -/
structure CInv (S : Nat → Prop) (w : World) (g m : Nat) (lv : Value) (l : List ET) (W : World) : Prop where
  bel : Below w.heap.size w W
  han : W.heap[g]? = some (.cells #[.map (some m)] 69 (0, 0))
  syn : Syn W S m l
  ok : DocOk l
  doc : Doc W S lv l
  hm : w.heap.size ≤ m
theorem CInv.below {S : Nat → Prop} {w W W' : World} {g m : Nat} {lv : Value} {l : List ET} (h : CInv S w g m lv l W) (hb : Below W.heap.size W W') : CInv S w g m lv l W' :=
  ⟨bl_step h.bel hb, hk_below h.han hb, h.syn.below hb, h.ok, h.doc.below hb, h.hm⟩
theorem CInv.mono {S S' : Nat → Prop} {w W : World} {g m : Nat} {lv : Value} {l : List ET} (h : CInv S w g m lv l W) (k : ∀ g, S g → S' g) : CInv S' w g m lv l W :=
  ⟨h.bel, h.han, h.syn.mono k, h.ok, h.doc.go (Kc.refl _ _) (fun x _ _ _ h _ => k x h), h.hm⟩
theorem CInv.done {S S' : Nat → Prop} {w W W' : World} {g m : Nat} {lv lv' : Value} {l l' : List ET} (h : CInv S w g m lv l W) (hdoc : Doc W' S' lv' l') (hok : DocOk l') (hsy : Syn W' S' m l') (hb : But m W W') : CInv S' w g m lv' l' W' :=
  ⟨below_but h.bel hb h.hm, but_cells hb h.syn h.han, hsy, hok, hdoc, h.hm⟩
/-- The acts, whatever has been made. -/
theorem acts_at {w W : World} {S : Nat → Prop} {g o c : Nat} {l : List AT} (h : Acts w S (.slice (some ⟨g, o, none⟩) l.length c) l) (hb : Below w.heap.size w W) {k : Nat} (hk : k < l.length) :
    ∃ vn vd, l[k].Cells W S vn vd ∧ W.cell? ⟨g, o + k * 5, none⟩ = some (.int .u8 l[k].k) ∧ W.cell? ⟨g, o + k * 5 + 1, none⟩ = some (.string l[k].nm) ∧ W.cell? ⟨g, o + k * 5 + 2, none⟩ = some vn ∧ W.cell? ⟨g, o + k * 5 + 3, none⟩ = some (.bool l[k].has) ∧ W.cell? ⟨g, o + k * 5 + 4, none⟩ = some vd := by
  obtain ⟨_, cs, hs, hr⟩ := h.keep (kc_below hb)
  obtain ⟨g', o', c', hv, _, _, _, hcells⟩ := hs.at (by omega)
  cases hv
  exact act_cells hr hcells hk
theorem acts_shape {w : World} {S : Nat → Prop} {v : Value} {l : List AT} (h : Acts w S v l) : ∃ a c, v = .slice a l.length c ∧ l.length ≤ c := by
  obtain ⟨_, cs, hs, _⟩ := h
  obtain ⟨a, c, h1, h2, _⟩ := hs.shape
  exact ⟨a, c, h1, h2⟩
theorem acts_base {w : World} {S : Nat → Prop} {a : Option Addr} {c : Nat} {l : List AT} (h : Acts w S (.slice a l.length c) l) (hl : 0 < l.length) : ∃ g o, a = some ⟨g, o, none⟩ ∧ g < w.heap.size := by
  obtain ⟨_, cs, hs, _⟩ := h
  obtain ⟨g, o, c', hv, _, _, hg, _⟩ := hs.at hl
  cases hv
  exact ⟨g, o, rfl, hg⟩
theorem syn_new (W : World) (o : Obj) (S : Nat → Prop) : Syn ((W.alloc (.map #[] 0)).alloc o) S W.heap.size [] :=
  ⟨.map [], ((World.ownsMap_made W Try.prog 9 entR).kept (World.grownBy_alloc _ _ none) (by simp)).mono (by omega), rfl, fun nm => rfl, fun e he => (by cases he)⟩
theorem cinv_new {S : Nat → Prop} {w W : World} (hb : Below w.heap.size w W) : CInv S w (W.heap.size + 1) W.heap.size (.slice none 0 0) [] ((W.alloc (.map #[] 0)).alloc (.cells #[.map (some W.heap.size)] 69)) :=
  ⟨by ((repeat (first | with_reducible exact hb | with_reducible exact Below.refl _ _ | with_reducible refine bl_drew ?_ | with_reducible refine bl_alloc ?_ _ | with_reducible refine bl_set ?_ (by dsimp only; omega) _)); done), by ((repeat (first | with_reducible exact new_blk _ _ | with_reducible exact new_blk1 _ _ _ | with_reducible exact new_blk2 _ _ _ _ | with_reducible refine hk_drew ?_ | with_reducible refine hk_alloc ?_ _ | with_reducible refine hk_set ?_ (by dsimp only; omega) _)); done), syn_new _ _ _, ⟨List.Pairwise.nil, fun _ h => (by cases h), fun _ h => (by cases h), Nat.zero_le _⟩, ⟨[], Sl.nil, rfl⟩, hb.size⟩
set_option maxRecDepth 20000 in
set_option maxHeartbeats 1000000 in
theorem plays_not (l : List AT) (lv : Value) (S : Nat → Prop) (w : World) (h : Acts w S lv l) (hf : fewB l = false) : Calls Try.prog 6 #[lv] w fun r w' => r = .returned (.bool true) ∧ Below w.heap.size w w' := by
  have HF := Lib.hid (fun (W : World) (hb : Below w.heap.size w W) => few_any l lv S W (h.keep (kc_below hb)))
  rw [hf] at HF
  clear h hf
  go_enter Try.func6, Try.ntmps6
  go_wp2_with fail
  refine (awake24_any _).mono ?_
  rintro e w1 ⟨rfl, hb1⟩
  have HB1 := Lib.hid hb1
  clear hb1
  go_wp2_with (go_at_call 16; refine (HF.out _ HB1.out).mono ?_; rintro e' w2 ⟨rfl, hb2⟩; have HB2 : Hid (Below w.heap.size w w2) := Lib.hid (bl_step HB1.out hb2); clear hb2)
  refine (awake24_any _).mono ?_
  rintro e w3 ⟨rfl, hb3⟩
  have HB3 := Lib.hid (bl_step HB2.out hb3)
  clear hb3
  go_wp2_with fail
  go_ret
  exact ⟨rfl, HB3.out⟩
set_option maxRecDepth 20000 in
set_option maxHeartbeats 1000000 in
theorem plays_few (l : List AT) (lv : Value) (S : Nat → Prop) (w : World) (h : Acts w S lv l) (hf : fewB l = true) : Calls Try.prog 6 #[lv] w fun r w' => r = .returned (.bool true) ∧ Below w.heap.size w w' := by
  have HF := Lib.hid (fun (W : World) (hb : Below w.heap.size w W) => few_any l lv S W (h.keep (kc_below hb)))
  rw [hf] at HF
  obtain ⟨av, cv, rfl, hcv⟩ := acts_shape h
  have hmx : l.length ≤ 9223372036854775807 := h.1
  have HA := Lib.hid h
  have HM := Lib.hid (few_mem hf).2
  clear h hf
  go_enter Try.func6, Try.ntmps6
  go_wp2_with fail
  refine (awake24_any _).mono ?_
  rintro e w1 ⟨rfl, hb1⟩
  have HB1 := Lib.hid hb1
  clear hb1
  go_wp2_with (first
    | (go_at_call 16; refine (HF.out _ HB1.out).mono ?_; rintro e' w2 ⟨rfl, hb2⟩; have HB2 : Hid (Below w.heap.size w w2) := Lib.hid (bl_step HB1.out hb2); clear hb2)
    | (go_at_call 10; refine (cnew_any _).mono ?_; rintro e' w3 ⟨rfl, rfl⟩))
  have HI := Lib.hid (cinv_new (S := fun _ => True) HB2.out)
  generalize ((w2.alloc (.map #[] 0)).alloc (.cells #[.map (some w2.heap.size)] 69)) = W3 at *
  go_loopw [4, 20] (fun lw i W => ∃ (k : Nat) (q : List ET), k ≤ l.length ∧ i = .int .i64 k ∧ Hid (CInv (fun _ => True) w (w2.heap.size + 1) w2.heap.size lw q W)) (fun _ i _ => l.length - (intOf i).toNat)
  case atStart => exact ⟨0, [], Nat.zero_le _, rfl, HI⟩
  case round =>
    clear HI HF HB1 HB2
    obtain ⟨k, q, hk, rfl, HI⟩ := hrel
    by_cases hlt : k < l.length
    · obtain ⟨ga, oa, rfl, _⟩ := acts_base HA.out (by omega)
      obtain ⟨vn, vd, hc, d0, d1, d2, d3, d4⟩ := acts_at HA.out HI.out.bel hlt
      obtain ⟨a1, c1, a2, c2, rfl, rfl⟩ := act_shape hc
      obtain ⟨h1, h2⟩ := HM.out _ (List.getElem_mem hlt)
      have HD := Lib.hid (fun (W : World) (hb : Below wr.heap.size wr W) => do_any (w2.heap.size + 1) w2.heap.size q u4 l[k] _ _ (fun _ => True) S W h1 h2 (hc.keep (kc_below hb)) (HI.out.below hb).han (HI.out.below hb).syn HI.out.ok (HI.out.below hb).doc)
      clear hc h1 h2
      go_wp2_with (first
        | (go_at_call 26; refine (HD.out _ (by ((repeat (first | with_reducible exact Below.refl _ _ | with_reducible refine bl_drew ?_ | with_reducible refine bl_alloc ?_ _ | with_reducible refine bl_set ?_ (by dsimp only; omega) _)); done))).mono ?_; rintro e' w4 ⟨lv', l', rfl, hdoc, hok, hsy, hbut⟩; have HI2 := Lib.hid (((HI.out.below (by ((repeat (first | with_reducible exact Below.refl _ _ | with_reducible refine bl_drew ?_ | with_reducible refine bl_alloc ?_ _ | with_reducible refine bl_set ?_ (by dsimp only; omega) _)); done))).done hdoc hok hsy hbut).mono (S' := fun _ => True) (fun _ _ => trivial)); clear hdoc hok hsy hbut)
        | (go_at_call 25; refine (is24_any _ _ _ _ _ _ _ HI2.out.han HI2.out.syn HI2.out.ok HI2.out.doc).mono ?_; rintro e' w5 ⟨rfl, hb5⟩; have HI3 := Lib.hid (HI2.out.below hb5); clear hb5))
      go_roundw
      case rel => exact ⟨k + 1, _, by omega, by go_num, HI3⟩
      case measure => simp [intOf]; omega
    · obtain rfl : k = l.length := by omega
      go_wp2
      go_ret
      exact ⟨rfl, HI.out.bel⟩
/-- The walk. -/
theorem plays_walk (l : List AT) (lv : Value) (S : Nat → Prop) (w : World) (h : Acts w S lv l) : Calls Try.prog 6 #[lv] w fun r w' => r = .returned (.bool true) ∧ Below w.heap.size w w' := by
  cases hf : fewB l with
  | true => exact plays_few l lv S w h hf
  | false => exact plays_not l lv S w h hf
end Go.Proofs.Ytbajghjdnjodmaa
