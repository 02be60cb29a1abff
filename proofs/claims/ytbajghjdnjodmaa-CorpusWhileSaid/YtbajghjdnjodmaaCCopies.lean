/- CorpusCopies: a copy is the same; what is done with either changes nothing of the other one. -/
import Derived.Test.YtbajghjdnjodmaaCPlays
namespace Go.Proofs.Ytbajghjdnjodmaa
set_option linter.unusedVariables false
set_option linter.unusedSimpArgs false
open Go.RowKit

/-- What is done with another corpus changes nothing of one. -/
theorem CInv.other {S : Nat → Prop} {w W W' : World} {g m m' : Nat} {lv : Value} {l : List ET} (h : CInv S w g m lv l W) {es : Array MapEntry} {c : Nat} (hm : W.heap[m']? = some (.map es c)) (hne : m ≠ m') (hb : But m' W W') (hm' : w.heap.size ≤ m') : CInv S w g m lv l W' :=
  ⟨below_but h.bel hb hm', but_blk hb h.han (fun e => by have := h.han; rw [e, hm] at this; cases this), h.syn.go (hb.block m h.syn.lt hne) (but_kc hb hm) (fun _ _ _ _ h _ => h), h.ok, h.doc.keep (but_kc hb hm), h.hm⟩
/-- Two corpora, each with the document's row. -/
structure CTwo (w : World) (g m g' m' : Nat) (lv lv' : Value) (l l' : List ET) (W : World) : Prop where
  one : CInv (fun _ => True) w g m lv l W
  two : CInv (fun _ => True) w g' m' lv' l' W
  ne : m ≠ m'
theorem CTwo.below {w W W' : World} {g m g' m' : Nat} {lv lv' : Value} {l l' : List ET} (h : CTwo w g m g' m' lv lv' l l' W) (hb : Below W.heap.size W W') : CTwo w g m g' m' lv lv' l l' W' :=
  ⟨h.one.below hb, h.two.below hb, h.ne⟩
theorem CTwo.first {w W W' : World} {g m g' m' : Nat} {lv lv' lw : Value} {l l' q : List ET} (h : CTwo w g m g' m' lv lv' l l' W) (hdoc : Doc W' (fun _ => True) lw q) (hok : DocOk q) (hsy : Syn W' (fun _ => True) m q) (hb : But m W W') : CTwo w g m g' m' lw lv' q l' W' := by
  obtain ⟨es, c, hm⟩ := h.one.syn.isMap
  exact ⟨h.one.done hdoc hok hsy hb, h.two.other hm h.ne.symm hb h.one.hm, h.ne⟩
theorem CTwo.second {w W W' : World} {g m g' m' : Nat} {lv lv' lw : Value} {l l' q : List ET} (h : CTwo w g m g' m' lv lv' l l' W) (hdoc : Doc W' (fun _ => True) lw q) (hok : DocOk q) (hsy : Syn W' (fun _ => True) m' q) (hb : But m' W W') : CTwo w g m g' m' lv lw l q W' := by
  obtain ⟨es, c, hm⟩ := h.two.syn.isMap
  exact ⟨h.one.other hm h.ne hb h.two.hm, h.two.done hdoc hok hsy hb, h.ne⟩
set_option maxRecDepth 20000 in
set_option maxHeartbeats 1000000 in
theorem copies_not (l l' : List AT) (lv lv' : Value) (S S' : Nat → Prop) (w : World) (h : Acts w S lv l) (h' : Acts w S' lv' l') (b : Bool) (hf : fewB l = b) (hf' : b = true → fewB l' = false) : Calls Try.prog 7 #[lv, lv'] w fun r w' => r = .returned (.bool true) ∧ Below w.heap.size w w' := by
  have HF := Lib.hid (fun (W : World) (hb : Below w.heap.size w W) => few_any l lv S W (h.keep (kc_below hb)))
  have HF' := Lib.hid (fun (W : World) (hb : Below w.heap.size w W) => few_any l' lv' S' W (h'.keep (kc_below hb)))
  rw [hf] at HF
  clear h h' hf
  cases b
  all_goals
    (try rw [hf' rfl] at HF')
    clear hf'
    go_enter Try.func7, Try.ntmps7
    go_wp2_with fail
    refine (awake24_any _).mono ?_
    rintro e w1 ⟨rfl, hb1⟩
    have HB1 := Lib.hid hb1
    clear hb1
    go_wp2_with (first
      | (go_at_call 16; with_reducible refine (HF.out _ HB1.out).mono ?_; rintro e' w2 ⟨rfl, hb2⟩; have HB2 : Hid (Below w.heap.size w w2) := Lib.hid (bl_step HB1.out hb2); clear hb2)
      | (go_at_call 16; with_reducible refine (HF'.out _ HB2.out).mono ?_; rintro e' w3 ⟨rfl, hb3⟩; have HB2 : Hid (Below w.heap.size w w3) := Lib.hid (bl_step HB2.out hb3); clear hb3))
    refine (awake24_any _).mono ?_
    rintro e w4 ⟨rfl, hb4⟩
    have HB3 := Lib.hid (bl_step HB2.out hb4)
    clear hb4
    go_wp2_with fail
    go_ret
    exact ⟨rfl, HB3.out⟩
set_option maxRecDepth 20000 in
set_option maxHeartbeats 1000000 in
theorem copies_few (l l' : List AT) (lv lv' : Value) (S S' : Nat → Prop) (w : World) (h : Acts w S lv l) (h' : Acts w S' lv' l') (hf : fewB l = true) (hf' : fewB l' = true) : Calls Try.prog 7 #[lv, lv'] w fun r w' => r = .returned (.bool true) ∧ Below w.heap.size w w' := by
  have HF := Lib.hid (fun (W : World) (hb : Below w.heap.size w W) => few_any l lv S W (h.keep (kc_below hb)))
  have HF' := Lib.hid (fun (W : World) (hb : Below w.heap.size w W) => few_any l' lv' S' W (h'.keep (kc_below hb)))
  rw [hf] at HF
  rw [hf'] at HF'
  obtain ⟨av, cv, rfl, hcv⟩ := acts_shape h
  obtain ⟨av', cv', rfl, hcv'⟩ := acts_shape h'
  have hmx : l.length ≤ 9223372036854775807 := h.1
  have hmx' : l'.length ≤ 9223372036854775807 := h'.1
  have HA := Lib.hid h
  have HA' := Lib.hid h'
  have HM := Lib.hid (few_mem hf).2
  have HM' := Lib.hid (few_mem hf').2
  clear h hf h' hf'
  go_enter Try.func7, Try.ntmps7
  go_wp2_with fail
  refine (awake24_any _).mono ?_
  rintro e w1 ⟨rfl, hb1⟩
  have HB1 := Lib.hid hb1
  clear hb1
  go_wp2_with (first
    | (go_at_call 16; with_reducible refine (HF.out _ HB1.out).mono ?_; rintro e' w2 ⟨rfl, hb2⟩; have HB2 : Hid (Below w.heap.size w w2) := Lib.hid (bl_step HB1.out hb2); clear hb2)
    | (go_at_call 16; with_reducible refine (HF'.out _ HB2.out).mono ?_; rintro e' w3 ⟨rfl, hb3⟩; have HB3 : Hid (Below w.heap.size w w3) := Lib.hid (bl_step HB2.out hb3); clear hb3)
    | (go_at_call 10; refine (cnew_any _).mono ?_; rintro e' w4 ⟨rfl, rfl⟩))
  have HI := Lib.hid (cinv_new (S := fun _ => True) HB3.out)
  generalize ((w3.alloc (.map #[] 0)).alloc (.cells #[.map (some w3.heap.size)] 69)) = W3 at *
  go_loopw [6, 32] (fun lw i W => ∃ (k : Nat) (q : List ET), k ≤ l.length ∧ i = .int .i64 k ∧ Hid (CInv (fun _ => True) w (w3.heap.size + 1) w3.heap.size lw q W)) (fun _ i _ => l.length - (intOf i).toNat)
  case atStart => exact ⟨0, [], Nat.zero_le _, rfl, HI⟩
  case round =>
    clear HI HF HB1 HB2 HF' HB3
    obtain ⟨k, q, hk, rfl, HI⟩ := hrel
    by_cases hlt : k < l.length
    · obtain ⟨ga, oa, rfl, _⟩ := acts_base HA.out (by omega)
      obtain ⟨vn, vd, hc, d0, d1, d2, d3, d4⟩ := acts_at HA.out HI.out.bel hlt
      obtain ⟨a1, c1, a2, c2, rfl, rfl⟩ := act_shape hc
      obtain ⟨h1, h2⟩ := HM.out _ (List.getElem_mem hlt)
      have HD := Lib.hid (fun (W : World) (hb : Below wr.heap.size wr W) => do_any (w3.heap.size + 1) w3.heap.size q u6 l[k] _ _ (fun _ => True) S W h1 h2 (hc.keep (kc_below hb)) (HI.out.below hb).han (HI.out.below hb).syn HI.out.ok (HI.out.below hb).doc)
      clear hc h1 h2
      go_wp2_with (first
        | (go_at_call 26; refine (HD.out _ (by ((repeat (first | with_reducible exact Below.refl _ _ | with_reducible refine bl_drew ?_ | with_reducible refine bl_alloc ?_ _ | with_reducible refine bl_set ?_ (by dsimp only; omega) _)); done))).mono ?_; rintro e' w4 ⟨lv', l', rfl, hdoc, hok, hsy, hbut⟩; have HI2 := Lib.hid (((HI.out.below (by ((repeat (first | with_reducible exact Below.refl _ _ | with_reducible refine bl_drew ?_ | with_reducible refine bl_alloc ?_ _ | with_reducible refine bl_set ?_ (by dsimp only; omega) _)); done))).done hdoc hok hsy hbut).mono (S' := fun _ => True) (fun _ _ => trivial)); clear hdoc hok hsy hbut))
      go_roundw
      case rel => exact ⟨k + 1, _, by omega, by go_num, HI2⟩
      case measure => simp [intOf]; omega
    · obtain rfl : k = l.length := by omega
      clear hcv hmx HA HM hlt hk
      obtain ⟨wo, rfl⟩ : ∃ x, x = wr := ⟨_, rfl⟩
      go_wp2_with (first
        | (go_at_call 27; refine (ccopy_any _ _ _ _ _ HI.out.han HI.out.syn HI.out.ok).mono ?_; rintro e' w5 ⟨g', m', rfl, hgg, hsy, hb5, hg5, hm5⟩; have HT : Hid (CTwo w (w3.heap.size + 1) w3.heap.size g' m' u6 u6 q q w5) := Lib.hid ⟨HI.out.below hb5, ⟨(HI.out.below hb5).bel, hgg, hsy.mono (fun _ _ => trivial), HI.out.ok, (HI.out.below hb5).doc, Nat.le_trans HI.out.bel.size hm5⟩, fun e => absurd HI.out.syn.lt (by omega)⟩; clear hgg hsy hb5 hg5 hm5)
        | (go_at_call 25; refine (is24_any _ _ _ _ _ _ _ HT.out.two.han HT.out.two.syn HT.out.two.ok HT.out.two.doc).mono ?_; rintro e' w6 ⟨rfl, hb6⟩; have HT2 := Lib.hid (HT.out.below hb6); clear hb6))
      clear HI
      go_loopw [6, 12, 56] (fun lw lx i W => ∃ (k : Nat) (p q : List ET), k ≤ l'.length ∧ i = .int .i64 k ∧ Hid (CTwo w (w3.heap.size + 1) w3.heap.size g' m' lw lx p q W)) (fun _ _ i _ => l'.length - (intOf i).toNat)
      case atStart => exact ⟨0, _, _, Nat.zero_le _, rfl, HT2⟩
      case round =>
        clear HT HT2
        obtain ⟨k, p, q, hk, rfl, HT⟩ := hrel
        by_cases hlt : k < l'.length
        · obtain ⟨ga, oa, rfl, _⟩ := acts_base HA'.out (by omega)
          obtain ⟨vn, vd, hc, d0, d1, d2, d3, d4⟩ := acts_at HA'.out HT.out.one.bel hlt
          obtain ⟨a1, c1, a2, c2, rfl, rfl⟩ := act_shape hc
          obtain ⟨h1, h2⟩ := HM'.out _ (List.getElem_mem hlt)
          by_cases hpar : (k : Int) % 2 = 0
          · have HD := Lib.hid (fun (W : World) (hb : Below wr.heap.size wr W) => do_any (w3.heap.size + 1) w3.heap.size p u6 l'[k] _ _ (fun _ => True) S' W h1 h2 (hc.keep (kc_below hb)) (HT.out.one.below hb).han (HT.out.one.below hb).syn HT.out.one.ok (HT.out.one.below hb).doc)
            have e0 : ((k : Int) % 2 == 0) = true := by rw [hpar]; rfl
            clear hc h1 h2 hpar
            go_wp2_with (first
              | (go_at_call 26; refine (HD.out _ (by ((repeat (first | with_reducible exact Below.refl _ _ | with_reducible refine bl_drew ?_ | with_reducible refine bl_alloc ?_ _ | with_reducible refine bl_set ?_ (by dsimp only; omega) _)); done))).mono ?_; rintro e' w6 ⟨ly, l2, rfl, hdoc, hok, hsy, hbut⟩; have HI2 := Lib.hid ((HT.out.below (by ((repeat (first | with_reducible exact Below.refl _ _ | with_reducible refine bl_drew ?_ | with_reducible refine bl_alloc ?_ _ | with_reducible refine bl_set ?_ (by dsimp only; omega) _)); done))).first (doc_true hdoc) hok (hsy.mono (fun _ _ => trivial)) hbut); clear hdoc hok hsy hbut)
              | (go_at_call 25; with_reducible refine (is24_any _ _ _ _ _ _ _ HI2.out.one.han HI2.out.one.syn HI2.out.one.ok HI2.out.one.doc).mono ?_; rintro e' w7 ⟨rfl, hb7⟩; have HI3 := Lib.hid (HI2.out.below hb7); clear hb7)
              | (go_at_call 25; with_reducible refine (is24_any _ _ _ _ _ _ _ HI3.out.two.han HI3.out.two.syn HI3.out.two.ok HI3.out.two.doc).mono ?_; rintro e' w8 ⟨rfl, hb8⟩; have HI4 := Lib.hid (HI3.out.below hb8); clear hb8))
            go_roundw
            case rel => exact ⟨k + 1, _, _, by omega, by go_num, HI4⟩
            case measure => simp [intOf]; omega
          · have HD := Lib.hid (fun (W : World) (hb : Below wr.heap.size wr W) => do_any g' m' q u12 l'[k] _ _ (fun _ => True) S' W h1 h2 (hc.keep (kc_below hb)) (HT.out.two.below hb).han (HT.out.two.below hb).syn HT.out.two.ok (HT.out.two.below hb).doc)
            have e0 : ((k : Int) % 2 == 0) = false := by rw [beq_eq_false_iff_ne]; exact hpar
            clear hc h1 h2 hpar
            go_wp2_with (first
              | (go_at_call 26; refine (HD.out _ (by ((repeat (first | with_reducible exact Below.refl _ _ | with_reducible refine bl_drew ?_ | with_reducible refine bl_alloc ?_ _ | with_reducible refine bl_set ?_ (by dsimp only; omega) _)); done))).mono ?_; rintro e' w6 ⟨ly, l2, rfl, hdoc, hok, hsy, hbut⟩; have HI2 := Lib.hid ((HT.out.below (by ((repeat (first | with_reducible exact Below.refl _ _ | with_reducible refine bl_drew ?_ | with_reducible refine bl_alloc ?_ _ | with_reducible refine bl_set ?_ (by dsimp only; omega) _)); done))).second (doc_true hdoc) hok (hsy.mono (fun _ _ => trivial)) hbut); clear hdoc hok hsy hbut)
              | (go_at_call 25; with_reducible refine (is24_any _ _ _ _ _ _ _ HI2.out.one.han HI2.out.one.syn HI2.out.one.ok HI2.out.one.doc).mono ?_; rintro e' w7 ⟨rfl, hb7⟩; have HI3 := Lib.hid (HI2.out.below hb7); clear hb7)
              | (go_at_call 25; with_reducible refine (is24_any _ _ _ _ _ _ _ HI3.out.two.han HI3.out.two.syn HI3.out.two.ok HI3.out.two.doc).mono ?_; rintro e' w8 ⟨rfl, hb8⟩; have HI4 := Lib.hid (HI3.out.below hb8); clear hb8))
            go_roundw
            case rel => exact ⟨k + 1, _, _, by omega, by go_num, HI4⟩
            case measure => simp [intOf]; omega
        · obtain rfl : k = l'.length := by omega
          go_wp2
          go_ret
          exact ⟨rfl, HT.out.one.bel⟩
theorem copies_walk (l : List AT) (lv : Value) (S : Nat → Prop) (l' : List AT) (lv' : Value) (S' : Nat → Prop) (w : World) (h : Acts w S lv l) (h' : Acts w S' lv' l') : Calls Try.prog 7 #[lv, lv'] w fun r w' => r = .returned (.bool true) ∧ Below w.heap.size w w' := by
  cases hf : fewB l with
  | true =>
    cases hf' : fewB l' with
    | true => exact copies_few l l' lv lv' S S' w h h' hf hf'
    | false => exact copies_not l l' lv lv' S S' w h h' true hf (fun _ => hf')
  | false => exact copies_not l l' lv lv' S S' w h h' false hf (fun h => by cases h)
end Go.Proofs.Ytbajghjdnjodmaa
