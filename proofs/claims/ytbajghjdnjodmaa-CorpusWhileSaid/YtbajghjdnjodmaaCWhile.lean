/- CorpusWhile: what is put and dropped while all entries are told changes nothing of what is told; it ends as soon as it is told to. -/
import Derived.Test.YtbajghjdnjodmaaCWhile2
namespace Go.Proofs.Ytbajghjdnjodmaa
set_option linter.unusedVariables false
set_option linter.unusedSimpArgs false
open Go.RowKit Go.Shelf

theorem while_yields (w0 : World) (g m bo bn bw bm bc bl bt : Nat) (wv mv : Value) (most : Int) (was : List ET) (n0 : Nat) (more : List AT) (S : Nat → Prop) (hd : DocOk was) (hA : Acts w0 S mv more) (hM : ∀ a ∈ more, a.nm.size ≤ 40 ∧ a.dr.length ≤ 40) (h0 : 0 ≤ most) (h255 : most ≤ 255) (hn0 : bo < n0 ∧ bn < n0 ∧ bl < n0 ∧ m < n0) :
    Yields 28 #[.pointer (some ⟨bo, 0, none⟩), .pointer (some ⟨bn, 0, none⟩), .pointer (some ⟨bw, 0, none⟩), .pointer (some ⟨bm, 0, none⟩), .pointer (some ⟨bc, 0, none⟩), .pointer (some ⟨bl, 0, none⟩), .pointer (some ⟨bt, 0, none⟩)] (WAt w0 g m bo bn bw bm bc bl bt wv mv most was) (fun k => decide ((k : Int) + 1 < most)) was n0 := by
  intro k e vi vk vd W hk hW hJ hc _
  refine (while1_any w0 g m bo bn bw bm bc bl bt wv mv most was k n0 more S _ e vi vk vd W hJ hk (hd.ok e (List.mem_of_getElem? hk)) hc hd.len hA hM h0 h255 hn0).mono ?_
  rintro r W' ⟨h1, h2, h3⟩
  exact ⟨h1, h2, fun _ => h3.block, h3.size⟩
/-- How many are told. -/
theorem told_many {n k : Nat} {most : Int} (hk : k ≤ n) (h1 : ∀ i : Nat, i + 1 < k → decide ((i : Int) + 1 < most) = true) (h2 : k = n ∨ (0 < k ∧ decide (((k - 1 : Nat) : Int) + 1 < most) = false)) : (k : Int) = min (n : Int) (max most 1) := by
  have h3 : 2 ≤ k → (k : Int) ≤ most := fun h => by
    have := of_decide_eq_true (h1 (k - 2) (by omega)); omega
  rcases h2 with h2 | ⟨h2, h4⟩
  · by_cases h : 2 ≤ k
    · have := h3 h; omega
    · omega
  · have h4 := of_decide_eq_false h4
    by_cases h : 2 ≤ k
    · have := h3 h; omega
    · omega
/-- What While has while acts are done. -/
structure WIn (w : World) (g m bm bc bl bt : Nat) (mv : Value) (most : Int) (lw : Value) (q : List ET) (W : World) : Prop where
  more : W.heap[bm]? = some (.cells #[mv] 43 (0, 0))
  top : W.heap[bt]? = some (.cells #[.int .u8 most] 5 (0, 0))
  han : W.heap[bc]? = some (.cells #[.pointer (some ⟨g, 0, none⟩)] 24 (0, 0))
  row : W.heap[bl]? = some (.cells #[lw] 61 (0, 0))
  cor : CInv (fun x => x ≠ bl) w g m lw q W
  ne : bl ≠ bm ∧ bl ≠ bt ∧ bl ≠ bc ∧ bl ≠ g ∧ bl ≠ m
  own : w.heap.size ≤ bl
section
variable {w W W' : World} {g m bm bc bl bt : Nat} {mv lw : Value} {most : Int} {q : List ET}
theorem WIn.below (h : WIn w g m bm bc bl bt mv most lw q W) (hb : Below W.heap.size W W') : WIn w g m bm bc bl bt mv most lw q W' :=
  ⟨hk_below h.more hb, hk_below h.top hb, hk_below h.han hb, hk_below h.row hb, h.cor.below hb, h.ne, h.own⟩
theorem WIn.done (h : WIn w g m bm bc bl bt mv most lw q W) {lv : Value} {l : List ET} (hdoc : Doc W' (fun x => x ≠ bl) lv l) (hok : DocOk l) (hsy : Syn W' (fun x => x ≠ bl) m l) (hb : But m W W') : WIn w g m bm bc bl bt mv most lv l (W'.setCell ⟨bl, 0, none⟩ lv) := by
  have s := h.cor.syn
  obtain ⟨e1, e2, e3, e4, e5⟩ := h.ne
  have nb : ∀ {b : Nat} {cs : Array Value} {t : TypeId}, b ≠ bl → W.heap[b]? = some (.cells cs t (0, 0)) → (W'.setCell ⟨bl, 0, none⟩ lv).heap[b]? = some (.cells cs t (0, 0)) := fun hn hx => hk_set (but_cells hb s hx) hn _
  exact ⟨nb e1.symm h.more, nb e2.symm h.top, nb e3.symm h.han, set_to (but_cells hb s h.row) 0 lv rfl, (h.cor.done hdoc hok hsy hb).set (fun h => h rfl) e4.symm e5.symm h.own 0 lv, h.ne, h.own⟩
end
set_option maxRecDepth 20000 in
set_option maxHeartbeats 1000000 in
theorem while_not (l l' : List AT) (lv lv' : Value) (most : Int) (S S' : Nat → Prop) (w : World) (h : Acts w S lv l) (h' : Acts w S' lv' l') (b : Bool) (hf : fewB l = b) (hf' : b = true → fewB l' = false) : Calls Try.prog 8 #[lv, lv', .int .u8 most] w fun r w' => r = .returned (.bool true) ∧ Below w.heap.size w w' := by
  obtain ⟨av', cv', rfl, _⟩ := acts_shape h'
  have HF := Lib.hid (fun (W : World) (hb : Below w.heap.size w W) => few_any l lv S W (h.keep (kc_below hb)))
  have HF' := Lib.hid (fun (W : World) (hb : Below w.heap.size w W) => few_any l' _ S' W (h'.keep (kc_below hb)))
  rw [hf] at HF
  clear h h' hf
  cases b
  all_goals
    (try rw [hf' rfl] at HF')
    clear hf'
    go_enter Try.func8, Try.ntmps8
    go_wp2_with fail
    refine (awake24_any _).mono ?_
    rintro e w1 ⟨rfl, hb1⟩
    have HB1 : Hid (Below w.heap.size w w1) := Lib.hid (bl_step (by ((repeat (first | with_reducible exact Below.refl _ _ | with_reducible refine bl_drew ?_ | with_reducible refine bl_alloc ?_ _ | with_reducible refine bl_set ?_ (by dsimp only; omega) _)); done)) hb1)
    have P1 : Hid (w1.heap[w.heap.size]? = some (Obj.cells #[.slice av' l'.length cv'] 43 (0, 0))) := Lib.hid (hk_below (by ((repeat (first | with_reducible exact new_blk _ _ | with_reducible exact new_blk1 _ _ _ | with_reducible exact new_blk2 _ _ _ _ | with_reducible refine hk_drew ?_ | with_reducible refine hk_alloc ?_ _ | with_reducible refine hk_set ?_ (by dsimp only; omega) _)); done)) hb1)
    have c1 := cell_blk P1.out
    clear hb1
    go_wp2_with (first
      | (go_at_call 16; with_reducible refine (HF.out _ HB1.out).mono ?_; rintro e' w2 ⟨rfl, hb2⟩; have HB2 : Hid (Below w.heap.size w w2) := Lib.hid (bl_step HB1.out hb2); have c2 := cell_blk (hk_below P1.out hb2); clear hb2)
      | (go_at_call 16; with_reducible refine (HF'.out _ HB2.out).mono ?_; rintro e' w3 ⟨rfl, hb3⟩; have HB2 : Hid (Below w.heap.size w w3) := Lib.hid (bl_step HB2.out hb3); clear hb3))
    refine (awake24_any _).mono ?_
    rintro e w4 ⟨rfl, hb4⟩
    have HB3 := Lib.hid (bl_step HB2.out hb4)
    clear hb4
    go_wp2_with fail
    go_ret
    exact ⟨rfl, HB3.out⟩
set_option maxRecDepth 20000 in
set_option maxHeartbeats 1000000 in
theorem while_few (l l' : List AT) (lv lv' : Value) (most : Int) (S S' : Nat → Prop) (w : World) (h : Acts w S lv l) (h' : Acts w S' lv' l') (hf : fewB l = true) (hf' : fewB l' = true) (h0 : 0 ≤ most) (h255 : most ≤ 255) : Calls Try.prog 8 #[lv, lv', .int .u8 most] w fun r w' => r = .returned (.bool true) ∧ Below w.heap.size w w' := by
  have HF := Lib.hid (fun (W : World) (hb : Below w.heap.size w W) => few_any l lv S W (h.keep (kc_below hb)))
  have HF' := Lib.hid (fun (W : World) (hb : Below w.heap.size w W) => few_any l' lv' S' W (h'.keep (kc_below hb)))
  rw [hf] at HF
  rw [hf'] at HF'
  obtain ⟨av, cv, rfl, hcv⟩ := acts_shape h
  obtain ⟨av', cv', rfl, hcv'⟩ := acts_shape h'
  have hmx : l.length ≤ 9223372036854775807 := h.1
  have HA := Lib.hid h.lt
  have HA' := Lib.hid h'
  have HM := Lib.hid (few_mem hf).2
  have HM' := Lib.hid (few_mem hf').2
  clear h hf h' hf'
  go_enter Try.func8, Try.ntmps8
  go_wp2_with fail
  refine (awake24_any _).mono ?_
  rintro e w1 ⟨rfl, hb1⟩
  have HB1 : Hid (Below w.heap.size w w1) := Lib.hid (bl_step (by ((repeat (first | with_reducible exact Below.refl _ _ | with_reducible refine bl_drew ?_ | with_reducible refine bl_alloc ?_ _ | with_reducible refine bl_set ?_ (by dsimp only; omega) _)); done)) hb1)
  have P1 : Hid (w1.heap[w.heap.size]? = some (Obj.cells #[.slice av' l'.length cv'] 43 (0, 0))) := Lib.hid (hk_below (by ((repeat (first | with_reducible exact new_blk _ _ | with_reducible exact new_blk1 _ _ _ | with_reducible exact new_blk2 _ _ _ _ | with_reducible refine hk_drew ?_ | with_reducible refine hk_alloc ?_ _ | with_reducible refine hk_set ?_ (by dsimp only; omega) _)); done)) hb1)
  have P2 : Hid (w1.heap[w.heap.size + 1]? = some (Obj.cells #[.int .u8 most] 5 (0, 0))) := Lib.hid (hk_below (by ((repeat (first | with_reducible exact new_blk _ _ | with_reducible exact new_blk1 _ _ _ | with_reducible exact new_blk2 _ _ _ _ | with_reducible refine hk_drew ?_ | with_reducible refine hk_alloc ?_ _ | with_reducible refine hk_set ?_ (by dsimp only; omega) _)); done)) hb1)
  have c1 := cell_blk P1.out
  clear hb1
  go_wp2_with (first
    | (go_at_call 16; with_reducible refine (HF.out _ HB1.out).mono ?_; rintro e' w2 ⟨rfl, hb2⟩; have HB2 : Hid (Below w.heap.size w w2) := Lib.hid (bl_step HB1.out hb2); have Q1 := Lib.hid (hk_below P1.out hb2); have Q2 := Lib.hid (hk_below P2.out hb2); have c2 := cell_blk Q1.out; clear hb2)
    | (go_at_call 16; with_reducible refine (HF'.out _ HB2.out).mono ?_; rintro e' w3 ⟨rfl, hb3⟩; have HB3 : Hid (Below w.heap.size w w3) := Lib.hid (bl_step HB2.out hb3); have R1 := Lib.hid (hk_below Q1.out hb3); have R2 := Lib.hid (hk_below Q2.out hb3); clear hb3 c1 c2)
    | (go_at_call 10; refine (cnew_any _).mono ?_; rintro e' w4 ⟨rfl, rfl⟩))
  have HI : Hid (WIn w (w3.heap.size + 1) w3.heap.size w.heap.size (w3.heap.size + 2) (w3.heap.size + 3) (w.heap.size + 1) (.slice av' l'.length cv') most (.slice none 0 0) [] ((((w3.alloc (.map #[] 0)).alloc (.cells #[.map (some w3.heap.size)] 69)).alloc (.cells #[.pointer (some ⟨w3.heap.size + 1, 0, none⟩)] 24)).alloc (.cells #[.slice none 0 0] 61))) := Lib.hid (by
    have hc := cinv_new (S := fun x => x ≠ w3.heap.size + 3) HB3.out
    have h2 := HB2.out.size
    have h3 := hk_lt R2.out
    exact ⟨by ((repeat (first | with_reducible exact R1.out | with_reducible exact new_blk _ _ | with_reducible exact new_blk1 _ _ _ | with_reducible exact new_blk2 _ _ _ _ | with_reducible refine hk_drew ?_ | with_reducible refine hk_alloc ?_ _ | with_reducible refine hk_set ?_ (by dsimp only; omega) _)); done), by ((repeat (first | with_reducible exact R2.out | with_reducible exact new_blk _ _ | with_reducible exact new_blk1 _ _ _ | with_reducible exact new_blk2 _ _ _ _ | with_reducible refine hk_drew ?_ | with_reducible refine hk_alloc ?_ _ | with_reducible refine hk_set ?_ (by dsimp only; omega) _)); done), by ((repeat (first | with_reducible exact new_blk _ _ | with_reducible exact new_blk1 _ _ _ | with_reducible exact new_blk2 _ _ _ _ | with_reducible refine hk_drew ?_ | with_reducible refine hk_alloc ?_ _ | with_reducible refine hk_set ?_ (by dsimp only; omega) _)); done), new_blk3 _ _ _ _ _, hc.below (by ((repeat (first | with_reducible exact Below.refl _ _ | with_reducible refine bl_drew ?_ | with_reducible refine bl_alloc ?_ _ | with_reducible refine bl_set ?_ (by dsimp only; omega) _)); done)), ⟨by omega, by omega, by omega, by omega, by omega⟩, by omega⟩)
  have HLT : Hid (w.heap.size + 1 < w3.heap.size) := Lib.hid (hk_lt R2.out)
  generalize ((((w3.alloc (.map #[] 0)).alloc (.cells #[.map (some w3.heap.size)] 69)).alloc (.cells #[.pointer (some ⟨w3.heap.size + 1, 0, none⟩)] 24)).alloc (.cells #[.slice none 0 0] 61)) = W3 at *
  clear R1 R2 Q1 Q2 P1 P2 HF HF' HB1 HB2 HB3
  rw [show w3.heap.size + 1 + 1 + 1 = w3.heap.size + 3 from rfl, show w3.heap.size + 1 + 1 = w3.heap.size + 2 from rfl]
  go_loopw [32] (fun i W => ∃ (k : Nat) (lw : Value) (q : List ET), k ≤ l.length ∧ i = .int .i64 k ∧ Hid (WIn w (w3.heap.size + 1) w3.heap.size w.heap.size (w3.heap.size + 2) (w3.heap.size + 3) (w.heap.size + 1) (.slice av' l'.length cv') most lw q W)) (fun i _ => l.length - (intOf i).toNat)
  case atStart => exact ⟨0, _, [], Nat.zero_le _, rfl, HI⟩
  case round =>
    clear HI
    obtain ⟨k, lw, q, hk, rfl, HI⟩ := hrel
    by_cases hlt : k < l.length
    · obtain ⟨ga, oa, rfl, _⟩ := acts_base HA.out (by omega)
      obtain ⟨vn, vd, hc, d0, d1, d2, d3, d4⟩ := acts_at HA.out HI.out.cor.bel hlt
      obtain ⟨a1, c1, a2, c2, rfl, rfl⟩ := act_shape hc
      obtain ⟨h1, h2⟩ := HM.out _ (List.getElem_mem hlt)
      have c5 := cell_blk HI.out.han
      have c7 := cell_blk HI.out.row
      have s5 := hk_lt HI.out.han
      have s7 := hk_lt HI.out.row
      have HD := Lib.hid (fun (W : World) (hb : Below wr.heap.size wr W) => do_any (w3.heap.size + 1) w3.heap.size q lw l[k] _ _ _ _ W h1 h2 (hc.keep (kc_below hb)) (HI.out.cor.below hb).han (HI.out.cor.below hb).syn HI.out.cor.ok (HI.out.cor.below hb).doc)
      have HSS : Hid (∀ (n x : Nat), wr.heap.size ≤ n → ((x ≠ w3.heap.size + 3 ∨ x < w.heap.size) ∨ n ≤ x) → x ≠ w3.heap.size + 3) := Lib.hid (fun n x hn h => by
        have := HLT.out
        rcases h with (h | h) | h
        · exact h
        · omega
        · omega)
      clear hc h1 h2
      go_wp2_with (first
        | (go_at_call 26; refine (HD.out _ (by ((repeat (first | with_reducible exact Below.refl _ _ | with_reducible refine bl_drew ?_ | with_reducible refine bl_alloc ?_ _ | with_reducible refine bl_set ?_ (by dsimp only; omega) _)); done))).mono ?_; rintro e' w4 ⟨lv', l2, rfl, hdoc, hok, hsy, hbut⟩; obtain ⟨lA, lC, hv2⟩ := doc_shape hdoc; subst hv2; have HB4 : Hid (But w3.heap.size wr w4) := Lib.hid ((but_below (by ((repeat (first | with_reducible exact Below.refl _ _ | with_reducible refine bl_drew ?_ | with_reducible refine bl_alloc ?_ _ | with_reducible refine bl_set ?_ (by dsimp only; omega) _)); done))).trans hbut); have HI2 := Lib.hid (HI.out.done (hdoc.go (S' := fun x => x ≠ w3.heap.size + 3) (Kc.refl _ _) (fun x _ _ _ h _ => HSS.out _ x (by simp) h)) hok (hsy.mono (fun x h => HSS.out _ x (by simp) h)) HB4.out); have q7 := cell_blk (but_cells HB4.out HI.out.cor.syn HI.out.row); have f7 := frozen_blk (but_cells HB4.out HI.out.cor.syn HI.out.row); clear hdoc hok hsy hbut c5 c7))
      go_roundw
      case rel => exact ⟨k + 1, _, _, by omega, by go_num, HI2⟩
      case measure => simp [intOf]; omega
    · obtain rfl : k = l.length := by omega
      clear hcv hmx HA HM hlt hk
      obtain ⟨wo, rfl⟩ : ∃ x, x = wr := ⟨_, rfl⟩
      obtain ⟨lA, lC, rfl⟩ := doc_shape HI.out.cor.doc
      have c5 := cell_blk HI.out.han
      have c7 := cell_blk HI.out.row
      have s5 := hk_lt HI.out.han
      have s7 := hk_lt HI.out.row
      have hmf : ∀ (fn : Fn) (first cap : Array Value) (w : World), (Instr.makeFunc fn first cap).run Try.prog w = .ok (.func fn first cap) w := fun _ _ _ _ => rfl
      go_upto_region 14 with fail
      rw [show wo.heap.size + 1 + 1 = wo.heap.size + 2 from rfl]
      have hwas := HI.out.cor.ok
      refine abs_world (F := fun W => WAt w (w3.heap.size + 1) w3.heap.size (wo.heap.size + 2) (wo.heap.size + 1) wo.heap.size w.heap.size (w3.heap.size + 2) (w3.heap.size + 3) (w.heap.size + 1) (.slice lA q.length lC) (.slice av' l'.length cv') most q 0 W ∧ W.heap[w3.heap.size + 1]? = some (.cells #[.map (some w3.heap.size)] 69 (0, 0)) ∧ Syn W (fun x => x ≠ w3.heap.size + 3) w3.heap.size q) ?_ ?_
      · have h1 := HLT.out
        have h2 := HI.out.cor.syn.lt
        have h3 := HI.out.cor.bel.size
        clear c5 c7
        have hs : ∀ g x t fr, g ≠ w3.heap.size + 3 → wo.heap[g]? = some (.cells x t fr) → g ≠ wo.heap.size + 2 ∧ g ≠ wo.heap.size + 1 ∧ g ≠ w3.heap.size + 3 := fun g x t fr hg hx => ⟨by have := hk_lt hx; omega, by have := hk_lt hx; omega, hg⟩
        have hcor : CInv (fun x => x ≠ wo.heap.size + 2 ∧ x ≠ wo.heap.size + 1 ∧ x ≠ w3.heap.size + 3) w (w3.heap.size + 1) w3.heap.size (.slice lA q.length lC) q wo := ⟨HI.out.cor.bel, HI.out.cor.han, HI.out.cor.syn.go rfl (Kc.refl _ _) hs, HI.out.cor.ok, HI.out.cor.doc.go (Kc.refl _ _) hs, HI.out.cor.hm⟩
        exact ⟨⟨new_blk2 _ _ _ _, (by show _ = some (Obj.cells #[.int .i64 0] 3 (0, 0)); ((repeat (first | with_reducible exact new_blk _ _ | with_reducible exact new_blk1 _ _ _ | with_reducible exact new_blk2 _ _ _ _ | with_reducible refine hk_drew ?_ | with_reducible refine hk_alloc ?_ _ | with_reducible refine hk_set ?_ (by dsimp only; omega) _)); done)), by ((repeat (first | with_reducible exact new_blk _ _ | with_reducible exact new_blk1 _ _ _ | with_reducible exact new_blk2 _ _ _ _ | with_reducible refine hk_drew ?_ | with_reducible refine hk_alloc ?_ _ | with_reducible refine hk_set ?_ (by dsimp only; omega) _)); done), by ((repeat (first | with_reducible exact HI.out.more | with_reducible exact new_blk _ _ | with_reducible exact new_blk1 _ _ _ | with_reducible exact new_blk2 _ _ _ _ | with_reducible refine hk_drew ?_ | with_reducible refine hk_alloc ?_ _ | with_reducible refine hk_set ?_ (by dsimp only; omega) _)); done), by ((repeat (first | with_reducible exact HI.out.han | with_reducible exact new_blk _ _ | with_reducible exact new_blk1 _ _ _ | with_reducible exact new_blk2 _ _ _ _ | with_reducible refine hk_drew ?_ | with_reducible refine hk_alloc ?_ _ | with_reducible refine hk_set ?_ (by dsimp only; omega) _)); done), by ((repeat (first | with_reducible exact HI.out.top | with_reducible exact new_blk _ _ | with_reducible exact new_blk1 _ _ _ | with_reducible exact new_blk2 _ _ _ _ | with_reducible refine hk_drew ?_ | with_reducible refine hk_alloc ?_ _ | with_reducible refine hk_set ?_ (by dsimp only; omega) _)); done), hcor.doc.below (by ((repeat (first | with_reducible exact Below.refl _ _ | with_reducible refine bl_drew ?_ | with_reducible refine bl_alloc ?_ _ | with_reducible refine bl_set ?_ (by dsimp only; omega) _)); done)), ⟨⟨by omega, by omega, by omega, by omega, by omega, by omega, by omega, by omega⟩, ⟨by omega, by omega, by omega, by omega, by omega, by omega, by omega⟩, by omega, by omega, by omega, by omega, by omega, by omega⟩, ⟨by omega, by omega, by omega⟩, _, q, by ((repeat (first | with_reducible exact HI.out.row | with_reducible exact new_blk _ _ | with_reducible exact new_blk1 _ _ _ | with_reducible exact new_blk2 _ _ _ _ | with_reducible refine hk_drew ?_ | with_reducible refine hk_alloc ?_ _ | with_reducible refine hk_set ?_ (by dsimp only; omega) _)); done), hcor.below (by ((repeat (first | with_reducible exact Below.refl _ _ | with_reducible refine bl_drew ?_ | with_reducible refine bl_alloc ?_ _ | with_reducible refine bl_set ?_ (by dsimp only; omega) _)); done))⟩, by ((repeat (first | with_reducible exact HI.out.cor.han | with_reducible exact new_blk _ _ | with_reducible exact new_blk1 _ _ _ | with_reducible exact new_blk2 _ _ _ _ | with_reducible refine hk_drew ?_ | with_reducible refine hk_alloc ?_ _ | with_reducible refine hk_set ?_ (by dsimp only; omega) _)); done), HI.out.cor.syn.below (by ((repeat (first | with_reducible exact Below.refl _ _ | with_reducible refine bl_drew ?_ | with_reducible refine bl_alloc ?_ _ | with_reducible refine bl_set ?_ (by dsimp only; omega) _)); done))⟩
      clear c5 c7 HI
      rintro W3 ⟨hA, hcg, hcs⟩
      have HAT := Lib.hid hA
      have c5 := cell_blk hA.han
      have s5' := hk_lt hA.han
      have HWD := Lib.hid hwas
      have hsz := hk_lt hA.ok
      have hcall := fun (W4 : World) (hb : Below W3.heap.size W3 W4) (hgb : W4.heap[W3.heap.size]? = some (.cells #[.pointer (some ⟨w3.heap.size + 1, 0, none⟩)] 24 (0, 0))) =>
        all1_any 28 #[.pointer (some ⟨wo.heap.size + 2, 0, none⟩), .pointer (some ⟨wo.heap.size + 1, 0, none⟩), .pointer (some ⟨wo.heap.size, 0, none⟩), .pointer (some ⟨w.heap.size, 0, none⟩), .pointer (some ⟨w3.heap.size + 2, 0, none⟩), .pointer (some ⟨w3.heap.size + 3, 0, none⟩), .pointer (some ⟨w.heap.size + 1, 0, none⟩)] (enters_of Try.func28 (by kernel_rfl) rfl)
          (WAt w (w3.heap.size + 1) w3.heap.size (wo.heap.size + 2) (wo.heap.size + 1) wo.heap.size w.heap.size (w3.heap.size + 2) (w3.heap.size + 3) (w.heap.size + 1) (.slice lA q.length lC) (.slice av' l'.length cv') most q) (fun k => decide ((k : Int) + 1 < most)) W3.heap.size (w3.heap.size + 1) w3.heap.size q _ W4 hgb (hk_below hcg hb) (hcs.below hb) hwas (fun W hb2 => hA.below (bl_step hb hb2))
          (while_yields w _ _ _ _ _ _ _ _ _ _ _ most q W4.heap.size l' S' hwas HA'.out HM'.out h0 h255 (by have := hb.size; have := HLT.out; omega))
      have HCALL := Lib.hid (hcall (W3.alloc (.cells #[.pointer (some ⟨w3.heap.size + 1, 0, none⟩)] 24)) (by ((repeat (first | with_reducible exact Below.refl _ _ | with_reducible refine bl_drew ?_ | with_reducible refine bl_alloc ?_ _ | with_reducible refine bl_set ?_ (by dsimp only; omega) _)); done)) (by ((repeat (first | with_reducible exact new_blk _ _ | with_reducible exact new_blk1 _ _ _ | with_reducible exact new_blk2 _ _ _ _ | with_reducible refine hk_drew ?_ | with_reducible refine hk_alloc ?_ _ | with_reducible refine hk_set ?_ (by dsimp only; omega) _)); done)))
      clear hA hcall hcg hcs hwas
      go_wp2_with (first
        | (go_at_call 23; refine (call_all _ _).mono ?_; rintro e' w' ⟨rfl, rfl⟩)
        | (go_at_call 36; refine HCALL.out.mono ?_; rintro e' w5 ⟨rfl, k, hk1, hk2, hk3, hk4⟩; have HE := Lib.hid hk2; have r1 := cell_blk HE.out.ok; have r2 := cell_blk HE.out.num; have r3 := cell_blk HE.out.row; have r4 := cell_blk HE.out.top; have r5 := cell_blk HE.out.han; obtain ⟨lw5, q5, hl5, hc5⟩ := hk2.cor; obtain ⟨mA, mC, hl6⟩ := doc_shape hc5.doc; subst hl6; have r6 := cell_blk hl5; have HC5 := Lib.hid hc5; have e1 : ((k : Int) == min (q.length : Int) (max most 1)) = true := beq_iff_eq.2 (told_many hk1 hk3 hk4); clear hk1 hk2 hk3 hk4 hl5 hc5)
        | (go_at_call 25; refine (is24_any _ _ _ _ _ _ _ HC5.out.han HC5.out.syn HC5.out.ok HC5.out.doc).mono ?_; rintro e' w6 ⟨rfl, hb6⟩; have HB6 := Lib.hid (bl_step HC5.out.bel hb6); clear hb6))
      go_ret
      exact ⟨rfl, HB6.out⟩
theorem while_walk (l : List AT) (lv : Value) (S : Nat → Prop) (l' : List AT) (lv' : Value) (S' : Nat → Prop) (most : Int) (w : World) (h : Acts w S lv l) (h' : Acts w S' lv' l') (hm : (Lit.int .u8 most).wf = true) : Calls Try.prog 8 #[lv, lv', .int .u8 most] w fun r w' => r = .returned (.bool true) ∧ Below w.heap.size w w' := by
  simp only [Lit.wf, Bool.and_eq_true, decide_eq_true_eq] at hm
  cases hf : fewB l with
  | true =>
    cases hf' : fewB l' with
    | true => exact while_few l l' lv lv' most S S' w h h' hf hf' hm.1 hm.2
    | false => exact while_not l l' lv lv' most S S' w h h' true hf (fun _ => hf')
  | false => exact while_not l l' lv lv' most S S' w h h' false hf (fun h => by cases h)
end Go.Proofs.Ytbajghjdnjodmaa
