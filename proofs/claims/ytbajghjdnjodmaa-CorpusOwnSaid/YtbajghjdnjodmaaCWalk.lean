/- The corpus's Put, Get, Drop and Len. -/
import Derived.Test.YtbajghjdnjodmaaCOps
import Derived.Test.YtbajghjdnjodmaaCorpusDrop
namespace Go.Proofs.Ytbajghjdnjodmaa
set_option linter.unusedVariables false
set_option linter.unusedSimpArgs false
open Go.RowKit

theorem Syn.mono {w : World} {S S' : Nat → Prop} {m : Nat} {l : List ET} (h : Syn w S m l) (k : ∀ g, S g → S' g) : Syn w S' m l := h.go rfl (Kc.refl _ _) fun g _ _ _ hg _ => k g hg
theorem Syn.kc {w : World} {S S' : Nat → Prop} {m : Nat} {l : List ET} (h : Syn w S m l) {w' : World} (b : But m w w') : Kc S' w w' := by
  obtain ⟨es, c, hm⟩ := h.isMap; exact but_kc b hm
section
variable (g m : Nat) (l : List ET) (e : ET) (S S' : Nat → Prop) (vi vk vd : Value) (w : World)
/-- What a Put says. -/
def PutSaid (r : Ending) (w' : World) : Prop := r = .returned (.int .i64 (putK l e)) ∧ Syn w' (fun x => S x ∨ w.heap.size ≤ x) m (putL l e) ∧ But m w w'
set_option maxRecDepth 20000 in
set_option maxHeartbeats 1000000 in
theorem cput_form (hg : w.heap[g]? = some (.cells #[.map (some m)] 69 (0, 0))) (h : Syn w S m l) (hc : e.Cells w S' vi vk vd) (hs : e.nm.size ≤ maxLen) (hn : isNameB e.nm = false) :
    Calls Try.prog 11 #[.pointer (some ⟨g, 0, none⟩), .string e.nm, e.ent vi vk vd] w (PutSaid m l e S w) := by
  obtain ⟨a1, b1, a2, b2, a3, b3, rfl, rfl, rfl⟩ := cells_shape hc
  have e1 : putK l e = 1 := by simp [putK, hn]
  have E2 : Hid (putL l e = l) := Lib.hid (by simp [putL, hn])
  have hgW := cell_blk (hk_alloc hg (.cells #[.int .i64 e.v.k, .bool e.v.b, .int .i64 e.v.n, .string e.v.s, .slice a1 e.v.its.length b1, .slice a2 e.v.ks.length b2, .bool e.has, .string e.st, .slice a3 e.dr.length b3] 33))
  obtain ⟨v, hL, _, _⟩ := syn_look (h.below (bl_alloc (Below.refl _ w) (.cells #[.int .i64 e.v.k, .bool e.v.b, .int .i64 e.v.n, .string e.v.s, .slice a1 e.v.its.length b1, .slice a2 e.v.ks.length b2, .bool e.has, .string e.st, .slice a3 e.dr.length b3] 33))) hs
  have HS := Lib.hid h
  have hs2 : e.nm.size ≤ 9223372036854775807 := by unfold maxLen at hs; omega
  clear hg h hc
  have HE := Lib.hid e1
  generalize hf : (findF e.nm l 0).isSome = fd at hL
  clear hf e1
  go_enter Try.func11, Try.ntmps11
  go_wp2_with (first | (go_at_call 12; refine (isname_any _ _ ‹_›).mono ?_; rintro e w' ⟨rfl, rfl⟩))
  go_ret
  refine ⟨ret_i64 HE.out.symm, ?_, ?_⟩
  · rw [E2.out]; exact (HS.out.below (by ((repeat (first | with_reducible exact Below.refl _ _ | with_reducible refine bl_drew ?_ | with_reducible refine bl_alloc ?_ _ | with_reducible refine bl_set ?_ (by dsimp only; omega) _)); done))).mono fun _ h => .inl h
  · exact but_below (by ((repeat (first | with_reducible exact Below.refl _ _ | with_reducible refine bl_drew ?_ | with_reducible refine bl_alloc ?_ _ | with_reducible refine bl_set ?_ (by dsimp only; omega) _)); done))
/-- Behind the lookup: a world of which the map's handle, the map, and the entry's box are known. -/
structure AtP (g m : Nat) (l : List ET) (S : Nat → Prop) (A : Array Value) (w W : World) : Prop where
  han : W.heap[g]? = some (.cells #[.map (some m)] 69 (0, 0))
  syn : Syn W S m l
  box : W.heap[w.heap.size]? = some (.cells A 33 (0, 0))
  bel : Below w.heap.size w W
set_option maxRecDepth 20000 in
set_option maxHeartbeats 1000000 in
theorem cput_full (hg : w.heap[g]? = some (.cells #[.map (some m)] 69 (0, 0))) (h : Syn w S m l) (hc : e.Cells w S' vi vk vd) (hs : e.nm.size ≤ maxLen) (hn : isNameB e.nm = true) (hf : findF e.nm l 0 = none) (hl : l.length = 64) :
    Calls Try.prog 11 #[.pointer (some ⟨g, 0, none⟩), .string e.nm, e.ent vi vk vd] w (PutSaid m l e S w) := by
  obtain ⟨a1, b1, a2, b2, a3, b3, rfl, rfl, rfl⟩ := cells_shape hc
  have e1 : putK l e = 22 := by simp [putK, hn, hf, hl]
  have E2 : Hid (putL l e = l) := Lib.hid (by simp [putL, hn, hf, hl])
  have hgW := cell_blk (hk_alloc hg (.cells #[.int .i64 e.v.k, .bool e.v.b, .int .i64 e.v.n, .string e.v.s, .slice a1 e.v.its.length b1, .slice a2 e.v.ks.length b2, .bool e.has, .string e.st, .slice a3 e.dr.length b3] 33))
  obtain ⟨v, hL, _, _⟩ := syn_look (h.below (bl_alloc (Below.refl _ w) (.cells #[.int .i64 e.v.k, .bool e.v.b, .int .i64 e.v.n, .string e.v.s, .slice a1 e.v.its.length b1, .slice a2 e.v.ks.length b2, .bool e.has, .string e.st, .slice a3 e.dr.length b3] 33))) hs
  rw [hf] at hL
  have HG := Lib.hid hg
  have HS := Lib.hid h
  have hs2 : e.nm.size ≤ 9223372036854775807 := by unfold maxLen at hs; omega
  have HE := Lib.hid e1
  have HN := Lib.hid hl
  clear hg h hc hf e1 hl
  go_enter Try.func11, Try.ntmps11
  go_upto_block 0 with (fail)
  clear hL hgW
  refine abs_world (F := AtP g m l S #[.int .i64 e.v.k, .bool e.v.b, .int .i64 e.v.n, .string e.v.s, .slice a1 e.v.its.length b1, .slice a2 e.v.ks.length b2, .bool e.has, .string e.st, .slice a3 e.dr.length b3] w) ⟨hk_alloc (hk_alloc HG.out _) _, (HS.out.below (bl_alloc (bl_alloc (Below.refl _ w) _) _)), hk_alloc (new_blk _ _) _, bl_alloc (bl_alloc (Below.refl _ _) _) _⟩ ?_
  intro W hW
  have c1 := cell_blk hW.han
  have c3 := cell_blk hW.box
  have hlen := fun ty => syn_len hW.syn ty
  rw [HN.out] at hlen
  have HA := Lib.hid hW
  clear hW
  go_wp2_with (first | (go_at_call 12; refine (isname_any _ _ ‹_›).mono ?_; rintro e w' ⟨rfl, rfl⟩))
  go_ret
  refine ⟨ret_i64 HE.out.symm, ?_, ?_⟩
  · rw [E2.out]; exact HA.out.syn.mono fun _ h => .inl h
  · exact but_below HA.out.bel
set_option maxRecDepth 20000 in
set_option maxHeartbeats 1000000 in
theorem cput_ok (hg : w.heap[g]? = some (.cells #[.map (some m)] 69 (0, 0))) (h : Syn w S m l) (hd : DocOk l) (hc : e.Cells w S' vi vk vd) (ho : e.ok) (hs : e.nm.size ≤ maxLen) (hgo : Goes l e) :
    Calls Try.prog 11 #[.pointer (some ⟨g, 0, none⟩), .string e.nm, e.ent vi vk vd] w (PutSaid m l e S w) := by
  obtain ⟨a1, b1, a2, b2, a3, b3, rfl, rfl, rfl⟩ := cells_shape hc
  have e1 : putK l e = 0 := by
    unfold putK; rw [if_pos hgo.1]
    rcases hgo.2 with h' | h'
    · obtain ⟨k, hk⟩ := Option.isSome_iff_exists.1 h'; rw [hk]
    · cases hf : findF e.nm l 0 with
      | none => simp only; rw [if_neg h']
      | some k => rfl
  have hn := hgo.1
  have hgW := cell_blk (hk_alloc hg (.cells #[.int .i64 e.v.k, .bool e.v.b, .int .i64 e.v.n, .string e.v.s, .slice a1 e.v.its.length b1, .slice a2 e.v.ks.length b2, .bool e.has, .string e.st, .slice a3 e.dr.length b3] 33))
  obtain ⟨v, hL, _, _⟩ := syn_look (h.below (bl_alloc (Below.refl _ w) (.cells #[.int .i64 e.v.k, .bool e.v.b, .int .i64 e.v.n, .string e.v.s, .slice a1 e.v.its.length b1, .slice a2 e.v.ks.length b2, .bool e.has, .string e.st, .slice a3 e.dr.length b3] 33))) hs
  have hfd : (findF e.nm l 0).isSome = false → (((l.length : Int) == 64) = false) := fun hf => by
    rcases hgo.2 with h' | h'
    · rw [hf] at h'; cases h'
    · simp; omega
  have HGO := Lib.hid hgo
  have HDK := Lib.hid hd
  have HFD := Lib.hid hfd
  have HG := Lib.hid hg
  have HS := Lib.hid h
  have hs2 : e.nm.size ≤ 9223372036854775807 := by unfold maxLen at hs; omega
  have HE := Lib.hid e1
  have HCP := Lib.hid (fun (W : World) (hb : Below w.heap.size w W) => copied_any e ho S' _ _ _ W (hc.keep (kc_below hb)))
  generalize hq : (findF e.nm l 0).isSome = fd at *
  clear hg h hc hd hgo e1 hq hfd
  go_enter Try.func11, Try.ntmps11
  go_upto_block 0 with (fail)
  clear hL hgW
  refine abs_world (F := AtP g m l S #[.int .i64 e.v.k, .bool e.v.b, .int .i64 e.v.n, .string e.v.s, .slice a1 e.v.its.length b1, .slice a2 e.v.ks.length b2, .bool e.has, .string e.st, .slice a3 e.dr.length b3] w) ⟨hk_alloc (hk_alloc HG.out _) _, (HS.out.below (bl_alloc (bl_alloc (Below.refl _ w) _) _)), hk_alloc (new_blk _ _) _, bl_alloc (bl_alloc (Below.refl _ _) _) _⟩ ?_
  intro W hW
  have c1 := cell_blk hW.han
  have c3 := cell_blk hW.box
  have hlen := fun ty => syn_len hW.syn ty
  have HA := Lib.hid hW
  clear hW
  have hfd := HFD.out
  cases fd
  all_goals
    (try (have hl2 := hfd rfl))
    clear hfd
    go_upto_region 6 with (first | (go_at_call 12; refine (isname_any _ _ ‹_›).mono ?_; rintro e w' ⟨rfl, rfl⟩))
    go_region_with (go_at_call 29; refine (HCP.out W.drew (bl_drew HA.out.bel)).mono ?_; rintro e' w1 ⟨xi, xk, xd, rfl, hc1, hb1⟩; obtain ⟨u1, t1, u2, t2, u3, t3, rfl, rfl, rfl⟩ := cells_shape hc1; have hb2 := bl_step (bl_drew (Below.refl W.heap.size W)) hb1; obtain ⟨w2, hU, hsy, hgr⟩ := syn_put (S := fun x => S x ∨ w.heap.size ≤ x) ((HA.out.syn.below hb2).mono fun _ h => .inl h) HDK.out hs HGO.out (hc1.mono fun x hx => .inr (Nat.le_trans HA.out.bel.size hx)); have HB := Lib.hid hb2; have HY := Lib.hid hsy; have HGR := Lib.hid hgr; have hC := cell_blk (hk_below HA.out.han hb2); clear hc1 hb1 hb2 hsy hgr)
    all_goals
      (refine ‹∀ (a : Act) (w : World), Code.wp _ _ _ a w → _› _ _ ?_)
      clear hU hC
      go_wp2
      go_ret
      exact ⟨ret_i64 HE.out.symm, HY.out, (but_below (bl_step HA.out.bel HB.out)).trans (but_grown HGR.out)⟩
/-- Put, whatever is put in. -/
theorem cput_any (hg : w.heap[g]? = some (.cells #[.map (some m)] 69 (0, 0))) (h : Syn w S m l) (hd : DocOk l) (hc : e.Cells w S' vi vk vd) (ho : e.ok) (hs : e.nm.size ≤ maxLen) :
    Calls Try.prog 11 #[.pointer (some ⟨g, 0, none⟩), .string e.nm, e.ent vi vk vd] w (PutSaid m l e S w) := by
  cases hn : isNameB e.nm with
  | false => exact cput_form g m l e S S' vi vk vd w hg h hc hs hn
  | true =>
    by_cases hgo : Goes l e
    · exact cput_ok g m l e S S' vi vk vd w hg h hd hc ho hs hgo
    · cases hf : findF e.nm l 0 with
      | some k => exact absurd ⟨hn, .inl (by rw [hf]; rfl)⟩ hgo
      | none =>
        refine cput_full g m l e S S' vi vk vd w hg h hc hs hn hf ?_
        cases Nat.decEq l.length 64 with
        | isTrue k => exact k
        | isFalse k => exact absurd ⟨hn, .inr k⟩ hgo
end
end Go.Proofs.Ytbajghjdnjodmaa
