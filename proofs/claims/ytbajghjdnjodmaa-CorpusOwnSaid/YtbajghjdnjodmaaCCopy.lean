/- The corpus's Copy: all entries are copied, in whatever order. -/
import Derived.Test.YtbajghjdnjodmaaCWalk2
import Derived.Sort.KeysCollected
namespace Go.Proofs.Ytbajghjdnjodmaa
set_option linter.unusedVariables false
set_option linter.unusedSimpArgs false
open Go.RowKit

/-- The keys of a map that has just a row's names. -/
theorem names_perm {w : World} {m n : Nat} {D : DataW Value} {l : List ET} (h : w.ownsMap Try.prog 9 entR m n D) (hl : DocOk l) (hh : ∀ nm : ByteArray, Maps.has D (kl nm) = (findF nm l 0).isSome) :
    (l.map fun e => e.nm.data.toList).Perm (strKeys D) ∧ Maps.size D = l.length := by
  obtain ⟨es, rfl, hap, _⟩ := h.entries law_s
  obtain ⟨es', he, hk⟩ := h.keysOf
  cases he
  have hp : (l.map fun e => e.nm.data.toList).Perm (strKeys (.map es)) := by
    refine perm_strKeys hap (fun p hp => ?_) ?_ fun x => ?_
    · obtain ⟨key, hkey⟩ := hk p hp
      obtain ⟨nm, _, hn, _⟩ := key_s_inv hkey
      exact ⟨_, hn⟩
    · refine List.pairwise_map.2 ((rising_ne hl.rise).imp fun {a b} hne e => hne (kl_inj (by show Lit.string _ = Lit.string _; rw [e])))
    · have := hh ⟨x.toArray⟩
      rw [Bool.eq_iff_iff, findF_mem] at this
      have ek : kl ⟨x.toArray⟩ = .string x := by simp [kl]
      rw [ek] at this
      rw [this]
      simp only [List.mem_map]
      constructor
      · rintro ⟨e, he, rfl⟩; exact ⟨e, he, by cases e; rename_i nm _ _ _ _; cases nm; simp⟩
      · rintro ⟨e, he, hn⟩; exact ⟨e, he, by rw [hn]⟩
  refine ⟨hp, ?_⟩
  have := hp.length_eq
  simpa [strKeys, Maps.size] using this.symm
/-- What a copy holds on its way: those entries that are no longer to come. -/
structure Cop (w : World) (m m' r : Nat) (l : List ET) (S : Nat → Prop) (D0 : DataW Value) (wr : World) (left : Lit → Bool) (cnt : Nat) : Prop where
  rng : wr.ranges Try.prog 9 entR m r 64 D0 left cnt
  out : ∃ D, wr.ownsMap Try.prog 9 entR m' 64 D ∧ Maps.size D + cnt ≤ l.length ∧ (∀ nm : ByteArray, Maps.has D (kl nm) = (Maps.has D0 (kl nm) && !left (kl nm))) ∧
    ∀ e ∈ l, left (kl e.nm) = false → ∃ vi vk vd, (∀ zd, D.atKey (kl e.nm) zd = .held (e.ent vi vk vd)) ∧ e.Cells wr (w.heap.size ≤ ·) vi vk vd
  han : wr.heap[w.heap.size + 1]? = some (.cells #[.map (some m')] 69 (0, 0))
  bel : Below w.heap.size w wr
  hr : w.heap.size + 1 < r
  hm' : w.heap.size ≤ m'
theorem ev_of {c : EV} {w : World} {S : Nat → Prop} {e : ET} {vi vk vd : Value} (h : c.val = e.ent vi vk vd) (hc : e.Cells w S vi vk vd) :
    ∃ a1 b1 a2 b2 a3 b3, c = EV.mk e.v.k e.v.b e.v.n e.v.s a1 e.v.its.length b1 a2 e.v.ks.length b2 e.has e.st a3 e.dr.length b3 ∧ vi = .slice a1 e.v.its.length b1 ∧ vk = .slice a2 e.v.ks.length b2 ∧ vd = .slice a3 e.dr.length b3 := by
  obtain ⟨a1, b1, a2, b2, a3, b3, rfl, rfl, rfl⟩ := cells_shape hc
  obtain ⟨k, b, n, s, x1, n1, y1, x2, n2, y2, has, st, x3, n3, y3⟩ := c
  simp only [EV.val, ET.ent, Value.agg.injEq, Array.mk.injEq, List.cons.injEq, Value.int.injEq, Value.bool.injEq, Value.string.injEq, Value.slice.injEq, true_and, and_true] at h
  obtain ⟨rfl, rfl, rfl, rfl, ⟨rfl, rfl, rfl⟩, ⟨rfl, rfl, rfl⟩, rfl, rfl, rfl, rfl, rfl⟩ := h
  exact ⟨_, _, _, _, _, _, rfl, rfl, rfl, rfl⟩
theorem law_inv : ∀ key l, keyOf Try.prog 9 key = some l → ∃ x, key = Value.string x := fun key l h => by
  obtain ⟨nm, rfl, _⟩ := key_s_inv h; exact ⟨nm, rfl⟩
theorem ent_inv : ∀ v y, entR v = some y → ∃ c : EV, v = c.val := fun v y h => by obtain ⟨e, rfl, _⟩ := entR_inv h; exact ⟨e, rfl⟩
/-- One entry more is copied. -/
theorem cop_step {w w1 w2 : World} {m r : Nat} {l : List ET} {S : Nat → Prop} {D0 : DataW Value} {left : Lit → Bool} {cnt cnt1 : Nat} {e : ET} {vi vk vd : Value}
    (hO : ∃ D, w1.ownsMap Try.prog 9 entR w.heap.size 64 D ∧ Maps.size D + cnt ≤ l.length ∧ (∀ nm : ByteArray, Maps.has D (kl nm) = (Maps.has D0 (kl nm) && !left (kl nm))) ∧ ∀ e ∈ l, left (kl e.nm) = false → ∃ vi vk vd, (∀ zd, D.atKey (kl e.nm) zd = .held (e.ent vi vk vd)) ∧ e.Cells w1 (w.heap.size ≤ ·) vi vk vd)
    (hR : w1.ranges Try.prog 9 entR m r 64 D0 (fun z => left z && !z.sameKey (kl e.nm)) cnt1) (hb : Below w.heap.size w w1) (hD : DocOk l) (he : e ∈ l) (hs : e.nm.size ≤ maxLen) (hx : left (kl e.nm) = true) (hlt : cnt1 < cnt) (hr : w.heap.size + 1 < r)
    (hH : w1.heap[w.heap.size + 1]? = some (.cells #[.map (some w.heap.size)] 69 (0, 0))) (hb2 : Below w1.heap.size w1 w2) (hc : e.Cells w2 (w.heap.size ≤ ·) vi vk vd) (hml : m ≠ w.heap.size) (hhas : Maps.has D0 (kl e.nm) = true) :
    ∃ w3, (Instr.mapUpdate 67 (.map (some w.heap.size)) (.string e.nm) (e.ent vi vk vd)).run Try.prog w2 = .ok () w3 ∧ Cop w m w.heap.size r l S D0 w3 (fun z => left z && !z.sameKey (kl e.nm)) cnt1 := by
  obtain ⟨D, k1, k2, k3, k4⟩ := hO
  have hgn : w1.grownBy w2 none := ⟨hb2.os, hb2.tape, hb2.output, hb2.size, fun k hk _ => hb2.block k hk⟩
  obtain ⟨ev, hev⟩ := ent_val hc
  have k1' := k1.kept hgn (by simp)
  obtain ⟨es0, c0, hm, _⟩ := k1'
  have k1' := k1.kept hgn (by simp)
  obtain ⟨w3, hr3, ho, hg'⟩ := k1'.update law_s Try.underlying67 (by unfold maxLen; omega) (key_s hs) (entR_mk ev)
  rw [← hev] at hr3 ho
  have hT := k1'.tidy law_s
  have hk : WideAt.IsKeyLit (kl e.nm) := trivial
  have hno : Maps.has D (kl e.nm) = false := by rw [k3, hx, hhas]; rfl
  have hsz : Maps.size (D.put (kl e.nm) (.held (e.ent vi vk vd))) = Maps.size D + 1 := by rw [Maps.size_put hT, hno]; simp
  have hll := hD.len
  have kc : ∀ S' : Nat → Prop, Kc S' w2 w3 := fun S' => kc_map hg' hm
  have hbw : Below w.heap.size w w3 := (hb.trans (hb2.mono hb.size)).grown hg' (Nat.le_trans hb.size hb2.size) (fun k hk => by cases hk; exact Nat.le_refl _)
  refine ⟨w3, hr3, ⟨(hR.kept hgn (by simp) (by simp)).kept hg' (fun e => hml (Option.some.inj e)) (fun e => by have := Option.some.inj e; omega), ⟨_, ownsMap_tight ho (by omega), by omega, fun nm => ?_, fun x hx' hl => ?_⟩, (hg'.block _ (hk_lt (hk_below hH hb2)) (by simp)).trans (hk_below hH hb2), hbw, hr, Nat.le_refl _⟩⟩
  · by_cases hn : nm = e.nm
    · subst hn
      rw [Maps.has_put_same hT.isMap hk, hhas, WideAt.sameKey_self hk]; simp
    · rw [Maps.has_put_other (kl_ne hn), k3, Maps.sameKey_ne (kl_ne hn)]; simp
  · by_cases hn : x.nm = e.nm
    · have : x = e := by
        have hp := rising_ne hD.rise
        cases Classical.em (x = e) with
        | inl h => exact h
        | inr h =>
          obtain ⟨i, hi⟩ := List.getElem?_of_mem hx'
          obtain ⟨j, hj⟩ := List.getElem?_of_mem he
          have hil := (List.getElem?_eq_some_iff.1 hi)
          have hjl := (List.getElem?_eq_some_iff.1 hj)
          obtain ⟨h1, h2⟩ := hil
          obtain ⟨h3, h4⟩ := hjl
          rcases Nat.lt_trichotomy i j with hij | hij | hij
          · have := List.pairwise_iff_getElem.1 hp i j h1 h3 hij; rw [h2, h4] at this; exact absurd hn this
          · subst hij; rw [h2] at h4; exact h4
          · have := List.pairwise_iff_getElem.1 hp j i h3 h1 hij; rw [h2, h4] at this; exact absurd hn.symm this
      subst this
      exact ⟨vi, vk, vd, fun zd => Maps.atKey_put_same hT.isMap hk _ _, hc.keep (kc _)⟩
    · rw [Maps.sameKey_ne (kl_ne hn)] at hl
      obtain ⟨xi, xk, xd, k5, k6⟩ := k4 x hx' (by simpa using hl)
      exact ⟨xi, xk, xd, fun zd => by rw [Maps.atKey_put_other (kl_ne hn)]; exact k5 zd, (k6.keep (kc_below hb2)).keep (kc _)⟩
set_option maxRecDepth 20000 in
set_option maxHeartbeats 1000000 in
theorem ccopy_any (g m : Nat) (l : List ET) (S : Nat → Prop) (w : World) (hg : w.heap[g]? = some (.cells #[.map (some m)] 69 (0, 0))) (h : Syn w S m l) (hd : DocOk l) :
    Calls Try.prog 27 #[.pointer (some ⟨g, 0, none⟩)] w fun r w' => ∃ g' m', r = .returned (.pointer (some ⟨g', 0, none⟩)) ∧ w'.heap[g']? = some (.cells #[.map (some m')] 69 (0, 0)) ∧ Syn w' (w.heap.size ≤ ·) m' l ∧ Below w.heap.size w w' ∧ w.heap.size ≤ g' ∧ w.heap.size ≤ m' := by
  have hs := h
  obtain ⟨D0, h1, h2, h3, h4⟩ := h
  have hml := h1.lt
  have hgl := hk_lt hg
  have HG := Lib.hid hg
  have H3 := Lib.hid h3
  have H4 := Lib.hid h4
  have HD := Lib.hid hd
  have HS := Lib.hid hs
  have hown := h1.kept (World.grownBy_alloc w (.map #[] 0) none) (by simp)
  have hown2 := hown.kept (World.grownBy_alloc _ (.cells #[.map (some w.heap.size)] 69) none) (by simp)
  have hgc := cell_blk (hk_alloc (hk_alloc hg (.map #[] 0)) (.cells #[.map (some w.heap.size)] 69))
  have H2 := Lib.hid h2
  clear hg h1 h3 h4 hd hs hown h2
  go_enter Try.func27, Try.ntmps27
  go_wp2_with (first
    | (go_at_call 10; refine (cnew_any _).mono ?_; rintro e w' ⟨rfl, rfl⟩)
    | (at_range; refine wpList_range_own _ rfl _ 67 rfl 9 33 law_s Try.underlying67 entR m 64 _ rfl hown2 ?_; intro w0 hrg0 hg0 hs0)
    | go_in)
  go_frame
  have e1 : ((w.alloc (.map #[] 0)).alloc (.cells #[.map (some w.heap.size)] 69)).heap.size = w.heap.size + 2 := by simp
  rw [e1] at hrg0 hs0 ⊢
  have HC0 : Hid (Cop w m w.heap.size (w.heap.size + 2) l S D0 w0 (Maps.has D0) (Maps.size D0)) := Lib.hid ⟨hrg0, ⟨.map [], (((World.ownsMap_made w Try.prog 9 entR).kept (World.grownBy_alloc _ _ none) (by simp)).kept hg0 (by simp)).mono (by omega), by rw [H2.out]; simp [Maps.size], fun nm => by cases Maps.has D0 (kl nm) <;> rfl, fun e he hl => by
      rw [H3.out] at hl
      rw [findF_mem.2 ⟨e, he, rfl⟩] at hl; cases hl⟩, (hg0.block _ (by simp) (by simp)).trans (by ((repeat (first | with_reducible exact new_blk _ _ | with_reducible exact new_blk1 _ _ _ | with_reducible exact new_blk2 _ _ _ _ | with_reducible refine hk_drew ?_ | with_reducible refine hk_alloc ?_ _ | with_reducible refine hk_set ?_ (by dsimp only; omega) _)); done)), (bl_alloc (bl_alloc (Below.refl _ w) _) _).grown hg0 (by simp <;> omega) (fun k hk => by cases hk), by omega, Nat.le_refl _⟩
  clear hrg0 hg0 hs0 hown2 hgc e1
  go_loopw [4] (fun _ wr => ∃ (left : Lit → Bool) (cnt : Nat), Hid (Cop w m w.heap.size (w.heap.size + 2) l S D0 wr left cnt)) (fun _ wr => wr.rangeLeft m (w.heap.size + 2))
  case atStart => exact ⟨_, _, HC0⟩
  case round =>
    clear HC0
    obtain ⟨left, cnt, H⟩ := hrel
    have hrg := H.out.rng
    go_wp2_with (first
      | (at_next; refine wpList_next_ranges _ rfl _ rfl 9 law_s entR Value.string EV.val law_inv ent_inv m (w.heap.size + 2) 64 _ _ _ rfl hrg ?_ ?_)
      | go_in)
    · intro hc0 hl0
      have hsy : Hid (Syn wr (w.heap.size ≤ ·) w.heap.size l) := Lib.hid (by
        obtain ⟨D, k1, k2, k3, k4⟩ := H.out.out
        have hh : ∀ nm : ByteArray, Maps.has D (kl nm) = (findF nm l 0).isSome := fun nm => by rw [k3, hl0, H3.out]; simp
        exact ⟨D, k1, (names_perm k1 HD.out hh).2, hh, fun e he => k4 e he (hl0 _)⟩)
      clear hrg
      go_wp2
      go_ret
      exact ⟨_, _, rfl, H.out.han, hsy.out, H.out.bel, by omega, Nat.le_refl _⟩
    · intro x c k y ps w1 cnt1 hkx hlx hR hat hrg1 hlt hg1 hs1 hen
      obtain ⟨nm, hnm, rfl, hnl⟩ := key_s_inv hkx
      cases hnm
      obtain ⟨c', hc', hy⟩ := entR_inv hR
      cases hy
      have hin : ∃ e ∈ l, e.nm = x := by
        refine findF_mem.1 ?_
        rw [← H3.out]
        exact Maps.has_true_of_atKey hat
      obtain ⟨e, he, rfl⟩ := hin
      obtain ⟨vi, vk, vd, h5, h6⟩ := H4.out e he
      have hcv : c.val = e.ent vi vk vd := by
        rw [hc']
        have q := hat (.held .nilFunc)
        rw [h5] at q
        exact (DataW.held.inj q).symm
      obtain ⟨a1, b1, a2, b2, a3, b3, rfl, rfl, rfl, rfl⟩ := ev_of hcv h6
      have hho := H.out.hr
      have hkc : ∀ S' : Nat → Prop, Kc S' wr w1 := fun S' => by
        obtain ⟨es, clock, since, seen, c0, _, _, _, _, hr, _⟩ := hrg
        exact fun g x t fr _ hx => (hg1.block g (hk_lt hx) (fun e => by cases e; rw [hr] at hx; cases hx)).trans hx
      have hh1 : w1.heap[w.heap.size + 1]? = some (.cells #[.map (some w.heap.size)] 69 (0, 0)) := (hg1.block _ (hk_lt H.out.han) (by simp)).trans H.out.han
      have hb1 : Below w.heap.size w w1 := H.out.bel.grown hg1 H.out.bel.size (fun k hk => by cases hk; omega)
      have HO1 : Hid (∃ D, w1.ownsMap Try.prog 9 entR w.heap.size 64 D ∧ Maps.size D + cnt ≤ l.length ∧ (∀ nm : ByteArray, Maps.has D (kl nm) = (Maps.has D0 (kl nm) && !left (kl nm))) ∧ ∀ e ∈ l, left (kl e.nm) = false → ∃ vi vk vd, (∀ zd, D.atKey (kl e.nm) zd = .held (e.ent vi vk vd)) ∧ e.Cells w1 (w.heap.size ≤ ·) vi vk vd) := Lib.hid (by
        obtain ⟨D, k1, k2, k3, k4⟩ := H.out.out
        refine ⟨D, k1.kept hg1 (by simp), k2, k3, fun e he hl => ?_⟩
        obtain ⟨vi, vk, vd, k5, k6⟩ := k4 e he hl
        exact ⟨vi, vk, vd, k5, k6.keep (hkc _)⟩)
      have HR1 := Lib.hid hrg1
      have HH1 := Lib.hid hh1
      have HB1 := Lib.hid hb1
      have HLT := Lib.hid hlt
      have HLX := Lib.hid hlx
      have HAT := Lib.hid hat
      have HE := Lib.hid he
      have HNL := Lib.hid hnl
      have HCP := Lib.hid (fun (W : World) (hb : Below w.heap.size w W) => copied_any e (HD.out.ok e he) S _ _ _ W (h6.keep (kc_below hb)))
      clear hrg hrg1 hh1 hb1 hlt hlx hat hkx hR h5 h6 hcv hkc hg1 hs1 hc' he hnl
      go_upto_region 5 with fail
      refine abs_world (F := fun W => W.heap[w1.heap.size]? = some (.cells #[.int .i64 e.v.k, .bool e.v.b, .int .i64 e.v.n, .string e.v.s, .slice a1 e.v.its.length b1, .slice a2 e.v.ks.length b2, .bool e.has, .string e.st, .slice a3 e.dr.length b3] 33 (0, 0)) ∧ Below w1.heap.size w1 W) ⟨by ((repeat (first | with_reducible exact new_blk _ _ | with_reducible exact new_blk1 _ _ _ | with_reducible exact new_blk2 _ _ _ _ | with_reducible refine hk_drew ?_ | with_reducible refine hk_alloc ?_ _ | with_reducible refine hk_set ?_ (by dsimp only; omega) _)); done), by ((repeat (first | with_reducible exact Below.refl _ _ | with_reducible refine bl_drew ?_ | with_reducible refine bl_alloc ?_ _ | with_reducible refine bl_set ?_ (by dsimp only; omega) _)); done)⟩ ?_
      clear hen
      rintro W ⟨g1, g2⟩
      have c1 := cell_blk g1
      have c2 := cell_blk (hk_below HH1.out g2)
      have G2 := Lib.hid g2
      have HW := Lib.hid (HB1.out.trans (g2.mono HB1.out.size))
      clear g1 g2
      go_region_with (go_at_call 29; go_loud (refine (HCP.out W.drew (bl_drew HW.out)).mono ?_; rintro e' w2 ⟨xi, xk, xd, rfl, hc1, hb1⟩; obtain ⟨u1, t1, u2, t2, u3, t3, rfl, rfl, rfl⟩ := cells_shape hc1; have hb2 := bl_step (bl_drew (Below.refl W.heap.size W)) hb1; obtain ⟨w3, hU, hst⟩ := cop_step (S := S) HO1.out HR1.out HB1.out HD.out HE.out HNL.out HLX.out HLT.out H.out.hr HH1.out (bl_step G2.out hb2) (hc1.mono fun x hx => Nat.le_trans HW.out.size hx) (Nat.ne_of_lt hml) (by rw [H3.out]; exact findF_mem.2 ⟨e, HE.out, rfl⟩); have HST := Lib.hid hst; have hC := cell_blk (hk_below (hk_below HH1.out G2.out) hb2); clear hc1 hb1 hb2 hst))
      all_goals
        clear hU hC c1 c2
        go_roundw
        case rel => exact ⟨_, _, _, _, _, _, _, _, _, _, _, _, _, _, ⟨_, _, HST⟩, rfl⟩
        case measure => rw [HST.out.rng.left_eq, H.out.rng.left_eq]; exact HLT.out
end Go.Proofs.Ytbajghjdnjodmaa
