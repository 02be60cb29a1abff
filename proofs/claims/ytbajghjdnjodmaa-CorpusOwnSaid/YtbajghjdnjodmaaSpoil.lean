/- The law's spoil: it writes into an entry's own rows, and nowhere else. -/
import Derived.Test.YtbajghjdnjodmaaEnt
namespace Go.Proofs.Ytbajghjdnjodmaa
set_option linter.unusedVariables false
set_option linter.unusedSimpArgs false
open Go.RowKit

/-- Rows stay rows, of the same size. -/
def Shp (w W : World) : Prop := ∀ (b : Nat) (x : Array Value) (t : TypeId) (fr : Nat × Nat), w.heap[b]? = some (.cells x t fr) → ∃ x' : Array Value, W.heap[b]? = some (.cells x' t fr) ∧ x'.size = x.size
theorem Shp.refl (w : World) : Shp w w := fun _ x _ _ h => ⟨x, h, rfl⟩
theorem shp_alloc {w W : World} (h : Shp w W) (o : Obj) : Shp w (W.alloc o) := fun b x t fr hb => by
  obtain ⟨x', h1, h2⟩ := h b x t fr hb; exact ⟨x', hk_alloc h1 o, h2⟩
theorem shp_drew {w W : World} (h : Shp w W) : Shp w W.drew := h
theorem shp_set {w W : World} (h : Shp w W) (g i : Nat) (v : Value) : Shp w (W.setCell ⟨g, i, none⟩ v) := fun b x t fr hb => by
  obtain ⟨x', h1, h2⟩ := h b x t fr hb
  by_cases e : b = g
  · subst e
    refine ⟨x'.setIfInBounds i v, ?_, by simpa using h2⟩
    simp only [World.setCell, Array.getElem?_modify, if_pos, h1, Option.map_some]; simp
  · exact ⟨x', hk_set h1 e v, h2⟩
/-- A cell of a row that is still one: it is there, and may be written. -/
theorem sp_cell {w W : World} {S : Nat → Prop} {size n c g o : Nat} {cs : List Value} (hs : Sl w S size (.slice (some ⟨g, o, none⟩) n c) n cs) (h : Shp w W) {j : Nat} (hj : j < cs.length) :
    (∃ u, W.cell? ⟨g, o + j, none⟩ = some u) ∧ W.frozen? ⟨g, o + j, none⟩ = false := by
  have hf := hs.free hj
  obtain ⟨h1, a', c', e, h3, h4, h5⟩ := hs
  cases e
  have hn : 0 < n := by rcases Nat.eq_zero_or_pos n with h | h; (rw [h] at h1; simp at h1; rw [h1] at hj; simp at hj); exact h
  obtain ⟨g', o', e1, e2, x, t, fr, e3, e4⟩ := h5 hn
  cases e1
  obtain ⟨x', k1, k2⟩ := h _ _ _ _ e3
  have hlt := (Array.getElem?_eq_some_iff.1 (e4.1 j _ (List.getElem?_eq_getElem hj))).1
  refine ⟨⟨x'[o + j]'(by omega), by simp [World.cell?, k1, Array.getElem?_eq_getElem (show o + j < x'.size by omega)]⟩, ?_⟩
  simp only [World.frozen?, e3] at hf
  simp only [World.frozen?, k1]
  exact hf
theorem sp_at {w : World} {S : Nat → Prop} {size n c g o : Nat} {cs : List Value} (hs : Sl w S size (.slice (some ⟨g, o, none⟩) n c) n cs) (hn : 0 < n) : S g ∧ g < w.heap.size ∧ ∀ j u, cs[j]? = some u → w.cell? ⟨g, o + j, none⟩ = some u := by
  obtain ⟨g', o', c', e, _, h1, h2, h3⟩ := hs.at hn
  cases e; exact ⟨h1, h2, h3⟩
/-- Nothing has turned but blocks of S. -/
structure Out (S : Nat → Prop) (w W : World) : Prop where
  os : W.os = w.os
  tape : W.tape = w.tape
  output : W.output = w.output
  size : w.heap.size ≤ W.heap.size
  block : ∀ j, j < w.heap.size → ¬ S j → W.heap[j]? = w.heap[j]?
structure SpAt (S : Nat → Prop) (w : World) (box : Array Value) (gk ok : Nat) (ks : List ByteArray) (i3 : Nat) (W : World) : Prop where
  out : Out S w W
  shp : Shp w W
  box : W.heap[w.heap.size]? = some (.cells box 33 (0, 0))
  key : ∀ j (hj : j < ks.length), i3 ≤ j → W.cell? ⟨gk, ok + j, none⟩ = some (.string ks[j])
theorem SpAt.drew {S : Nat → Prop} {w W : World} {box : Array Value} {gk ok i3 : Nat} {ks : List ByteArray} (h : SpAt S w box gk ok ks i3 W) : SpAt S w box gk ok ks i3 W.drew := ⟨⟨h.out.os, h.out.tape, h.out.output, h.out.size, h.out.block⟩, h.shp, h.box, h.key⟩
theorem SpAt.set {S : Nat → Prop} {w W : World} {box : Array Value} {gk ok i3 i4 : Nat} {ks : List ByteArray} (h : SpAt S w box gk ok ks i3 W) (g i : Nat) (v : Value) (hS : S g) (hg : g < w.heap.size) (hi : i3 ≤ i4) (hk : ∀ j, j < ks.length → i4 ≤ j → ¬ (g = gk ∧ i = ok + j)) : SpAt S w box gk ok ks i4 (W.setCell ⟨g, i, none⟩ v) := by
  refine ⟨⟨h.out.os, h.out.tape, h.out.output, by simpa using h.out.size, fun j hj hn => (Below.heap_setCell W _ v j (fun e => hn (e ▸ hS))).trans (h.out.block j hj hn)⟩, shp_set h.shp g i v, hk_set h.box (by dsimp only; omega) v, fun j hj hij => ?_⟩
  have := h.key j hj (by omega)
  have hne := hk j hj hij
  by_cases e : gk = g
  · subst e
    have hi2 : i ≠ ok + j := fun e => hne ⟨rfl, e⟩
    unfold World.cell? at this ⊢
    simp only [World.setCell, Array.getElem?_modify, if_pos]
    cases hb : W.heap[gk]? with
    | none => rw [hb] at this; cases this
    | some o =>
      rw [hb] at this
      cases o with
      | cells c t fr =>
        simp only [Option.map_some] at this ⊢
        simp only [Option.isSome_none, Bool.false_eq_true, if_false] at this ⊢
        rw [Array.getElem?_setIfInBounds, if_neg hi2]; exact this
      | _ => simp at this
  · rw [World.cell?_of_block (Below.heap_setCell W _ v gk e)]; exact this
set_option maxRecDepth 20000 in
set_option maxHeartbeats 1000000 in
theorem spoil_any (e : ET) (hok : e.ok) (S : Nat → Prop) (vi vk vd : Value) (w : World) (hc : e.Cells w S vi vk vd) :
    Calls Try.prog 19 #[e.ent vi vk vd] w fun r w' => r = .returned (.tuple #[]) ∧ Out S w w' := by
  obtain ⟨a1, b1, a2, b2, a3, b3, rfl, rfl, rfl⟩ := cells_shape hc
  obtain ⟨⟨cs, hi, hr⟩, hk⟩ := rep_iff.1 hc.1
  have hd := hc.2
  have d40 := hok.2
  have i39 := hok.1.its
  have k39 := hok.1.ks
  obtain ⟨gk, ok, hgk⟩ : ∃ gk ok, 0 < e.v.ks.length → a2 = some ⟨gk, ok, none⟩ := by
    by_cases h0 : 0 < e.v.ks.length
    · obtain ⟨g, o, c, hv, _⟩ := hk.at h0
      cases hv; exact ⟨g, o, fun _ => rfl⟩
    · exact ⟨0, 0, fun h => absurd h h0⟩
  have hkey : ∀ j (hj : j < e.v.ks.length), w.cell? ⟨gk, ok + j, none⟩ = some (.string e.v.ks[j]) := fun j hj => by
    have ha := hgk (by omega)
    subst ha
    exact (sp_at hk (by omega)).2.2 j _ (by rw [List.getElem?_map, List.getElem?_eq_getElem hj]; rfl)
  have HI := Lib.hid hi
  have HR := Lib.hid hr
  have HK := Lib.hid hk
  have HD := Lib.hid hd
  have HGK := Lib.hid hgk
  have HKEY := Lib.hid hkey
  have HKZ := Lib.hid ((VT.keyed_iff.1 hok.1.2).1.2)
  have H0 : Hid (SpAt S w #[.int .i64 e.v.k, .bool e.v.b, .int .i64 e.v.n, .string e.v.s, .slice a1 e.v.its.length b1, .slice a2 e.v.ks.length b2, .bool e.has, .string e.st, .slice a3 e.dr.length b3] gk ok e.v.ks 0 (w.alloc (.cells #[.int .i64 e.v.k, .bool e.v.b, .int .i64 e.v.n, .string e.v.s, .slice a1 e.v.its.length b1, .slice a2 e.v.ks.length b2, .bool e.has, .string e.st, .slice a3 e.dr.length b3] 33))) := Lib.hid
    ⟨⟨rfl, rfl, rfl, by simp, fun j hj _ => Below.heap_alloc w _ j hj⟩, shp_alloc (Shp.refl w) _, new_blk _ _, fun j hj _ => by
      have := hkey j hj
      have hb := World.block_lt_of_cell? _ _ this
      rw [World.cell?_of_block (Below.heap_alloc w _ gk hb)]; exact this⟩
  clear hc hi hr hk hd hgk hkey hok
  go_enter Try.func19, Try.ntmps19
  go_wp2_with fail
  go_loopw [8] (fun v W => ∃ k : Nat, k ≤ e.dr.length ∧ v = .int .i64 k ∧ Hid (SpAt S w #[.int .i64 e.v.k, .bool e.v.b, .int .i64 e.v.n, .string e.v.s, .slice a1 e.v.its.length b1, .slice a2 e.v.ks.length b2, .bool e.has, .string e.st, .slice a3 e.dr.length b3] gk ok e.v.ks 0 W)) (fun v _ => e.dr.length - (intOf v).toNat)
  case atStart => exact ⟨0, Nat.zero_le _, rfl, H0⟩
  case round =>
    clear H0
    obtain ⟨k, hk, rfl, H⟩ := hrel
    by_cases hlt : k < e.dr.length
    · obtain ⟨gd, od, cd, hvd, _⟩ := HD.out.at (by omega)
      cases hvd
      obtain ⟨q1, q2, q3⟩ := sp_at HD.out (by omega)
      have q4 := q3 k (.int .i64 e.dr[k]) (by rw [List.getElem?_map, List.getElem?_eq_getElem hlt]; rfl)
      obtain ⟨⟨u, hu⟩, hf⟩ := sp_cell HD.out H.out.shp (j := k) (by rw [List.length_map]; exact hlt)
      have c0 := cell_blk H.out.box
      have HX := Lib.hid (H.out.set gd (od + k) (.int .i64 (-1)) q1 q2 (Nat.le_refl _) (fun j hj _ hh => by have := HKEY.out j hj; rw [← hh.1, ← hh.2, q4] at this; cases this))
      clear q1 q2 q3 q4
      go_wp2
      go_roundw
      case rel => exact ⟨k + 1, by omega, by go_num, HX⟩
      case measure => simp [intOf]; omega
    · obtain rfl : k = e.dr.length := by omega
      have c0 := cell_blk H.out.box
      obtain ⟨wo, rfl⟩ : ∃ x, x = wr := ⟨_, rfl⟩
      go_wp2_with fail
      clear c0
      go_loopw [20] (fun v W => ∃ k : Nat, k ≤ e.v.its.length ∧ v = .int .i64 k ∧ Hid (SpAt S w #[.int .i64 e.v.k, .bool e.v.b, .int .i64 e.v.n, .string e.v.s, .slice a1 e.v.its.length b1, .slice a2 e.v.ks.length b2, .bool e.has, .string e.st, .slice a3 e.dr.length b3] gk ok e.v.ks 0 W)) (fun v _ => e.v.its.length - (intOf v).toNat)
      case atStart => exact ⟨0, Nat.zero_le _, rfl, H⟩
      case round =>
        clear H
        obtain ⟨k, hk, rfl, H⟩ := hrel
        by_cases hlt : k < e.v.its.length
        · obtain ⟨gd, od, cd, hvd, _⟩ := HI.out.at (by omega)
          cases hvd
          obtain ⟨q1, q2, q3⟩ := sp_at HI.out (by omega)
          obtain ⟨vi, vk, _, q4⟩ := six_cells HR.out q3 hlt
          have q5 := q4.1
          have hl6 := HI.out.len
          obtain ⟨⟨u, hu⟩, hf⟩ := sp_cell HI.out H.out.shp (j := k * 6) (by omega)
          have c0 := cell_blk H.out.box
          have HX := Lib.hid (H.out.set gd (od + k * 6) (.int .i64 9) q1 q2 (Nat.le_refl _) (fun j hj _ hh => by have := HKEY.out j hj; rw [← hh.1, ← hh.2, q5] at this; cases this))
          clear q1 q2 q3 q4 q5 hl6
          go_wp2
          go_roundw
          case rel => exact ⟨k + 1, by omega, by go_num, HX⟩
          case measure => simp [intOf]; omega
        · obtain rfl : k = e.v.its.length := by omega
          have c0 := cell_blk H.out.box
          obtain ⟨wo, rfl⟩ : ∃ x, x = wr := ⟨_, rfl⟩
          go_wp2_with fail
          clear c0
          go_loopw [34] (fun v W => ∃ k : Nat, k ≤ e.v.ks.length ∧ v = .int .i64 k ∧ Hid (SpAt S w #[.int .i64 e.v.k, .bool e.v.b, .int .i64 e.v.n, .string e.v.s, .slice a1 e.v.its.length b1, .slice a2 e.v.ks.length b2, .bool e.has, .string e.st, .slice a3 e.dr.length b3] gk ok e.v.ks k W)) (fun v _ => e.v.ks.length - (intOf v).toNat)
          case atStart => exact ⟨0, Nat.zero_le _, rfl, H⟩
          case round =>
            clear H
            obtain ⟨k, hk, rfl, H⟩ := hrel
            by_cases hlt : k < e.v.ks.length
            · have ha := HGK.out (by omega)
              subst ha
              obtain ⟨q1, q2, _⟩ := sp_at HK.out (by omega)
              have hu := H.out.key k hlt (Nat.le_refl _)
              obtain ⟨_, hf⟩ := sp_cell HK.out H.out.shp (j := k) (by rw [List.length_map]; exact hlt)
              have c0 := cell_blk H.out.box
              have HX := Lib.hid (fun v => H.out.set gk (ok + k) v q1 q2 (Nat.le_succ k) (fun j hj hk2 hh => by omega))
              have hsz := HKZ.out _ (List.getElem_mem hlt)
              obtain ⟨_, _, ck, hck, hcz, _⟩ := HK.out.at (by omega)
              cases hck
              clear q1 q2
              have hw : e.v.ks[k].size + 1 ≤ 9223372036854775807 := by omega
              go_wp2
              go_roundw
              case rel => exact ⟨k + 1, by omega, by go_num, Lib.hid (HX.out _)⟩
              case measure => simp [intOf]; omega
            · obtain rfl : k = e.v.ks.length := by omega
              go_wp2
              go_end0
              exact ⟨rfl, H.out.out⟩
end Go.Proofs.Ytbajghjdnjodmaa
