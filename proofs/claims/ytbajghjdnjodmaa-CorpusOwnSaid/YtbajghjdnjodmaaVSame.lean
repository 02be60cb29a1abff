/- What is the same is told to be the same: of numbers, of values, of entries; the place of a name. -/
import Derived.Test.YtbajghjdnjodmaaVAt
namespace Go.Proofs.Ytbajghjdnjodmaa
set_option linter.unusedVariables false
set_option linter.unusedSimpArgs false
open Go.RowKit

/-- A cell of a slice of one-cell elements. -/
theorem Sl.cell1 {w : World} {S : Nat → Prop} {v : Value} {n : Nat} {cs : List Value} (h : Sl w S 1 v n cs) {j : Nat} (hj : j < n) : ∃ g o c, v = .slice (some ⟨g, o, none⟩) n c ∧ n ≤ c ∧ ∃ u, cs[j]? = some u ∧ w.cell? ⟨g, o + j, none⟩ = some u := by
  obtain ⟨g, o, c, hv, hc, _, _, hcells⟩ := h.at (by omega)
  have hl : j < cs.length := by rw [h.len]; omega
  exact ⟨g, o, c, hv, hc, _, List.getElem?_eq_getElem hl, hcells j _ (List.getElem?_eq_getElem hl)⟩
section
variable {S S' : Nat → Prop}
set_option maxHeartbeats 400000 in
theorem less12_same (l : List Int) (v v' : Value) (w : World) (h : Sl w S 1 v l.length (l.map (Value.int .i64))) (h' : Sl w S' 1 v' l.length (l.map (Value.int .i64))) (hl : l.length ≤ 9223372036854775806) :
    Calls Try.prog 51 #[v, v'] w fun e w' => e = .returned (.bool false) ∧ Below w.heap.size w w' := by
  obtain ⟨a, c, rfl, _, _⟩ := h.shape
  obtain ⟨a', c', rfl, _, _⟩ := h'.shape
  have H1 := Lib.hid h
  have H2 := Lib.hid h'
  have hne : ((l.length : Int) != (l.length : Int)) = false := by simp
  clear h h'
  go_enter Try.func51, Try.ntmps51
  go_wp2
  go_loopw [18] (fun q W => ∃ i : Nat, i ≤ l.length ∧ q = .int .i64 i ∧ Hid (Below w.heap.size w W)) (fun q _ => l.length - (intOf q).toNat)
  case atStart => exact ⟨0, by omega, rfl, Lib.hid (Below.refl _ _)⟩
  case round =>
    obtain ⟨i, hi, rfl, H⟩ := hrel
    by_cases hlt : i < l.length
    · obtain ⟨g, o, c2, hv, _, u, hu, hcu⟩ := (H1.out.keep (kc_below H.out)).cell1 hlt
      obtain ⟨g', o', c3, hv', _, u', hu', hcu'⟩ := (H2.out.keep (kc_below H.out)).cell1 hlt
      cases hv; cases hv'
      rw [hu'] at hu; cases hu
      rw [List.getElem?_map, List.getElem?_eq_getElem hlt] at hu'
      cases hu'
      generalize l[i] = x at *
      have hxx : (x != x) = false := by simp
      go_upto_region 6 with fail
      go_quiet (fail)
      go_wp2
      go_roundw
      case rel => exact ⟨i + 1, by omega, by go_num, Lib.hid (bl_drewN H.out _)⟩
      case measure => simp [intOf]; omega
    · obtain rfl : i = l.length := by omega
      go_wp2
      go_ret
      exact ⟨rfl, H.out⟩
set_option maxHeartbeats 400000 in
theorem same12_same (l : List Int) (v v' : Value) (w : World) (h : Sl w S 1 v l.length (l.map (Value.int .i64))) (h' : Sl w S' 1 v' l.length (l.map (Value.int .i64))) (hl : l.length ≤ 9223372036854775806) :
    Calls Try.prog 34 #[v, v'] w fun e w' => e = .returned (.bool true) ∧ Below w.heap.size w w' := by
  have H1 := Lib.hid h
  have H2 := Lib.hid h'
  have HC := Lib.hid (less12_same l v v' w h h' hl)
  have HD := Lib.hid (fun W (k : Below w.heap.size w W) => less12_same l v' v W (h'.keep (kc_below k)) (h.keep (kc_below k)) hl)
  clear h h'
  go_enter Try.func34, Try.ntmps34
  go_wp2_with fail
  refine HC.out.mono ?_
  rintro e w1 ⟨rfl, hb1⟩
  have HB := Lib.hid hb1
  clear hb1
  go_wp2_with fail
  refine (HD.out _ HB.out).mono ?_
  rintro e w2 ⟨rfl, hb2⟩
  have HB2 := Lib.hid hb2
  clear hb2
  go_wp2_with fail
  go_ret
  exact ⟨rfl, bl_step HB.out HB2.out⟩
end

/-- Two parameters' boxes. -/
structure TwoAt (w : World) (t : TypeId) (A B : Array Value) (W : World) : Prop where
  one : W.heap[w.heap.size]? = some (.cells A t (0, 0))
  two : W.heap[w.heap.size + 1]? = some (.cells B t (0, 0))
  bel : Below w.heap.size w W
theorem TwoAt.drewN {w W : World} {t : TypeId} {A B : Array Value} (h : TwoAt w t A B W) (n : Nat) : TwoAt w t A B (W.drewN n) := ⟨h.one, h.two, bl_drewN h.bel n⟩
theorem TwoAt.below {w W W1 : World} {t : TypeId} {A B : Array Value} (h : TwoAt w t A B W) (k : Below W.heap.size W W1) : TwoAt w t A B W1 := ⟨hk_below h.one k, hk_below h.two k, bl_step h.bel k⟩
set_option maxRecDepth 20000 in
set_option maxHeartbeats 1000000 in
theorem vsame_any : ∀ (k : Nat) (T : VT), T.size ≤ k → T.ok → ∀ (S S' : Nat → Prop) (vi vk wi wk : Value) (w : World), T.Rep w S vi vk → T.Rep w S' wi wk →
    Calls Try.prog 33 #[T.agg vi vk, T.agg wi wk] w fun e w' => e = .returned (.bool true) ∧ Below w.heap.size w w'
  | 0, T, hk, _, _, _, _, _, _, _, _, _, _ => absurd T.size_pos (by omega)
  | k + 1, T, hk, hok, S, S', vi, vk, wi, wk, w, hT, hT' => by
    obtain ⟨⟨cs, hs, hr⟩, hks⟩ := rep_iff.1 hT
    obtain ⟨⟨cs', hs', hr'⟩, hks'⟩ := rep_iff.1 hT'
    obtain ⟨a, c, rfl, hc0, hc1⟩ := hs.shape
    obtain ⟨kA, kc, rfl, _, _⟩ := hks.shape
    obtain ⟨a', c', rfl, hc0', hc1'⟩ := hs'.shape
    obtain ⟨kA', kc', rfl, _, _⟩ := hks'.shape
    have HS := Lib.hid hs
    have HR := Lib.hid hr
    have HK := Lib.hid hks
    have HS' := Lib.hid hs'
    have HR' := Lib.hid hr'
    have HK' := Lib.hid hks'
    have HI := Lib.hid (fun (U : VT) (hU : U ∈ T.its) => vsame_any k U (by have := VT.size_mem hU; omega) (hok.item hU))
    have h39 := hok.its
    have k39 := hok.ks
    have e1 : (T.k != T.k) = false := by simp
    have e2 : (T.b != T.b) = false := by simp
    have e3 : (T.n != T.n) = false := by simp
    have e4 : (T.s.toList != T.s.toList) = false := by simp
    have e5 : ((T.its.length : Int) != (T.its.length : Int)) = false := by simp
    have e6 : ((T.ks.length : Int) != (T.ks.length : Int)) = false := by simp
    clear hs hr hT hk hok hks hs' hr' hks' hT'
    go_enter Try.func33, Try.ntmps33
    go_wp2
    have P1 : Hid (TwoAt w 46 #[.int .i64 T.k, .bool T.b, .int .i64 T.n, .string T.s, .slice a T.its.length c, .slice kA T.ks.length kc] #[.int .i64 T.k, .bool T.b, .int .i64 T.n, .string T.s, .slice a' T.its.length c', .slice kA' T.ks.length kc'] ((w.alloc (.cells #[.int .i64 T.k, .bool T.b, .int .i64 T.n, .string T.s, .slice a T.its.length c, .slice kA T.ks.length kc] 46)).alloc (.cells #[.int .i64 T.k, .bool T.b, .int .i64 T.n, .string T.s, .slice a' T.its.length c', .slice kA' T.ks.length kc'] 46))) := Lib.hid ⟨by ((repeat (first | with_reducible exact new_blk _ _ | with_reducible exact new_blk1 _ _ _ | with_reducible exact new_blk2 _ _ _ _ | with_reducible refine hk_drew ?_ | with_reducible refine hk_alloc ?_ _ | with_reducible refine hk_set ?_ (by dsimp only; omega) _)); done), by ((repeat (first | with_reducible exact new_blk _ _ | with_reducible exact new_blk1 _ _ _ | with_reducible exact new_blk2 _ _ _ _ | with_reducible refine hk_drew ?_ | with_reducible refine hk_alloc ?_ _ | with_reducible refine hk_set ?_ (by dsimp only; omega) _)); done), by ((repeat (first | with_reducible exact Below.refl _ _ | with_reducible refine bl_drew ?_ | with_reducible refine bl_alloc ?_ _ | with_reducible refine bl_set ?_ (by dsimp only; omega) _)); done)⟩
    go_loopw [54] (fun q W => ∃ i : Nat, i ≤ T.ks.length ∧ q = .int .i64 i ∧ Hid (TwoAt w 46 #[.int .i64 T.k, .bool T.b, .int .i64 T.n, .string T.s, .slice a T.its.length c, .slice kA T.ks.length kc] #[.int .i64 T.k, .bool T.b, .int .i64 T.n, .string T.s, .slice a' T.its.length c', .slice kA' T.ks.length kc'] W)) (fun q _ => T.ks.length - (intOf q).toNat)
    case atStart => exact ⟨0, by omega, rfl, P1⟩
    case round =>
      clear P1
      obtain ⟨i, hi, rfl, H⟩ := hrel
      have hx := cell_blk H.out.one
      have hy := cell_blk H.out.two
      by_cases hlt : i < T.ks.length
      · obtain ⟨g, o, c2, hv, _, u, hu, hcu⟩ := (HK.out.keep (kc_below H.out.bel)).cell1 hlt
        obtain ⟨g', o', c3, hv', _, u', hu', hcu'⟩ := (HK'.out.keep (kc_below H.out.bel)).cell1 hlt
        cases hv; cases hv'
        rw [hu'] at hu; cases hu
        rw [List.getElem?_map, List.getElem?_eq_getElem hlt] at hu'
        cases hu'
        generalize T.ks[i] = x at *
        have hxx : (x.toList != x.toList) = false := by simp
        go_upto_region 6 with fail
        go_quiet (fail)
        go_wp2
        go_roundw
        case rel => exact ⟨i + 1, by omega, by go_num, Lib.hid (H.out.drewN _)⟩
        case measure => simp [intOf]; omega
      · obtain rfl : i = T.ks.length := by omega
        go_wp2
        go_loopw [72] (fun q W => ∃ i : Nat, i ≤ T.its.length ∧ q = .int .i64 i ∧ Hid (TwoAt w 46 #[.int .i64 T.k, .bool T.b, .int .i64 T.n, .string T.s, .slice a T.its.length c, .slice kA T.ks.length kc] #[.int .i64 T.k, .bool T.b, .int .i64 T.n, .string T.s, .slice a' T.its.length c', .slice kA' T.ks.length kc'] W)) (fun q _ => T.its.length - (intOf q).toNat)
        case atStart => exact ⟨0, by omega, rfl, H⟩
        case round =>
          clear hx hy H
          obtain ⟨i, hi, rfl, H⟩ := hrel
          have hx := cell_blk H.out.one
          have hy := cell_blk H.out.two
          by_cases hlt : i < T.its.length
          · obtain ⟨g, o, c2, hv, _, _, _, hcells⟩ := (HS.out.keep (kc_below H.out.bel)).at (by omega)
            obtain ⟨g', o', c3, hv', _, _, _, hcells'⟩ := (HS'.out.keep (kc_below H.out.bel)).at (by omega)
            cases hv; cases hv'
            obtain ⟨vi, vk, hrep, d0, d1, d2, d3, d4, d5⟩ := six_cells (six_keep (kc_below H.out.bel) HR.out) hcells hlt
            obtain ⟨vi', vk', hrep', f0, f1, f2, f3, f4, f5⟩ := six_cells (six_keep (kc_below H.out.bel) HR'.out) hcells' hlt
            have HC := Lib.hid (HI.out _ (List.getElem_mem hlt) S S' vi vk vi' vk' wr.drew (hrep.keep kc_drew) (hrep'.keep kc_drew))
            have l1 := hk_lt H.out.one
            have l2 := hk_lt H.out.two
            clear hrep hrep' hcells hcells'
            go_upto_region 12 with fail
            go_region_held3 (fun W' => ∀ b o, b < wr.heap.size → W'.cell? ⟨b, o, none⟩ = wr.cell? ⟨b, o, none⟩) (first | exact (fun _ _ _ => rfl) | exact (bcell HB.out).1) (first | (go_at_call 33; refine HC.out.mono ?_; rintro e w2 ⟨rfl, hb2⟩; have HB := Lib.hid hb2; clear hb2))
            have H2 := Lib.hid ((H.out.drewN 1).below HB.out)
            clear hx hy H
            go_wp2
            go_roundw
            case rel => exact ⟨i + 1, by omega, by go_num, H2⟩
            case measure => simp [intOf]; omega
          · obtain rfl : i = T.its.length := by omega
            go_wp2
            go_ret
            exact ⟨rfl, H.out.bel⟩
end Go.Proofs.Ytbajghjdnjodmaa
