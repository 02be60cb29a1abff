/- The corpus's All: its closure tells the entries of a copy, in the order of their names, until it is told to end. -/
import Derived.Test.YtbajghjdnjodmaaCCopy
import Derived.Test.YtbajghjdnjodmaaIterL
namespace Go.Proofs.Ytbajghjdnjodmaa
set_option linter.unusedVariables false
set_option linter.unusedSimpArgs false
open Go.RowKit Go.Shelf

theorem call_all (p : Option Addr) (w : World) : Calls Try.prog 23 #[.pointer p] w fun e w' => e = .returned (.func (.func 36) #[] #[.pointer (some ⟨w.heap.size, 0, none⟩)]) ∧ w' = w.alloc (.cells #[.pointer p] 24) := by
  go_enter Try.func23, Try.ntmps23
  go_wp2
  go_ret
  exact ⟨rfl, rfl⟩
/-- The names of a row in rising order, as the kit sorts a map's keys. -/
theorem names_sorted {l : List ET} (h : Rising l) {ss : List (List UInt8)} (hp : ss.Perm (l.map fun e => e.nm.data.toList)) :
    (ss.mergeSort (fun x y => decide (x ≤ y))).map encStr = l.map fun e => Value.string e.nm := by
  have e1 := mergeSort_of_perm hp
  have tr : ∀ a b c : List UInt8, leB a b = true → leB b c = true → leB a c = true := fun a b c h1 h2 => by simp only [leB, decide_eq_true_eq] at *; exact List.le_trans h1 h2
  have hs : (l.map fun e => e.nm.data.toList).Pairwise (fun a b => leB a b = true) := by
    refine List.pairwise_map.2 (h.imp fun {a b} hab => ?_)
    rw [bytesLess_eq, decide_eq_true_eq] at hab
    simp only [leB, decide_eq_true_eq]
    rw [← toList_data, ← toList_data]
    exact List.le_of_lt hab
  have e2 : (l.map fun e => e.nm.data.toList).mergeSort leB = l.map fun e => e.nm.data.toList := List.mergeSort_of_pairwise hs
  show (ss.mergeSort leB).map encStr = _
  rw [e1, e2, List.map_map]
  refine List.map_congr_left fun e _ => ?_
  cases e with
  | mk nm v has st dr => cases nm with | mk d => simp [encStr]
/-- What the closure has by itself on its way. -/
structure Told (w : World) (g' m' : Nat) (l : List ET) (vn : Value) (W : World) : Prop where
  han : W.heap[g']? = some (.cells #[.map (some m')] 69 (0, 0))
  syn : Syn W (w.heap.size ≤ ·) m' l
  row : Sl W (w.heap.size ≤ ·) 1 vn l.length (l.map fun e => Value.string e.nm)
  hg : w.heap.size ≤ g'
  hm : w.heap.size ≤ m'
  size : w.heap.size ≤ W.heap.size
theorem Told.go {w W W' : World} {g' m' : Nat} {l : List ET} {vn : Value} (h : Told w g' m' l vn W) (hs : W.heap.size ≤ W'.heap.size) (hf : ∀ j, w.heap.size ≤ j → j < W.heap.size → W'.heap[j]? = W.heap[j]?) : Told w g' m' l vn W' :=
  have kc : Kc (w.heap.size ≤ ·) W W' := fun g x t fr hg hx => (hf g hg (hk_lt hx)).trans hx
  ⟨(hf _ h.hg (hk_lt h.han)).trans h.han, h.syn.go (hf _ h.hm h.syn.lt) kc fun _ _ _ _ h _ => h, h.row.keep kc, h.hg, h.hm, Nat.le_trans h.size hs⟩
/-- What is asked of the function that is told the entries. -/
def Yields (K : Nat) (caps : Array Value) (J : Nat → World → Prop) (bf : Nat → Bool) (l : List ET) (n : Nat) : Prop :=
  ∀ k (e : ET) vi vk vd W, l[k]? = some e → n ≤ W.heap.size → J k W → e.Cells W (n ≤ ·) vi vk vd → (∀ i, i < k → bf i = true) →
    Calls Try.prog K (#[.string e.nm, e.ent vi vk vd] ++ caps) W fun r W' => r = .returned (.bool (bf k)) ∧ J (k + 1) W' ∧ (k + 1 < l.length → ∀ j, n ≤ j → j < W.heap.size → W'.heap[j]? = W.heap[j]?) ∧ W.heap.size ≤ W'.heap.size
def AllEnd (J : Nat → World → Prop) (bf : Nat → Bool) (l : List ET) (W' : World) : Prop :=
  ∃ k, k ≤ l.length ∧ J k W' ∧ (∀ i, i + 1 < k → bf i = true) ∧ (k = l.length ∨ (0 < k ∧ bf (k - 1) = false))
set_option maxRecDepth 20000 in
set_option maxHeartbeats 1000000 in
theorem all1_any (K : Nat) (caps : Array Value) (eg : ∀ args w, (callFunc K args).run Try.prog w = .ok (.enter K args) w) (J : Nat → World → Prop) (bf : Nat → Bool) (bx g m : Nat) (l : List ET) (S : Nat → Prop) (w : World) (hbx : w.heap[bx]? = some (.cells #[.pointer (some ⟨g, 0, none⟩)] 24 (0, 0)))
    (hg : w.heap[g]? = some (.cells #[.map (some m)] 69 (0, 0))) (h : Syn w S m l) (hd : DocOk l) (h0 : ∀ W, Below w.heap.size w W → J 0 W) (hY : Yields K caps J bf l w.heap.size) :
    Calls Try.prog 36 #[.func (.func K) #[] caps, .pointer (some ⟨bx, 0, none⟩)] w fun r W' => r = .returned (.tuple #[]) ∧ AllEnd J bf l W' := by
  have hcp := ccopy_any g m l S w hg h hd
  have cb := cell_blk hbx
  have HD := Lib.hid hd
  have H0 := Lib.hid h0
  have HY := Lib.hid hY
  clear hbx hg h hd h0 hY
  go_enter Try.func36, Try.ntmps36
  go_wp2_with fail
  refine hcp.mono ?_
  rintro e' w1 ⟨g', m', rfl, hg1, hs1, hb1, hgl, hml⟩
  clear hcp cb
  have c1 := cell_blk hg1
  obtain ⟨D, k1, k2, k3, k4⟩ := id hs1
  have hnp := (names_perm k1 HD.out k3).1
  have hlen := HD.out.len
  have HSO := Lib.hid (Try.slices_Sorted_keys_37_38 m' 64 D entR w1 k1 (by unfold maxLen; omega) (by omega))
  have HNP := Lib.hid hnp
  have HG1 := Lib.hid hg1
  have HS1 := Lib.hid hs1
  have HB1 := Lib.hid hb1
  clear k1 k2 k3 k4 hnp hg1 hs1 hb1
  go_wp2_with (first
    | (go_at_call 37; refine (callsIn_wide.1 HSO.out).mono ?_; rintro e2 w2 ⟨vn, ss, rfl, hp, ho, _, hb2⟩; rw [hp.length_eq, ← HNP.out.length_eq, List.length_map, names_sorted HD.out.rise (hp.trans HNP.out.symm)] at ho; obtain ⟨vA, vc, hv⟩ := own_slice ho; subst hv; have HT : Hid (Told w g' m' l (.slice vA l.length vc) w2 ∧ Below w.heap.size w w2) := Lib.hid ⟨⟨hk_below HG1.out (bl_step (by ((repeat (first | with_reducible exact Below.refl _ _ | with_reducible refine bl_drew ?_ | with_reducible refine bl_alloc ?_ _ | with_reducible refine bl_set ?_ (by dsimp only; omega) _)); done)) hb2), HS1.out.below (bl_step (by ((repeat (first | with_reducible exact Below.refl _ _ | with_reducible refine bl_drew ?_ | with_reducible refine bl_alloc ?_ _ | with_reducible refine bl_set ?_ (by dsimp only; omega) _)); done)) hb2), (Sl.of_own ho).mono fun _ hx => Nat.le_trans HB1.out.size (Nat.le_trans (by simp) hx), hgl, hml, Nat.le_trans HB1.out.size (Nat.le_trans (by simp) hb2.size)⟩, bl_step (by ((repeat (first | with_reducible exact HB1.out | with_reducible exact Below.refl _ _ | with_reducible refine bl_drew ?_ | with_reducible refine bl_alloc ?_ _ | with_reducible refine bl_set ?_ (by dsimp only; omega) _)); done)) hb2⟩; clear ho hp hb2 c1)
    | (go_at_call 38; refine (callsIn_wide.1 (Try.maps_Keys_38 _ _)).mono ?_; rintro e2 w2 ⟨rfl, rfl⟩))
  have HRS := Lib.hid (fun i (hi : i < l.length) => HD.out.names l[i] (List.getElem_mem hi))
  go_loopw [15] (fun t W => ∃ i : Nat, i ≤ l.length ∧ t = .int .i64 i ∧ Hid (J i W ∧ (∀ j, j < i → bf j = true) ∧ w.heap.size ≤ W.heap.size ∧ (i < l.length → Told w g' m' l (.slice vA l.length vc) W))) (fun t _ => l.length - (intOf t).toNat)
  case atStart => exact ⟨0, Nat.zero_le _, rfl, Lib.hid ⟨H0.out _ HT.out.2, fun j hj => absurd hj (Nat.not_lt_zero _), HT.out.2.size, fun _ => HT.out.1⟩⟩
  case round =>
    obtain ⟨i, hi, rfl, H⟩ := hrel
    by_cases hlt : i < l.length
    · have hT := H.out.2.2.2 hlt
      obtain ⟨gs, os, cs, hv, _, _, _, hcells⟩ := hT.row.at (by omega)
      cases hv
      have hc := hcells i (.string l[i].nm) (by rw [List.getElem?_map, List.getElem?_eq_getElem hlt]; rfl)
      have ch := cell_blk hT.han
      obtain ⟨v, _, hL, hv⟩ := syn_look hT.syn (HRS.out i hlt).2
      obtain ⟨vi, vk, vd, hv1, hce⟩ := hv l[i] (List.getElem_mem hlt) rfl
      rw [hv1] at hL
      have hcall := HY.out i l[i] vi vk vd wr (List.getElem?_eq_getElem hlt) H.out.2.2.1 H.out.1 hce H.out.2.1
      obtain ⟨a1, b1, a2, b2, a3, b3, rfl, rfl, rfl⟩ := cells_shape hce
      have HTT := Lib.hid hT
      clear hT hcells hv hv1 hce
      cases hb : bf i with
      | true =>
        rw [hb] at hcall
        go_wp2_with (go_at_fn K; refine hcall.mono ?_; rintro e2 w3 ⟨rfl, hj, hf, hz⟩; have HJ : Hid (J (i + 1) w3 ∧ (∀ j, j < i + 1 → bf j = true) ∧ w.heap.size ≤ w3.heap.size ∧ (i + 1 < l.length → Told w g' m' l (.slice (some ⟨gs, os, none⟩) l.length vc) w3)) := Lib.hid ⟨hj, fun j hj => (by rcases Nat.lt_succ_iff_lt_or_eq.1 hj with h | rfl; exact H.out.2.1 j h; exact hb), Nat.le_trans H.out.2.2.1 hz, fun h => HTT.out.go hz (hf h)⟩; clear hj hf hz)
        go_round
        case rel => exact ⟨i + 1, by omega, by go_num, HJ⟩
        case measure => simp [intOf]; omega
      | false =>
        rw [hb] at hcall
        go_wp2_with (go_at_fn K; refine hcall.mono ?_; rintro e2 w3 ⟨rfl, hj, hf, hz⟩; have HJ : Hid (AllEnd J bf l w3) := Lib.hid ⟨i + 1, hlt, hj, fun j hj => H.out.2.1 j (by omega), .inr ⟨by omega, hb⟩⟩; clear hj hf hz)
        refine bodyPost_ret (results_none rfl _ _ _) rfl ?_
        exact ⟨rfl, HJ.out⟩
    · obtain rfl : i = l.length := by omega
      go_wp2
      go_end0
      exact ⟨rfl, l.length, Nat.le_refl _, H.out.1, fun j hj => H.out.2.1 j (by omega), .inl rfl⟩
end Go.Proofs.Ytbajghjdnjodmaa
