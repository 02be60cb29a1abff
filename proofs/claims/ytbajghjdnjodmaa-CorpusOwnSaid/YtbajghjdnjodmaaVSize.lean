/- chevalref03.Size: how many parts a value has. -/
import Derived.Test.YtbajghjdnjodmaaCorpRep
namespace Go.Proofs.Ytbajghjdnjodmaa
set_option linter.unusedVariables false
set_option linter.unusedSimpArgs false
open Go.RowKit

/-- Where a value's box is: its cells, and the items' row. -/
theorem take_succ_sizes {l : List VT} {i : Nat} (h : i < l.length) : VT.sizes (l.take (i + 1)) = VT.sizes (l.take i) + l[i].size := by
  rw [List.take_succ_eq_append_getElem h, VT.sizes_append]; simp [VT.sizes]
theorem sizes_take_le (l : List VT) (i : Nat) : VT.sizes (l.take i) ≤ VT.sizes l := by
  conv => rhs; rw [← List.take_append_drop i l, VT.sizes_append]
  omega
/-- The six cells of an item of a slice of values. -/
theorem six_cells {w : World} {S : Nat → Prop} {l : List VT} {cs : List Value} {g o : Nat} (hr : Rows (VT.Six w S) l cs) (hc : ∀ j u, cs[j]? = some u → w.cell? ⟨g, o + j, none⟩ = some u) {i : Nat} (hi : i < l.length) :
    ∃ vi vk, l[i].Rep w S vi vk ∧ w.cell? ⟨g, o + i * 6, none⟩ = some (.int .i64 l[i].k) ∧ w.cell? ⟨g, o + i * 6 + 1, none⟩ = some (.bool l[i].b) ∧ w.cell? ⟨g, o + i * 6 + 2, none⟩ = some (.int .i64 l[i].n) ∧
      w.cell? ⟨g, o + i * 6 + 3, none⟩ = some (.string l[i].s) ∧ w.cell? ⟨g, o + i * 6 + 4, none⟩ = some vi ∧ w.cell? ⟨g, o + i * 6 + 5, none⟩ = some vk := by
  obtain ⟨x, ⟨vi, vk, rfl, h2⟩, h3⟩ := hr.at six_len hi
  refine ⟨vi, vk, h2, hc _ _ (h3 0 (by omega)), ?_, ?_, ?_, ?_, ?_⟩
  · rw [Nat.add_assoc]; exact hc _ _ (h3 1 (by omega))
  · rw [Nat.add_assoc]; exact hc _ _ (h3 2 (by omega))
  · rw [Nat.add_assoc]; exact hc _ _ (h3 3 (by omega))
  · rw [Nat.add_assoc]; exact hc _ _ (h3 4 (by omega))
  · rw [Nat.add_assoc]; exact hc _ _ (h3 5 (by omega))

set_option maxHeartbeats 1000000 in
theorem vsize_any : ∀ (k : Nat) (T : VT), T.size ≤ k → T.size ≤ 40 → ∀ (S : Nat → Prop) (vi vk : Value) (w : World), T.Rep w S vi vk →
    Calls Try.prog 49 #[T.agg vi vk] w fun e w' => e = .returned (.int .i64 T.size) ∧ Below w.heap.size w w'
  | 0, T, hk, _, _, _, _, _, _ => absurd T.size_pos (by omega)
  | k + 1, T, hk, h40, S, vi, vk, w, hT => by
    obtain ⟨⟨cs, hs, hr⟩, _⟩ := rep_iff.1 hT
    obtain ⟨a, c, rfl, hc0, hc1⟩ := hs.shape
    have HS := Lib.hid hs
    have HR := Lib.hid hr
    have HI := Lib.hid (fun (U : VT) (hU : U ∈ T.its) => vsize_any k U (by have := VT.size_mem hU; omega) (by have := VT.size_mem hU; omega))
    have HZ := Lib.hid (T.size_its)
    have HK := Lib.hid h40
    clear hs hr hT hk h40
    go_enter Try.func49, Try.ntmps49
    go_wp2
    have hsz : T.its.length = T.its.length := rfl
    go_loopw [3, 8] (fun p q W => ∃ i : Nat, i ≤ T.its.length ∧ p = .int .i64 (1 + VT.sizes (T.its.take i) : Nat) ∧ q = .int .i64 i ∧ Hid (W.heap[w.heap.size]? = some (.cells #[.int .i64 T.k, .bool T.b, .int .i64 T.n, .string T.s, .slice a T.its.length c, vk] 46 (0, 0)) ∧ Below w.heap.size w W)) (fun _ q _ => T.its.length - (intOf q).toNat)
    case atStart => exact ⟨0, by omega, by simp [VT.sizes], rfl, Lib.hid ⟨new_blk _ _, bl_alloc (Below.refl _ _) _⟩⟩
    case round =>
      obtain ⟨i, hi, rfl, rfl, H⟩ := hrel
      have hcb := cell_blk H.out.1
      by_cases hlt : i < T.its.length
      · obtain ⟨g, o, c', hv, _, _, _, hcells⟩ := (HS.out.keep (kc_below H.out.2)).at (by omega)
        cases hv
        obtain ⟨vi', vk', hrep, c0, c1, c2, c3, c4, c5⟩ := six_cells (six_keep (kc_below H.out.2) HR.out) hcells hlt
        have HC := Lib.hid (HI.out _ (List.getElem_mem hlt) S vi' vk' wr hrep)
        have h1 := take_succ_sizes hlt
        have h2 := sizes_take_le T.its (i + 1)
        have h3 := HZ.out
        have h4 := HK.out
        have h5 := T.its_len
        go_wp2_with (go_at_call 49; refine HC.out.mono ?_; rintro e w1 ⟨rfl, hb1⟩; have HB := Lib.hid hb1; clear hb1)
        go_roundw
        case rel => exact ⟨i + 1, by omega, by rw [h1]; go_num, by go_num, Lib.hid ⟨hk_below H.out.1 HB.out, bl_step H.out.2 HB.out⟩⟩
        case measure => simp [intOf]; omega
      · obtain rfl : i = T.its.length := by omega
        rw [List.take_length]
        go_wp2
        go_ret
        exact ⟨ret_i64 (by rw [HZ.out]; simp), H.out.2⟩
end Go.Proofs.Ytbajghjdnjodmaa
