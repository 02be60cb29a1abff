/- The document's row of entries: the place of a name, the row without one. -/
import Derived.Test.YtbajghjdnjodmaaEnt3
import Derived.Test.YtbajghjdnjodmaaCorpusNames
namespace Go.Proofs.Ytbajghjdnjodmaa
set_option linter.unusedVariables false
set_option linter.unusedSimpArgs false
open Go.RowKit

/-- Elements behind a place, as the model has the slice: where the array ends there, the address stays. -/
theorem Sl.drop' {w : World} {S : Nat → Prop} {size n g o c k : Nat} {cs : List Value} (h : Sl w S size (.slice (some ⟨g, o, none⟩) n c) n cs) (hk : k ≤ n) :
    Sl w S size (.slice (if c = k then some ⟨g, o, none⟩ else some ⟨g, o + k * size, none⟩) (n - k) (c - k)) (n - k) (cs.drop (k * size)) := by
  by_cases e : c = k
  · obtain ⟨hl, a', c', e', h3, _⟩ := h
    cases e'
    rw [if_pos e]
    have hn : n = k := by omega
    subst hn
    rw [Nat.sub_self, List.drop_of_length_le (Nat.le_of_eq hl)]
    exact Sl.emp _ _
  · rw [if_neg e]; exact h.drop hk
/-- The ten cells of an entry of the document's row. -/
theorem ten_cells {w : World} {S : Nat → Prop} {l : List ET} {cs : List Value} {g o : Nat} (hr : Rows (ET.Ten w S) l cs) (hc : ∀ j u, cs[j]? = some u → w.cell? ⟨g, o + j, none⟩ = some u) {i : Nat} (hi : i < l.length) :
    ∃ vi vk vd, l[i].Cells w S vi vk vd ∧ ∀ c, c < 10 → w.cell? ⟨g, o + i * 10 + c, none⟩ = (l[i].head vi vk vd)[c]? := by
  obtain ⟨x, ⟨vi, vk, vd, rfl, h2⟩, h3⟩ := hr.at ten_len hi
  refine ⟨vi, vk, vd, h2, fun c hcc => ?_⟩
  have := h3 c hcc
  have hl : c < (l[i].head vi vk vd).length := by simpa [ET.head] using hcc
  rw [List.getElem?_eq_getElem hl] at this ⊢
  rw [Nat.add_assoc]; exact hc _ _ this
/-- The document's place: below 0, where there is none. -/
def findI (nm : ByteArray) (l : List ET) : Int := match findF nm l 0 with | some k => k | none => -1
set_option maxHeartbeats 1000000 in
theorem find_any (l : List ET) (lv : Value) (nm : ByteArray) (S : Nat → Prop) (w : World) (h : Doc w S lv l) (hl : l.length ≤ 1000) :
    Calls Try.prog 41 #[lv, .string nm] w fun e w' => e = .returned (.int .i64 (findI nm l)) ∧ w = w' := by
  obtain ⟨cs, hs, hr⟩ := h
  obtain ⟨a, c, rfl, _, _⟩ := hs.shape
  have HF : Hid (∀ k, findF nm l 0 = k → findI nm l = (match k with | some k => (k : Int) | none => -1)) := Lib.hid (fun k e => by unfold findI; rw [e])
  generalize findI nm l = r at *
  go_enter Try.func41, Try.ntmps41
  go_wp2
  go_loop [8] (fun q => ∃ i : Nat, i ≤ l.length ∧ q = .int .i64 i ∧ Hid (findF nm l 0 = findF nm (l.drop i) i)) (fun q => l.length - (intOf q).toNat)
  case atStart => exact ⟨0, by omega, rfl, Lib.hid rfl⟩
  case round =>
    obtain ⟨i, hi, rfl, H⟩ := hrel
    by_cases hlt : i < l.length
    · obtain ⟨g, o, c2, hv, _, _, _, hcells⟩ := hs.at (by omega)
      cases hv
      obtain ⟨vi, vk, vd, _, ht⟩ := ten_cells hr hcells hlt
      have c0 := ht 0 (by omega)
      simp only [ET.head, Nat.add_zero, List.getElem?_cons_zero] at c0
      clear ht hcells
      by_cases e : l[i].nm = nm
      · have hb := str_beq e
        have HR := Lib.hid (HF.out _ (H.out.trans (findF_hit (List.getElem?_eq_getElem hlt) e)))
        clear e
        go_wp2
        go_ret
        exact ⟨ret_i64 HR.out.symm, rfl⟩
      · have hb := str_bne e
        have HN := Lib.hid (H.out.trans (findF_step (List.getElem?_eq_getElem hlt) e))
        clear e
        go_wp2
        go_round
        case rel => exact ⟨i + 1, by omega, by go_num, HN⟩
        case measure => simp [intOf]; omega
    · have HR := Lib.hid (HF.out _ (H.out.trans (findF_end (by omega))))
      obtain rfl : i = l.length := by omega
      go_wp2
      go_ret
      exact ⟨ret_i64 HR.out.symm, rfl⟩

/-- The document's row without a name's. -/
def dropL (l : List ET) (nm : ByteArray) : List ET := match findF nm l 0 with | some k => l.take k ++ l.drop (k + 1) | none => l
def dropC (l : List ET) (nm : ByteArray) : Int := match findF nm l 0 with | some _ => 0 | none => 12
theorem Doc.below {w w' : World} {S : Nat → Prop} {v : Value} {l : List ET} (h : Doc w S v l) (k : Below w.heap.size w w') : Doc w' S v l := h.keep (kc_below k)
set_option maxRecDepth 20000 in
set_option maxHeartbeats 1000000 in
theorem drop24_any (l : List ET) (lv : Value) (nm : ByteArray) (S : Nat → Prop) (w : World) (h : Doc w S lv l) (hl : l.length ≤ 64) :
    Calls Try.prog 40 #[lv, .string nm] w fun e w' => ∃ lv', e = .returned (.tuple #[lv', .int .i64 (dropC l nm)]) ∧ Doc w' (fun x => S x ∨ w.heap.size ≤ x) lv' (dropL l nm) ∧ Below w.heap.size w w' := by
  have HD := Lib.hid h
  have HF := Lib.hid (find_any l lv nm S w h (by omega))
  obtain ⟨cs, hs, hr⟩ := h
  obtain ⟨a, c, rfl, hc, _⟩ := hs.shape
  cases hk : findF nm l 0 with
  | none =>
    have e1 : findI nm l = -1 := by simp [findI, hk]
    have e2 : dropC l nm = 12 := by simp [dropC, hk]
    have E3 : Hid (dropL l nm = l) := Lib.hid (by simp [dropL, hk])
    rw [e1] at HF
    rw [e2]
    clear hk hs hr
    go_enter Try.func40, Try.ntmps40
    go_wp2_with (go_at_call 41; refine HF.out.mono ?_; rintro e' w' ⟨rfl, rfl⟩)
    go_ret2
    exact ⟨_, rfl, by rw [E3.out]; exact HD.out.go (Kc.refl _ _) fun _ _ _ _ h _ => .inl h, Below.refl _ _⟩
  | some k =>
    obtain ⟨j, d, hj, hd, _, _⟩ := findF_at hk
    obtain rfl : j = k := by omega
    have hlt : j < l.length := (List.getElem?_eq_some_iff.1 hd).1
    have e1 : findI nm l = (j : Int) := by simp [findI, hk]
    have e2 : dropC l nm = 0 := by simp [dropC, hk]
    have E3 : Hid (dropL l nm = l.take j ++ l.drop (j + 1)) := Lib.hid (by simp [dropL, hk])
    rw [e1] at HF
    rw [e2]
    obtain ⟨g, o, c2, hv, _, _, _, _⟩ := hs.at (by omega)
    cases hv
    have HS1 := Lib.hid (fun (W : World) (hb : Below w.heap.size w W) => (hs.keep (kc_below hb)).take (k := j) (by omega))
    have HS2 := Lib.hid (fun (W : World) (hb : Below w.heap.size w W) => (hs.keep (kc_below hb)).drop' (k := j + 1) (by omega))
    have HO := Lib.hid (tens_one hr)
    have HR := Lib.hid hr
    clear hk hs hr hd hj
    go_enter Try.func40, Try.ntmps40
    go_upto_region 4 with (go_at_call 41; refine HF.out.mono ?_; rintro e' w' ⟨rfl, rfl⟩)
    have b1 : (0 : Int) ≤ (j : Int) := by omega
    have b2 : (j : Int) ≤ (c : Int) := by omega
    have b3 : IntKind.i64.wrap ((j : Int) + 1) = (j : Int) + 1 := by rw [IntKind.wrap_i64]; omega
    have b4 : (j : Int) + 1 ≤ (l.length : Int) := by omega
    have b5 : (0 : Int) ≤ (j : Int) + 1 := by omega
    have b6 : ((j : Int) + 1).toNat = j + 1 := by omega
    have HO1 := Lib.hid (fun u (hu : u ∈ cs.take (j * 10)) => HO.out u (List.mem_of_mem_take hu))
    have HO2 := Lib.hid (fun u (hu : u ∈ cs.drop ((j + 1) * 10)) => HO.out u (List.mem_of_mem_drop hu))
    go_region_law (first
      | (refine step_append_sl rfl _ _ _ rfl rfl elem_e (v := .slice vA j vc) (base := w.heap.size) rfl rfl RO1.out (HS2.out _ HB1.out) HO2.out (by unfold maxLen; omega) (by omega) HB1.out.size ?_; intro v2 w2 ho hg hb; obtain ⟨vB, vd, hv⟩ := own_slice ho; subst hv; have HB2 : Hid (Below w.heap.size w w2) := Lib.hid (HB1.out.grown hg HB1.out.size (fun k e => (RO1.out.lt k e).1)); have RO2 := Lib.hid ho; clear ho hg hb)
      | (refine step_append_sl rfl _ _ _ rfl rfl elem_e (v := .slice (some ⟨w.heap.size, 0, none⟩) 0 0) (base := w.heap.size) rfl rfl (own_here _ (by ((repeat (first | with_reducible exact new_blk _ _ | with_reducible exact new_blk1 _ _ _ | with_reducible exact new_blk2 _ _ _ _ | with_reducible refine hk_drew ?_ | with_reducible refine hk_alloc ?_ _ | with_reducible refine hk_set ?_ (by dsimp only; omega) _)); done)) (Nat.le_refl _)) (HS1.out _ (by ((repeat (first | with_reducible exact Below.refl _ _ | with_reducible refine bl_drew ?_ | with_reducible refine bl_alloc ?_ _ | with_reducible refine bl_set ?_ (by dsimp only; omega) _)); done))) HO1.out (by unfold maxLen; omega) (by omega) (by simp) ?_; intro v1 w1 ho hg hb; rw [Nat.zero_add, List.nil_append] at ho; obtain ⟨vA, vc, hv⟩ := own_slice ho; subst hv; have HB1 : Hid (Below w.heap.size w w1) := Lib.hid (Below.grown (by ((repeat (first | with_reducible exact Below.refl _ _ | with_reducible refine bl_drew ?_ | with_reducible refine bl_alloc ?_ _ | with_reducible refine bl_set ?_ (by dsimp only; omega) _)); done)) hg (by simp) (fun k e => by simp [Value.ownBlock] at e; omega)); have RO1 := Lib.hid ho; clear ho hg hb))
    have HX : Hid (Doc w2 (fun x => S x ∨ w.heap.size ≤ x) (.slice vB (j + (l.length - (j + 1))) vd) (dropL l nm)) := Lib.hid (by
      rw [E3.out]
      have h2 := RO2.out
      have e : j + (l.length - (j + 1)) = (l.take j ++ l.drop (j + 1)).length := by rw [List.length_append, List.length_take, List.length_drop]; omega
      have hr2 := (HR.out.mono fun _ _ h => h.go (S' := fun x => S x ∨ w.heap.size ≤ x) (kc_below HB2.out) fun _ _ _ _ h _ => .inl h)
      refine ⟨_, ?_, Rows.append (hr2.take ten_len j (by omega)) (hr2.drop ten_len (j + 1) (by omega))⟩
      rw [← e]
      exact (Sl.of_own h2).mono fun _ h => .inr h)
    go_wp2_with fail
    all_goals
      go_ret2
      exact ⟨.slice vB (j + (l.length - (j + 1))) vd, rfl, HX.out, HB2.out⟩
end Go.Proofs.Ytbajghjdnjodmaa
