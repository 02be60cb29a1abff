/- The document's row with an entry. -/
import Derived.Test.YtbajghjdnjodmaaDoc
namespace Go.Proofs.Ytbajghjdnjodmaa
set_option linter.unusedVariables false
set_option linter.unusedSimpArgs false
open Go.RowKit

/-- Ten cells of a row of the call's own are turned. -/
theorem own_ten {w : World} {base : Nat} {e : TypeId} {n g cap i : Nat} {c1 r : List Value} {x0 x1 x2 x3 x4 x5 x6 x7 x8 x9 : Value} (h : w.ownsRow base e 10 (.slice (some ⟨g, 0, none⟩) n cap) n (c1 ++ (x0 :: x1 :: x2 :: x3 :: x4 :: x5 :: x6 :: x7 :: x8 :: x9 :: r))) (hl : c1.length = i * 10) (a0 a1 a2 a3 a4 a5 a6 a7 a8 a9 : Value) :
    ((((((((((w.setCell ⟨g, i * 10, none⟩ a0).setCell ⟨g, i * 10 + 1, none⟩ a1).setCell ⟨g, i * 10 + 2, none⟩ a2).setCell ⟨g, i * 10 + 3, none⟩ a3).setCell ⟨g, i * 10 + 4, none⟩ a4).setCell ⟨g, i * 10 + 5, none⟩ a5).setCell ⟨g, i * 10 + 6, none⟩ a6).setCell ⟨g, i * 10 + 7, none⟩ a7).setCell ⟨g, i * 10 + 8, none⟩ a8).setCell ⟨g, i * 10 + 9, none⟩ a9).ownsRow base e 10 (.slice (some ⟨g, 0, none⟩) n cap) n ((c1 ++ [a0, a1, a2, a3, a4, a5, a6, a7, a8, a9]) ++ r) := by
  have h5 := (((((((((h.stored (i * 10) a0).1.stored (i * 10 + 1) a1).1.stored (i * 10 + 2) a2).1.stored (i * 10 + 3) a3).1.stored (i * 10 + 4) a4).1.stored (i * 10 + 5) a5).1.stored (i * 10 + 6) a6).1.stored (i * 10 + 7) a7).1.stored (i * 10 + 8) a8).1.stored (i * 10 + 9) a9
  have key : ∀ (c : Nat) (m : List Value) (a : Value), (c1 ++ m).set (i * 10 + c) a = c1 ++ m.set c a := fun c m a => by
    rw [List.set_append_right _ _ (by omega)]; congr 2; omega
  have e0 := key 0
  rw [Nat.add_zero] at e0
  rw [e0, key 1, key 2, key 3, key 4, key 5, key 6, key 7, key 8, key 9] at h5
  have := h5.1
  simpa using this
theorem and_of {A B : Prop} (hb : B) (h : B → A) : A ∧ B := ⟨h hb, hb⟩
/-- The document's row with an entry, and the error. -/
def putL (l : List ET) (e : ET) : List ET := if isNameB e.nm then (match findF e.nm l 0 with | some k => l.set k e | none => if l.length = 64 then l else insF l e) else l
def putK (l : List ET) (e : ET) : Int := if isNameB e.nm then (match findF e.nm l 0 with | some _ => 0 | none => if l.length = 64 then 22 else 0) else 1
theorem Doc.all {w : World} {S S' : Nat → Prop} {n : Nat} {v : Value} {l : List ET} (h : Doc w S v l) : Doc w (fun x => S x ∨ S' x ∨ n ≤ x) v l := h.go (Kc.refl _ _) fun _ _ _ _ h _ => .inl h
section
variable (l : List ET) (lv : Value) (e : ET) (S S' : Nat → Prop) (vi vk vd : Value) (w : World)
set_option maxRecDepth 20000 in
set_option maxHeartbeats 1000000 in
theorem put24_form (h : Doc w S lv l) (hc : e.Cells w S' vi vk vd) (hs : e.nm.size ≤ 9223372036854775807) (hn : isNameB e.nm = false) :
    Calls Try.prog 42 #[lv, e.agg vi vk vd] w fun r w' => ∃ lv', r = .returned (.tuple #[lv', .int .i64 (putK l e)]) ∧ Doc w' (fun x => S x ∨ S' x ∨ w.heap.size ≤ x) lv' (putL l e) ∧ Below w.heap.size w w' := by
  obtain ⟨a1, b1, a2, b2, a3, b3, rfl, rfl, rfl⟩ := cells_shape hc
  have e1 : putK l e = 1 := by simp [putK, hn]
  have E2 : Hid (putL l e = l) := Lib.hid (by simp [putL, hn])
  rw [e1]
  have HD := Lib.hid h
  clear h hc
  go_enter Try.func42, Try.ntmps42
  go_wp2_with (go_at_call 13; refine (isname24_any _ _ hs).mono ?_; rintro e' w' ⟨rfl, rfl⟩)
  go_ret2
  exact ⟨_, rfl, by rw [E2.out]; exact (HD.out.below (by ((repeat (first | with_reducible exact Below.refl _ _ | with_reducible refine bl_drew ?_ | with_reducible refine bl_alloc ?_ _ | with_reducible refine bl_set ?_ (by dsimp only; omega) _)); done))).all, by ((repeat (first | with_reducible exact Below.refl _ _ | with_reducible refine bl_drew ?_ | with_reducible refine bl_alloc ?_ _ | with_reducible refine bl_set ?_ (by dsimp only; omega) _)); done)⟩
set_option maxRecDepth 20000 in
set_option maxHeartbeats 1000000 in
theorem put24_full (h : Doc w S lv l) (hc : e.Cells w S' vi vk vd) (hs : e.nm.size ≤ 9223372036854775807) (hn : isNameB e.nm = true) (hf : findF e.nm l 0 = none) (hl : l.length = 64) :
    Calls Try.prog 42 #[lv, e.agg vi vk vd] w fun r w' => ∃ lv', r = .returned (.tuple #[lv', .int .i64 (putK l e)]) ∧ Doc w' (fun x => S x ∨ S' x ∨ w.heap.size ≤ x) lv' (putL l e) ∧ Below w.heap.size w w' := by
  obtain ⟨a1, b1, a2, b2, a3, b3, rfl, rfl, rfl⟩ := cells_shape hc
  have e1 : putK l e = 22 := by simp [putK, hn, hf, hl]
  have E2 : Hid (putL l e = l) := Lib.hid (by simp [putL, hn, hf, hl])
  have e3 : findI e.nm l = -1 := by simp [findI, hf]
  rw [e1]
  have HD := Lib.hid h
  have HF := Lib.hid (fun (W : World) (hb : Below w.heap.size w W) => find_any l lv e.nm S W (h.below hb) (by omega))
  obtain ⟨cs, hsl, _⟩ := h
  obtain ⟨a, c, rfl, _, _⟩ := hsl.shape
  rw [e3] at HF
  rw [hl] at *
  clear hsl hc hf
  go_enter Try.func42, Try.ntmps42
  go_wp2_with (first | (go_at_call 13; refine (isname24_any _ _ hs).mono ?_; rintro e' w' ⟨rfl, rfl⟩) | (go_at_call 41; refine (HF.out _ (by ((repeat (first | with_reducible exact Below.refl _ _ | with_reducible refine bl_drew ?_ | with_reducible refine bl_alloc ?_ _ | with_reducible refine bl_set ?_ (by dsimp only; omega) _)); done))).mono ?_; rintro e' w' ⟨rfl, rfl⟩))
  go_ret2
  exact ⟨_, rfl, by rw [E2.out]; exact (HD.out.below (by ((repeat (first | with_reducible exact Below.refl _ _ | with_reducible refine bl_drew ?_ | with_reducible refine bl_alloc ?_ _ | with_reducible refine bl_set ?_ (by dsimp only; omega) _)); done))).all, by ((repeat (first | with_reducible exact Below.refl _ _ | with_reducible refine bl_drew ?_ | with_reducible refine bl_alloc ?_ _ | with_reducible refine bl_set ?_ (by dsimp only; omega) _)); done)⟩
set_option maxRecDepth 20000 in
set_option maxHeartbeats 1000000 in
theorem put24_old {k : Nat} (h : Doc w S lv l) (hc : e.Cells w S' vi vk vd) (hs : e.nm.size ≤ 9223372036854775807) (hn : isNameB e.nm = true) (hf : findF e.nm l 0 = some k) (hl : l.length ≤ 64) :
    Calls Try.prog 42 #[lv, e.agg vi vk vd] w fun r w' => ∃ lv', r = .returned (.tuple #[lv', .int .i64 (putK l e)]) ∧ Doc w' (fun x => S x ∨ S' x ∨ w.heap.size ≤ x) lv' (putL l e) ∧ Below w.heap.size w w' := by
  obtain ⟨a1, b1, a2, b2, a3, b3, rfl, rfl, rfl⟩ := cells_shape hc
  have e1 : putK l e = 0 := by simp [putK, hn, hf]
  have E2 : Hid (putL l e = l.set k e) := Lib.hid (by simp [putL, hn, hf])
  have e3 : findI e.nm l = k := by simp [findI, hf]
  rw [e1]
  have HF := Lib.hid (fun (W : World) (hb : Below w.heap.size w W) => find_any l lv e.nm S W (h.below hb) (by omega))
  obtain ⟨j, d, hj, hd, _, _⟩ := findF_at hf
  have hlt : k < l.length := by have := (List.getElem?_eq_some_iff.1 hd).1; omega
  obtain ⟨cs, hsl, hr⟩ := h
  obtain ⟨a, c, rfl, _, _⟩ := hsl.shape
  rw [e3] at HF
  have HS := Lib.hid (fun (W : World) (hb : Below w.heap.size w W) => hsl.keep (kc_below hb))
  have HO := Lib.hid (tens_one hr)
  have HR := Lib.hid hr
  have HC := Lib.hid hc
  clear hsl hc hf hj hd hr
  have k0 : (0 : Int) ≤ (k : Int) := by omega
  go_enter Try.func42, Try.ntmps42
  go_upto_region 6 with (first | (go_at_call 13; refine (isname24_any _ _ hs).mono ?_; rintro e' w' ⟨rfl, rfl⟩) | (go_at_call 41; refine (HF.out _ (by ((repeat (first | with_reducible exact Below.refl _ _ | with_reducible refine bl_drew ?_ | with_reducible refine bl_alloc ?_ _ | with_reducible refine bl_set ?_ (by dsimp only; omega) _)); done))).mono ?_; rintro e' w' ⟨rfl, rfl⟩) | (at_builtin; refine wpList_append_sl rfl _ _ _ rfl rfl elem_e (v := .slice (some ⟨w.heap.size + 1, 0, none⟩) 0 0) (base := w.heap.size + 1) rfl rfl (own_here _ (by ((repeat (first | with_reducible exact new_blk _ _ | with_reducible exact new_blk1 _ _ _ | with_reducible exact new_blk2 _ _ _ _ | with_reducible refine hk_drew ?_ | with_reducible refine hk_alloc ?_ _ | with_reducible refine hk_set ?_ (by dsimp only; omega) _)); done)) (Nat.le_refl _)) (HS.out _ (by ((repeat (first | with_reducible exact Below.refl _ _ | with_reducible refine bl_drew ?_ | with_reducible refine bl_alloc ?_ _ | with_reducible refine bl_set ?_ (by dsimp only; omega) _)); done))) HO.out (by unfold maxLen; omega) (by omega) (by simp) ?_; intro v1 w1 ho hg hb; rw [Nat.zero_add, List.nil_append] at ho; obtain ⟨g, vc, hv, hg1, hg2⟩ := ho.form (by omega); subst hv; have HB1 : Hid (Below w.heap.size w w1) := Lib.hid (Below.grown (by ((repeat (first | with_reducible exact Below.refl _ _ | with_reducible refine bl_drew ?_ | with_reducible refine bl_alloc ?_ _ | with_reducible refine bl_set ?_ (by dsimp only; omega) _)); done)) hg (by simp <;> omega) (fun k e => by simp [Value.ownBlock] at e; omega)); have RO1 := Lib.hid ho; have Q1 : Hid (w1.heap[w.heap.size]? = some (.cells #[.string e.nm, .int .i64 e.v.k, .bool e.v.b, .int .i64 e.v.n, .string e.v.s, .slice a1 e.v.its.length b1, .slice a2 e.v.ks.length b2, .bool e.has, .string e.st, .slice a3 e.dr.length b3] 48 (0, 0))) := Lib.hid (hk_grow (by ((repeat (first | with_reducible exact new_blk _ _ | with_reducible exact new_blk1 _ _ _ | with_reducible exact new_blk2 _ _ _ _ | with_reducible refine hk_drew ?_ | with_reducible refine hk_alloc ?_ _ | with_reducible refine hk_set ?_ (by dsimp only; omega) _)); done)) hg (by simp [Value.ownBlock])); clear ho hg hb))
  have q1 := cell_blk Q1.out
  have qc := fun j hj => RO1.out.cellAt j hj
  have qf := RO1.out.frozenAt
  obtain ⟨c1, x, r, hcs, hr1, ⟨xi, xk, xd, hx, _⟩, hr2⟩ := HR.out.split hlt
  have hc1 : c1.length = k * 10 := by rw [hr1.len ten_len, List.length_take]; congr 1; omega
  have at10 : ∀ cc, cc < 10 → w1.cell? ⟨g, k * 10 + cc, none⟩ = (l[k].head xi xk xd)[cc]? := fun cc hcc => by
    rw [qc _ (by omega), hcs, List.getElem?_append_right (by omega), hc1, Nat.add_sub_cancel_left, hx, List.getElem?_append_left (by simpa [ET.head] using hcc)]
  have d0 := at10 0 (by omega)
  have d1 := at10 1 (by omega)
  have d2 := at10 2 (by omega)
  have d3 := at10 3 (by omega)
  have d4 := at10 4 (by omega)
  have d5 := at10 5 (by omega)
  have d6 := at10 6 (by omega)
  have d7 := at10 7 (by omega)
  have d8 := at10 8 (by omega)
  have d9 := at10 9 (by omega)
  simp only [ET.head, Nat.add_zero, List.getElem?_cons_zero, List.getElem?_cons_succ] at d0 d1 d2 d3 d4 d5 d6 d7 d8 d9
  have HX := Lib.hid hx
  have HCS := Lib.hid hcs
  have HR1 := Lib.hid hr1
  have HR2 := Lib.hid hr2
  clear qc at10 hx hcs hr1 hr2
  go_wp2_with fail
  go_ret2
  refine ⟨_, rfl, and_of ?_ fun hb => ?_⟩
  · clear q1 d0 d1 d2 d3 d4 d5 d6 d7 d8 d9
    ((repeat (first | with_reducible exact HB1.out | with_reducible exact Below.refl _ _ | with_reducible refine bl_drew ?_ | with_reducible refine bl_alloc ?_ _ | with_reducible refine bl_set ?_ (by dsimp only; omega) _)); done)
  · rw [E2.out]
    have h1 := RO1.out
    rw [HCS.out, HX.out] at h1
    have h2 := own_ten h1 hc1 (.string e.nm) (.int .i64 e.v.k) (.bool e.v.b) (.int .i64 e.v.n) (.string e.v.s) (.slice a1 e.v.its.length b1) (.slice a2 e.v.ks.length b2) (.bool e.has) (.string e.st) (.slice a3 e.dr.length b3)
    refine ⟨_, by rw [List.length_set]; exact (Sl.of_own h2).mono (S' := fun x => S x ∨ S' x ∨ w.heap.size ≤ x) fun _ h => .inr (.inr (by omega)), ?_⟩
    rw [List.set_eq_take_append_cons_drop, if_pos hlt]
    have e1 := HR1.out.mono fun _ _ h => h.go (S' := fun x => S x ∨ S' x ∨ w.heap.size ≤ x) (kc_below hb) fun _ _ _ _ h _ => .inl h
    have e2 := HR2.out.mono fun _ _ h => h.go (S' := fun x => S x ∨ S' x ∨ w.heap.size ≤ x) (kc_below hb) fun _ _ _ _ h _ => .inl h
    rw [List.append_assoc]
    exact Rows.append e1 ⟨_, _, rfl, ⟨_, _, _, rfl, HC.out.go (kc_below hb) fun _ _ _ _ h _ => .inr (.inl h)⟩, e2⟩
end
end Go.Proofs.Ytbajghjdnjodmaa
