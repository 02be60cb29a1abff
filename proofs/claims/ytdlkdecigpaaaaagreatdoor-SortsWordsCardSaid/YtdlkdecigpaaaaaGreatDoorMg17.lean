/- The document's numbers: Parse. -/
import Derived.Test.YtdlkdecigpaaaaaGreatDoorMg16
namespace Go.Proofs.YtdlkdecigpaaaaaGreatDoor
set_option linter.unusedVariables false
set_option linter.unusedSimpArgs false
open Go.RowKit

theorem bt_extract (s : ByteArray) (a j : Nat) (h : a + j < s.size) : bt (s.extract a s.size) (j : Int) = bt s ((a + j : Nat) : Int) := by
  have h1 : j < (s.extract a s.size).size := by rw [ByteArray.size_extract]; omega
  rw [← bt_nat (s.extract a s.size) j h1, ← bt_nat s (a + j) h, ByteArray.getElem_extract]
theorem digits_all {s : ByteArray} {f : Nat} (h : digitsEnd s f = s.size) (hf : f ≤ s.size) : AllDig (s.extract f s.size) := by
  intro j hj
  rw [ByteArray.size_extract] at hj
  have := upTo_mem (p := digitAt s) (n := s.size) (i := f) (j := ((f + j : Nat) : Int)) (by omega) (by rw [show upTo (digitAt s) s.size f = digitsEnd s f from rfl, h]; omega)
  rw [bt_extract s f j (by omega)]
  simp only [digitAt, digitB, Bool.and_eq_true, decide_eq_true_eq] at this
  exact this.2
theorem form_dig {s : ByteArray} (h : formB s = true) : (isAt s 0 45 = false ∧ 1 ≤ s.size ∧ AllDig s) ∨ (isAt s 0 45 = true ∧ 2 ≤ s.size ∧ AllDig (s.extract 1 s.size)) := by
  cases h45 : isAt s 0 45 with
  | false =>
    rw [form_pos h45] at h
    simp only [Bool.and_eq_true, decide_eq_true_eq] at h
    refine .inl ⟨rfl, by omega, ?_⟩
    have := digits_all (f := 0) h.2 (by omega)
    simpa using this
  | true =>
    rw [form_neg h45] at h
    simp only [Bool.and_eq_true, decide_eq_true_eq] at h
    have := isAt_lt h45
    exact .inr ⟨rfl, by omega, digits_all (f := 1) h.2 (by omega)⟩
def numZ (s : ByteArray) : Int := if isAt s 0 45 then -tenN (s.extract 1 s.size) (s.extract 1 s.size).size else tenN s s.size
def zeroN : Value := .agg #[.bool false, .slice none 0 0]
set_option maxRecDepth 20000 in
set_option maxHeartbeats 2000000 in
theorem parse5_form (s : ByteArray) (w : World) (hs : s.size ≤ 5000) (hf : formB s = false) :
    Calls Tryz.prog 127 #[.string s] w fun e w' => e = .returned (.tuple #[zeroN, .int .i64 1]) ∧ Below w.heap.size w w' := by
  have HF := Lib.hid (hf ▸ form_any s w (by omega))
  have HF2 := Lib.hid (fun w => (hf ▸ form_any s w (by omega) : Calls Tryz.prog 148 #[.string s] w fun e w' => e = .returned (.bool false) ∧ w = w'))
  clear hf HF
  go_enter Tryz.func127, Tryz.ntmps127
  go_wp2_with (go_at_call 148; refine (HF2.out _).mono ?_; rintro e w' ⟨rfl, rfl⟩)
  have cr := cell_blk (new_blk w (.cells #[.bool false, .slice none 0 0] 155))
  exact bodyPost_ret (v := .tuple #[zeroN, .int .i64 1]) (by simp [results, Tryz.results127, go_sem, cr, zeroN]) rfl ⟨rfl, bl_alloc (Below.refl _ _) _⟩
/-- The number's two blocks in Parse: the result's, the number's. -/
theorem tenZ (s : ByteArray) (hs : s.size ≤ 5000) (hd : AllDig s) : (tenN s s.size).natAbs < (10000 : Int) ^ (s.size + 5) := by
  have := tenN_range hd s.size (Nat.le_refl _)
  have := pow_mono (show s.size ≤ s.size + 5 by omega)
  omega
set_option maxRecDepth 20000 in
set_option maxHeartbeats 4000000 in
theorem parse5_num (s : ByteArray) (w : World) (hs : s.size ≤ 5000) (hf : formB s = true) :
    Calls Tryz.prog 127 #[.string s] w fun e w' => ∃ v, e = .returned (.tuple #[v, .int .i64 (if fitsB (numZ s) then 0 else 4)]) ∧ (if fitsB (numZ s) then NumV w' v (numZ s) else v = zeroN) ∧ Below w.heap.size w w' := by
  have HF2 := Lib.hid (fun w => (hf ▸ form_any s w (by omega) : Calls Tryz.prog 148 #[.string s] w fun e w' => e = .returned (.bool true) ∧ w = w'))
  have hb0 : ∀ h : 0 < s.size, ((s[0]'h).toNat : Int) = bt s 0 := fun h => bt_at s 0 h
  rcases form_dig hf with ⟨h45, hs1, hd⟩ | ⟨h45, hs1, hd⟩
  · have hz : numZ s = tenN s s.size := by rw [numZ, h45]; rfl
    have hbz : (bt s 0 == 45) = false := by have := h45; simp [isAt] at this; simp; exact this (by omega)
    have HNUM := Lib.hid (fun w => hz ▸ number_any s w hs hd)
    have hf2 := (fun (W : World) (v : Value) (h : NumV W v (numZ s)) => fits_any v (numZ s) (s.size + 5) W h (by rw [hz]; exact tenZ s hs hd) (by omega) (by omega))
    have hs0 : 0 < s.size := by omega
    clear hf hd hz
    generalize numZ s = z at *
    cases hfit : fitsB z with
    | true =>
      have HFIT := Lib.hid (hfit ▸ hf2)
      clear hf2
      go_enter Tryz.func127, Tryz.ntmps127
      go_upto_region 4 with (go_at_call 148; refine (HF2.out _).mono ?_; rintro e w' ⟨rfl, rfl⟩)
      refine abs_world (F := NumBox #[.bool false, .slice none 0 0] w) (numBox w) ?_
      intro wr hbx
      have HX := Lib.hid hbx
      clear hbx
      go_wp2_with (first | (go_at_call 150; refine (HNUM.out _).mono ?_; rintro e w1 ⟨v1, rfl, hn1, hb1⟩; have HN1 := Lib.hid hn1; obtain ⟨q1, A1, n1, k1, rfl⟩ := hn1.shape; have HX1 := Lib.hid (HX.out.step hb1); have c1 := cell_blk HX1.out.2.1; have f1 := frozen_blk HX1.out.2.1; clear hn1 hb1) | (go_at_call 151; refine (HFIT.out _ _ (num_set HN1.out HX1.out.2.1)).mono ?_; rintro e w2 ⟨rfl, hb2⟩; have HX2 := Lib.hid ((NumBox.turn HX1.out).step hb2); have HN2 := Lib.hid ((num_set HN1.out HX1.out.2.1).below hb2); have c2 := cell_blk HX2.out.2.1; have d2 := cell_blk HX2.out.1; have e2 := frozen_blk HX2.out.1; clear hb2))
      have cr := cell_blk (set_to (set_to HX2.out.1 0 (.bool q1) rfl) 1 (.slice A1 n1 k1) rfl)
      exact bodyPost_ret (v := .tuple #[.agg #[.bool q1, .slice A1 n1 k1], .int .i64 0]) (by simp [results, Tryz.results127, go_sem, cr]) rfl ⟨_, rfl, num_set HN2.out HX2.out.1, bl_set (bl_set HX2.out.2.2 (by simp) _) (by simp) _⟩
    | false =>
      have HFIT := Lib.hid (hfit ▸ hf2)
      clear hf2
      go_enter Tryz.func127, Tryz.ntmps127
      go_upto_region 4 with (go_at_call 148; refine (HF2.out _).mono ?_; rintro e w' ⟨rfl, rfl⟩)
      refine abs_world (F := NumBox #[.bool false, .slice none 0 0] w) (numBox w) ?_
      intro wr hbx
      have HX := Lib.hid hbx
      clear hbx
      go_wp2_with (first | (go_at_call 150; refine (HNUM.out _).mono ?_; rintro e w1 ⟨v1, rfl, hn1, hb1⟩; have HN1 := Lib.hid hn1; obtain ⟨q1, A1, n1, k1, rfl⟩ := hn1.shape; have HX1 := Lib.hid (HX.out.step hb1); have c1 := cell_blk HX1.out.2.1; have f1 := frozen_blk HX1.out.2.1; clear hn1 hb1) | (go_at_call 151; refine (HFIT.out _ _ (num_set HN1.out HX1.out.2.1)).mono ?_; rintro e w2 ⟨rfl, hb2⟩; have HX2 := Lib.hid ((NumBox.turn HX1.out).step hb2); have HN2 := Lib.hid ((num_set HN1.out HX1.out.2.1).below hb2); have c2 := cell_blk HX2.out.2.1; have d2 := cell_blk HX2.out.1; have e2 := frozen_blk HX2.out.1; clear hb2))
      have cr := cell_blk (set_to (set_to HX2.out.1 0 (.bool false) rfl) 1 (.slice none 0 0) rfl)
      exact bodyPost_ret (v := .tuple #[zeroN, .int .i64 4]) (by simp [results, Tryz.results127, go_sem, cr, zeroN]) rfl ⟨_, rfl, rfl, bl_set (bl_set HX2.out.2.2 (by simp) _) (by simp) _⟩
  · have hz : numZ s = -tenN (s.extract 1 s.size) (s.extract 1 s.size).size := by rw [numZ, h45]; rfl
    have hs0 : 0 < s.size := by omega
    have hbz : (bt s 0 == 45) = true := by have := h45; simp [isAt] at this; simp; exact this.2
    have hx : (s.extract 1 s.size).size ≤ 5000 := by rw [ByteArray.size_extract]; omega
    have HNUM := Lib.hid (fun w => number_any (s.extract 1 s.size) w hx hd)
    have hten := tenZ (s.extract 1 s.size) hx hd
    have HNEG := Lib.hid (fun (W : World) (v : Value) (h : NumV W v (tenN (s.extract 1 s.size) (s.extract 1 s.size).size)) => hz ▸ neg_any v _ _ W h hten (by omega))
    have hf2 := (fun (W : World) (v : Value) (h : NumV W v (numZ s)) => fits_any v (numZ s) ((s.extract 1 s.size).size + 5) W h (by rw [hz, Int.natAbs_neg]; exact hten) (by omega) (by omega))
    clear hf hd hz hten
    generalize numZ s = z at *
    cases hfit : fitsB z with
    | true =>
      have HFIT := Lib.hid (hfit ▸ hf2)
      clear hf2
      go_enter Tryz.func127, Tryz.ntmps127
      go_upto_region 4 with (go_at_call 148; refine (HF2.out _).mono ?_; rintro e w' ⟨rfl, rfl⟩)
      refine abs_world (F := NumBox #[.bool false, .slice none 0 0] w) (numBox w) ?_
      intro wr hbx
      have HX := Lib.hid hbx
      clear hbx
      go_wp2_with (first | (go_at_call 149; refine (HNEG.out _ _ HN1.out).mono ?_; rintro e w3 ⟨v3, rfl, hn3, hb3⟩; have HN3 := Lib.hid hn3; obtain ⟨q3, A3, n3, k3, rfl⟩ := hn3.shape; have HX3 := Lib.hid (HX1.out.step hb3); have c1 := cell_blk HX3.out.2.1; have f1 := frozen_blk HX3.out.2.1; clear hn3 hb3) | (go_at_call 150; refine (HNUM.out _).mono ?_; rintro e w1 ⟨v1, rfl, hn1, hb1⟩; have HN1 := Lib.hid hn1; obtain ⟨q1, A1, n1, k1, rfl⟩ := hn1.shape; have HX1 := Lib.hid (HX.out.step hb1); clear hn1 hb1) | (go_at_call 151; refine (HFIT.out _ _ (num_set HN3.out HX3.out.2.1)).mono ?_; rintro e w2 ⟨rfl, hb2⟩; have HX2 := Lib.hid ((NumBox.turn HX3.out).step hb2); have HN2 := Lib.hid ((num_set HN3.out HX3.out.2.1).below hb2); have c2 := cell_blk HX2.out.2.1; have d2 := cell_blk HX2.out.1; have e2 := frozen_blk HX2.out.1; clear hb2))
      have cr := cell_blk (set_to (set_to HX2.out.1 0 (.bool q3) rfl) 1 (.slice A3 n3 k3) rfl)
      exact bodyPost_ret (v := .tuple #[.agg #[.bool q3, .slice A3 n3 k3], .int .i64 0]) (by simp [results, Tryz.results127, go_sem, cr]) rfl ⟨_, rfl, num_set HN2.out HX2.out.1, bl_set (bl_set HX2.out.2.2 (by simp) _) (by simp) _⟩
    | false =>
      have HFIT := Lib.hid (hfit ▸ hf2)
      clear hf2
      go_enter Tryz.func127, Tryz.ntmps127
      go_upto_region 4 with (go_at_call 148; refine (HF2.out _).mono ?_; rintro e w' ⟨rfl, rfl⟩)
      refine abs_world (F := NumBox #[.bool false, .slice none 0 0] w) (numBox w) ?_
      intro wr hbx
      have HX := Lib.hid hbx
      clear hbx
      go_wp2_with (first | (go_at_call 149; refine (HNEG.out _ _ HN1.out).mono ?_; rintro e w3 ⟨v3, rfl, hn3, hb3⟩; have HN3 := Lib.hid hn3; obtain ⟨q3, A3, n3, k3, rfl⟩ := hn3.shape; have HX3 := Lib.hid (HX1.out.step hb3); have c1 := cell_blk HX3.out.2.1; have f1 := frozen_blk HX3.out.2.1; clear hn3 hb3) | (go_at_call 150; refine (HNUM.out _).mono ?_; rintro e w1 ⟨v1, rfl, hn1, hb1⟩; have HN1 := Lib.hid hn1; obtain ⟨q1, A1, n1, k1, rfl⟩ := hn1.shape; have HX1 := Lib.hid (HX.out.step hb1); clear hn1 hb1) | (go_at_call 151; refine (HFIT.out _ _ (num_set HN3.out HX3.out.2.1)).mono ?_; rintro e w2 ⟨rfl, hb2⟩; have HX2 := Lib.hid ((NumBox.turn HX3.out).step hb2); have HN2 := Lib.hid ((num_set HN3.out HX3.out.2.1).below hb2); have c2 := cell_blk HX2.out.2.1; have d2 := cell_blk HX2.out.1; have e2 := frozen_blk HX2.out.1; clear hb2))
      have cr := cell_blk (set_to (set_to HX2.out.1 0 (.bool false) rfl) 1 (.slice none 0 0) rfl)
      exact bodyPost_ret (v := .tuple #[zeroN, .int .i64 4]) (by simp [results, Tryz.results127, go_sem, cr, zeroN]) rfl ⟨_, rfl, rfl, bl_set (bl_set HX2.out.2.2 (by simp) _) (by simp) _⟩
end Go.Proofs.YtdlkdecigpaaaaaGreatDoor
