/- The parser's key; how many parts a call has; literals. -/
import Derived.Test.YtdlkdecigpaaaaaGreatDoorMg34
namespace Go.Proofs.YtdlkdecigpaaaaaGreatDoor
set_option linter.unusedVariables false
set_option linter.unusedSimpArgs false
open Go.RowKit

theorem tl_beq (t : ByteArray) (l : List UInt8) : (t.toList == l) = decide (t = ⟨l.toArray⟩) := by
  rw [Bool.eq_iff_iff, beq_iff_eq, decide_eq_true_iff, ByteArray.toList_eq]
  constructor
  · intro h; rw [← h]
  · intro h; rw [h]
set_option maxRecDepth 20000 in
set_option maxHeartbeats 4000000 in
theorem earity_any (t : ByteArray) (w : World) : Calls Tryz.prog 52 #[.string t] w fun e w' => e = .returned (.int .i64 (argsN t)) ∧ w = w' := by
  have H : Hid (argsN t = if t = lenS ∨ t = sumS ∨ t = minS ∨ t = maxS ∨ t = allS ∨ t = anyS ∨ t = keysS then 1 else if t = hasS ∨ t = countS ∨ t = startsS ∨ t = endsS ∨ t = joinS then 2 else 0) := Lib.hid (by simp [argsN, memL_iff, oneL, twoL])
  generalize argsN t = r at *
  go_enter Tryz.func52, Tryz.ntmps52
  go_wp2
  all_goals
    go_ret
    refine ⟨ret_i64 ?_, rfl⟩
    have h2 := H.out
    clear H
    simp_all [tl_beq]
set_option maxRecDepth 20000 in
set_option maxHeartbeats 400000 in
theorem vnumber_any (n : Int) (w : World) : Calls Tryz.prog 39 #[.int .i64 n] w fun e w' => e = .returned (.agg #[.int .i64 2, .bool false, .int .i64 n, .string eS, .slice none 0 0, .slice none 0 0]) ∧ Keeps [] w w' := by
  go_enter Tryz.func39, Tryz.ntmps39
  go_wp2
  refine bodyPost_ret (v := .agg #[.int .i64 2, .bool false, .int .i64 n, .string eS, .slice none 0 0, .slice none 0 0]) (by simp [results, Tryz.results39, go_sem]) rfl ⟨rfl, (Keeps.refl _ _).alloc _⟩
set_option maxRecDepth 20000 in
set_option maxHeartbeats 400000 in
theorem vtruth_any (b : Bool) (w : World) : Calls Tryz.prog 185 #[.bool b] w fun e w' => e = .returned (.agg #[.int .i64 1, .bool b, .int .i64 0, .string eS, .slice none 0 0, .slice none 0 0]) ∧ Keeps [] w w' := by
  go_enter Tryz.func185, Tryz.ntmps185
  go_wp2
  refine bodyPost_ret (v := .agg #[.int .i64 1, .bool b, .int .i64 0, .string eS, .slice none 0 0, .slice none 0 0]) (by simp [results, Tryz.results185, go_sem]) rfl ⟨rfl, (Keeps.refl _ _).alloc _⟩
set_option maxRecDepth 20000 in
set_option maxHeartbeats 400000 in
theorem vtext_any (t : ByteArray) (w : World) : Calls Tryz.prog 183 #[.string t] w fun e w' => e = .returned (.agg #[.int .i64 3, .bool false, .int .i64 0, .string t, .slice none 0 0, .slice none 0 0]) ∧ Keeps [] w w' := by
  go_enter Tryz.func183, Tryz.ntmps183
  go_wp2
  refine bodyPost_ret (v := .agg #[.int .i64 3, .bool false, .int .i64 0, .string t, .slice none 0 0, .slice none 0 0]) (by simp [results, Tryz.results183, go_sem]) rfl ⟨rfl, (Keeps.refl _ _).alloc _⟩
set_option maxRecDepth 20000 in
set_option maxHeartbeats 400000 in
theorem eliteral_any (k n : Int) (b : Bool) (s : ByteArray) (a1 a2 : Option Addr) (n1 c1 n2 c2 : Nat) (w : World) : Calls Tryz.prog 182 #[.agg #[.int .i64 k, .bool b, .int .i64 n, .string s, .slice a1 n1 c1, .slice a2 n2 c2]] w fun e w' => e = .returned (.agg #[.string litS, .string eS, .int .i64 k, .bool b, .int .i64 n, .string s, .slice a1 n1 c1, .slice a2 n2 c2, .slice none 0 0]) ∧ Keeps [] w w' := by
  go_enter Tryz.func182, Tryz.ntmps182
  go_wp2
  refine bodyPost_ret (v := .agg #[.string litS, .string eS, .int .i64 k, .bool b, .int .i64 n, .string s, .slice a1 n1 c1, .slice a2 n2 c2, .slice none 0 0]) (by simp [results, Tryz.results182, go_sem]) rfl ⟨rfl, ((Keeps.refl _ _).alloc _).alloc _⟩
section
variable (s : ByteArray) (i pl : Int) (g : Nat) (w : World)
set_option maxRecDepth 20000 in
set_option maxHeartbeats 2000000 in
theorem ekey_word (h : PAt s i pl 0 g w) (h0 : 0 ≤ i) (h1 : i ≤ s.size) (hs : s.size ≤ 1000000) (hw : wordAt s i ≠ eS) :
    Calls Tryz.prog 179 #[.pointer (some ⟨g, 0, none⟩)] w fun e w' => e = .returned (.string (wordAt s i)) ∧ PAt s (wordAtEnd s i) pl 0 g w' ∧ Keeps [g] w w' := by
  have gc := cell_blk h
  have gf := frozen_blk h
  have HP := Lib.hid h
  have HW := Lib.hid (eword_any s i pl 0 g w h h0 h1 hs)
  have HA := Lib.hid (fun n => eahead_any s i pl 0 g (w.drewN n) (pat_drewN h n) h0 hs)
  have hq0 := blanks_ge0 s i h0
  have hq1 := blanks_le h0 h1
  have HE : Hid (wordAtEnd s i = blanks s i + (wordAt s i).size) := Lib.hid (by
    have hm := word_mark h0 rfl hw
    rw [← hm.2]; exact mark_val hm.1)
  have hpos := word_pos h0 hw
  have hsz : blanks s i + (wordAt s i).size ≤ s.size := by have := HE.out; omega
  have hne : (wordAt s i).toList.isEmpty = false := toList_ne (fun h => hw (by cases hx : wordAt s i with | mk d => rw [hx] at h; simp only [ByteArray.size] at h; rw [show d = #[] from Array.eq_empty_of_size_eq_zero h]))
  generalize wordAt s i = t at *
  generalize wordAtEnd s i = e1 at *
  generalize blanks s i = q at *
  have hwr : IntKind.i64.wrap (q + (t.size : Int)) = q + (t.size : Int) := by rw [IntKind.wrap_i64]; omega
  clear h hw
  go_enter Tryz.func179, Tryz.ntmps179
  go_wp2_with (first
    | (go_at_call 57; refine HW.out.mono ?_; rintro e w' ⟨rfl, n, rfl⟩)
    | (go_at_call 46; refine (HA.out _).mono ?_; rintro e w' ⟨rfl, rfl⟩))
  go_ret
  rw [HE.out]
  exact ⟨rfl, pat_at (pat_drewN HP.out _), ((Keeps.refl _ _).drewN _).set (.inl (by simp)) _⟩
end
end Go.Proofs.YtdlkdecigpaaaaaGreatDoor
