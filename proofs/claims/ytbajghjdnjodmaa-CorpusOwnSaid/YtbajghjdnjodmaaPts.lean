/- Whether a text is one: some answer; a text, or "a". -/
import Derived.Test.YtbajghjdnjodmaaFirstC
import Derived.Test.YtbajghjdnjodmaaVAt
namespace Go.Proofs.Ytbajghjdnjodmaa
set_option linter.unusedVariables false
set_option linter.unusedSimpArgs false
open Go.RowKit

theorem first_step {s : ByteArray} {i : Int} : (first s i).2 = 0 ∨ (1 ≤ (first s i).2 ∧ (first s i).2 ≤ 4 ∧ i + (first s i).2 ≤ s.size) := by
  have ho : ∀ k : Nat, okAt s i k = true → i + k ≤ s.size := by
    intro k h
    simp only [okAt, Bool.and_eq_true, decide_eq_true_eq] at h
    exact h.1
  unfold first
  split
  · rename_i h; have := ho 1 h; exact .inr ⟨by simp, by simp, by simpa using this⟩
  · split
    · rename_i h; have := ho 2 h; exact .inr ⟨by simp, by simp, by simpa using this⟩
    · split
      · rename_i h; have := ho 3 h; exact .inr ⟨by simp, by simp, by simpa using this⟩
      · split
        · rename_i h; have := ho 4 h; exact .inr ⟨by simp, by simp, by simpa using this⟩
        · exact .inl rfl
def PtsSays (w : World) (e : Ending) (w' : World) : Prop := ∃ A n c r, e = .returned (.tuple #[.slice A n c, .int .i64 r]) ∧ Below w.heap.size w w'
set_option maxRecDepth 20000 in
set_option maxHeartbeats 4000000 in
theorem points_some (s : ByteArray) (w : World) (hs : s.size ≤ 1000000) :
    Calls Try.prog 63 #[.string s] w (PtsSays w) := by
  go_enter Try.func63, Try.ntmps63
  go_wp2
  go_loopw [4, 5] (fun vs p W => ∃ (i : Int) (acc : List Int) (v : Value), v = vs ∧ p = .int .i64 i ∧ 0 ≤ i ∧ i ≤ s.size ∧ Hid (W.ownsRow w.heap.size 3 1 v acc.length (acc.map (Value.int .i64)) ∧ Below w.heap.size w W ∧ (acc.length : Int) ≤ i)) (fun _ p _ => s.size - (intOf p).toNat)
  case atStart => exact ⟨0, [], _, rfl, rfl, by omega, by omega, Lib.hid ⟨World.ownsRow_nil _ _ _ _, Below.refl _ _, by simp⟩⟩
  case round =>
    obtain ⟨i, acc, v, rfl, rfl, hi0, hi1, H⟩ := hrel
    obtain ⟨A, cp, rfl⟩ := own_slice H.out.1
    by_cases hlt : i < s.size
    · have HF := Lib.hid (first_any s i wr hi0 (by omega) (by omega))
      have HFR := Lib.hid (first_step (s := s) (i := i))
      have HFEW := Lib.hid H.out.2.2
      generalize first s i = x at *
      obtain ⟨n, m⟩ := x
      simp only at HFR
      go_wp2_with fail
      refine HF.out.mono ?_
      rintro e' w2 ⟨rfl, hb2⟩
      have HB2 := Lib.hid (bl_step H.out.2.1 hb2)
      have HO2 := Lib.hid (own_below H.out.1 hb2)
      clear hb2 HF
      by_cases hm : m = 0
      · have hmb : (m == 0) = true := by simp [hm]
        clear hm HFR
        go_wp2
        go_ret2
        exact ⟨_, _, _, _, rfl, HB2.out⟩
      · have hmb : (m == 0) = false := by simp [hm]
        have ho : 1 ≤ m ∧ m ≤ 4 ∧ i + m ≤ s.size := by have := HFR.out; omega
        obtain ⟨o1, o2, o3⟩ := ho
        clear hm HFR
        have hfew := HFEW.out
        go_wp2_with (at_builtin; refine wpList_append_sl rfl _ _ _ rfl rfl elem_i (v := .slice A acc.length cp) (base := w.heap.size) (S := fun _ => True) (x := .slice (some ⟨w2.heap.size, 0, none⟩) 1 1) rfl rfl (HO2.out.alloc _) (Sl.one_of (new_blk _ _) trivial rfl) (by exact one_int [n]) (by unfold maxLen; omega) (by omega) (by have := HB2.out.size; simp; omega) ?_; intro v' w3 ho hg hb; obtain ⟨vA, vc, hv⟩ := own_slice ho; subst hv; have HN := Lib.hid ho; have HB3 : Hid (Below w.heap.size w w3) := Lib.hid ((bl_alloc HB2.out _).grown hg (by have := HB2.out.size; simp; omega) (fun k e => (HO2.out.lt k e).1)); clear ho hg hb)
        go_roundw
        case rel => exact ⟨i + m, acc ++ [n], _, rfl, by go_num, by omega, o3, Lib.hid ⟨by have := HN.out; rw [List.length_append]; simpa using this, HB3.out, by simp; omega⟩⟩
        case measure => simp [intOf]; omega
    · go_wp2
      go_ret2
      exact ⟨_, _, _, _, rfl, H.out.2.1⟩
set_option maxHeartbeats 1000000 in
theorem valid_some (s : ByteArray) (w : World) (hs : s.size ≤ 1000000) :
    Calls Try.prog 59 #[.string s] w fun e w' => ∃ b, e = .returned (.bool b) ∧ Below w.heap.size w w' := by
  have HP := Lib.hid (points_some s w hs)
  go_enter Try.func59, Try.ntmps59
  go_wp2_with fail
  refine HP.out.mono ?_
  rintro e' w1 ⟨A, n, c, r, rfl, hb⟩
  have HB := Lib.hid hb
  clear hb
  go_wp2
  go_ret
  exact ⟨_, rfl, HB.out⟩
set_option maxHeartbeats 1000000 in
theorem text_some (s : ByteArray) (w : World) (hs : s.size ≤ maxLen) :
    Calls Try.prog 48 #[.string s] w fun e w' => ∃ t, e = .returned (.string t) ∧ t.size ≤ 60 ∧ Below w.heap.size w w' := by
  by_cases hl : (60 : Int) < s.size
  · go_enter Try.func48, Try.ntmps48
    go_wp2
    go_ret
    exact ⟨_, rfl, by decide, Below.refl _ _⟩
  · have HV := Lib.hid (valid_some s w (by omega))
    go_enter Try.func48, Try.ntmps48
    go_wp2_with fail
    refine HV.out.mono ?_
    rintro e' w1 ⟨b, rfl, hb⟩
    have HB := Lib.hid hb
    clear hb
    cases b
    all_goals
      go_wp2
      go_ret
      exact ⟨_, rfl, (by first | omega | decide), HB.out⟩
end Go.Proofs.Ytbajghjdnjodmaa
