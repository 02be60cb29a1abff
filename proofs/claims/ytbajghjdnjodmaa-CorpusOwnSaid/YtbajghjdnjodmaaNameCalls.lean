/- Words of a text, in the document's way and in the corpus's: what their calls answer. -/
import Derived.Test.YtbajghjdnjodmaaBase
namespace Go.Proofs.Ytbajghjdnjodmaa
set_option linter.unusedVariables false
set_option linter.unusedSimpArgs false
open Go.RowKit
set_option maxHeartbeats 400000 in
theorem is_any (s : ByteArray) (i c : Int) (w : World) (h0 : 0 ≤ i) :
    Calls Try.prog 57 #[.string s, .int .i64 i, .int .u8 c] w fun e w' => e = .returned (.bool (isAt s i c)) ∧ w = w' := by
  by_cases h : i < s.size
  · have hb := bt_at s i
    have hr : isAt s i c = (bt s i == c) := by simp [isAt, h]
    rw [hr]
    go_enter Try.func57, Try.ntmps57
    go_wp2
    go_ret
    exact ⟨rfl, rfl⟩
  · have hr : isAt s i c = false := by simp [isAt]; omega
    rw [hr]
    go_enter Try.func57, Try.ntmps57
    go_wp2
    go_ret
    exact ⟨rfl, rfl⟩
set_option maxHeartbeats 400000 in
theorem blanks_any (s : ByteArray) (i : Int) (w : World) (h0 : 0 ≤ i) (hs : s.size ≤ 9223372036854775807) :
    Calls Try.prog 45 #[.string s, .int .i64 i] w fun e w' => e = .returned (.int .i64 (blanks s i)) ∧ w = w' := by
  go_enter Try.func45, Try.ntmps45
  go_wp2
  go_loop [1] (fun t => ∃ j : Int, 0 ≤ j ∧ t = .int .i64 j ∧ Hid (blanks s i = blanks s j)) (fun t => s.size - (intOf t).toNat)
  case atStart => exact ⟨i, h0, rfl, Lib.hid rfl⟩
  case round =>
    obtain ⟨j, hj, rfl, H⟩ := hrel
    have hlt : isBlank s j = true → j < s.size := isBlank_lt
    have h1 : isBlank s j = true → blanks s j = blanks s (j + 1) := fun h => upTo_step hj h (isBlank_lt h)
    have h2 : isBlank s j = false → blanks s j = j := upTo_stop
    unfold isBlank at hlt h1 h2
    cases b1 : isAt s j 32 <;> cases b2 : isAt s j 9 <;> cases b3 : isAt s j 10 <;> cases b4 : isAt s j 13
    all_goals
      simp only [b1, b2, b3, b4, Bool.or_true, Bool.or_false, true_imp_iff, reduceCtorEq, false_imp_iff] at hlt h1 h2
    all_goals
      first
      | (have H2 := Lib.hid (H.out.trans h2); clear h1 h2 H hlt
         go_wp2_with (first | (go_at_call 57; refine (is_any _ _ _ _ (by omega)).mono ?_; rintro e w' ⟨rfl, rfl⟩))
         go_ret
         exact ⟨ret_i64 H2.out.symm, rfl⟩)
      | (have H2 := Lib.hid (H.out.trans h1); clear h1 h2 H
         go_wp2_with (first | (go_at_call 57; refine (is_any _ _ _ _ (by omega)).mono ?_; rintro e w' ⟨rfl, rfl⟩))
         go_round
         case rel => exact ⟨j + 1, by omega, rfl, H2⟩
         case measure => simp [intOf]; omega)
set_option maxHeartbeats 400000 in
theorem letter_any (s : ByteArray) (i : Int) (w : World) (h0 : 0 ≤ i) :
    Calls Try.prog 46 #[.string s, .int .i64 i] w fun e w' => e = .returned (.bool (letterAt s i)) ∧ w = w' := by
  have hb := bt_at s i
  have Hr : Hid (letterAt s i = (decide (i < s.size) && letterB (bt s i))) := Lib.hid rfl
  generalize letterAt s i = r at *
  by_cases h : i < s.size
  · go_enter Try.func46, Try.ntmps46
    go_wp2
    all_goals
      go_ret
      exact ⟨ret_bool (by rw [Hr.out, Bool.eq_iff_iff]; simp [letterB]; omega), rfl⟩
  · go_enter Try.func46, Try.ntmps46
    go_wp2
    go_ret
    exact ⟨ret_bool (by rw [Hr.out, Bool.eq_iff_iff]; simp [letterB]; omega), rfl⟩
set_option maxHeartbeats 400000 in
theorem digit8_any (s : ByteArray) (i : Int) (w : World) (h0 : 0 ≤ i) :
    Calls Try.prog 58 #[.string s, .int .i64 i] w fun e w' => e = .returned (.bool (digitAt s i)) ∧ w = w' := by
  have hb := bt_at s i
  have Hr : Hid (digitAt s i = (decide (i < s.size) && digitB (bt s i))) := Lib.hid rfl
  generalize digitAt s i = r at *
  by_cases h : i < s.size
  · go_enter Try.func58, Try.ntmps58
    go_wp2
    all_goals
      go_ret
      exact ⟨ret_bool (by rw [Hr.out, Bool.eq_iff_iff]; simp [digitB]; omega), rfl⟩
  · go_enter Try.func58, Try.ntmps58
    go_wp2
    go_ret
    exact ⟨ret_bool (by rw [Hr.out, Bool.eq_iff_iff]; simp [digitB]; omega), rfl⟩
set_option maxHeartbeats 400000 in
theorem goes_any (s : ByteArray) (i : Int) (w : World) (h0 : 0 ≤ i) :
    Calls Try.prog 47 #[.string s, .int .i64 i] w fun e w' => e = .returned (.bool (goesAt s i)) ∧ w = w' := by
  have hb := bt_at s i
  have Hr : Hid (goesAt s i = (letterAt s i || (digitAt s i || (decide (i < s.size) && (bt s i == 95))))) := Lib.hid rfl
  generalize goesAt s i = r at *
  by_cases h : i < s.size
  all_goals
    cases h1 : letterAt s i <;> cases h2 : digitAt s i
    all_goals
      go_enter Try.func47, Try.ntmps47
      go_wp2_with (first | (go_at_call 46; refine (letter_any _ _ _ (by omega)).mono ?_; rintro e w' ⟨rfl, rfl⟩) | (go_at_call 58; refine (digit8_any _ _ _ (by omega)).mono ?_; rintro e w' ⟨rfl, rfl⟩))
      go_ret
      exact ⟨ret_bool (by rw [Hr.out, Bool.eq_iff_iff]; simp [h1, h2, h]; try omega), rfl⟩
/-- The word behind a place and blanks, and the place behind it. -/
def wordAt (s : ByteArray) (i : Int) : ByteArray := if letterAt s (blanks s i) then s.extract (blanks s i).toNat (wordEnd s (blanks s i)).toNat else ⟨#[]⟩
def wordAtEnd (s : ByteArray) (i : Int) : Int := if letterAt s (blanks s i) then wordEnd s (blanks s i) else i
set_option maxHeartbeats 400000 in
theorem word_any (s : ByteArray) (i : Int) (w : World) (h0 : 0 ≤ i) (hs : s.size ≤ 9223372036854775807) :
    Calls Try.prog 30 #[.string s, .int .i64 i] w fun e w' => e = .returned (.tuple #[.string (wordAt s i), .int .i64 (wordAtEnd s i)]) ∧ w = w' := by
  have hg : 0 ≤ blanks s i := Int.le_trans h0 upTo_ge
  have Hr : Hid (wordAt s i = if letterAt s (blanks s i) then s.extract (blanks s i).toNat (wordEnd s (blanks s i)).toNat else ⟨#[]⟩) := Lib.hid rfl
  have Hr2 : Hid (wordAtEnd s i = if letterAt s (blanks s i) then wordEnd s (blanks s i) else i) := Lib.hid rfl
  generalize wordAt s i = r at *
  generalize wordAtEnd s i = r2 at *
  cases h1 : letterAt s (blanks s i)
  · have Hn := Lib.hid h1
    go_enter Try.func30, Try.ntmps30
    go_wp2_with (first | (go_at_call 45; refine (blanks_any _ _ _ (by omega) ‹_›).mono ?_; rintro e w' ⟨rfl, rfl⟩) | (go_at_call 46; refine (letter_any _ _ _ (by omega)).mono ?_; rintro e w' ⟨rfl, rfl⟩))
    go_ret2
    exact ⟨ret2 (congrArg Value.string (by rw [Hr.out, Hn.out]; simp)) (congrArg (Value.int .i64) (by rw [Hr2.out, Hn.out]; simp)), rfl⟩
  · have Hn := Lib.hid h1
    have hl := letterAt_lt h1
    go_enter Try.func30, Try.ntmps30
    go_wp2_with (first | (go_at_call 45; refine (blanks_any _ _ _ (by omega) ‹_›).mono ?_; rintro e w' ⟨rfl, rfl⟩) | (go_at_call 46; refine (letter_any _ _ _ (by omega)).mono ?_; rintro e w' ⟨rfl, rfl⟩))
    generalize hb : blanks s i = b at *
    go_loop [7] (fun t => ∃ j : Int, b ≤ j ∧ j ≤ s.size ∧ t = .int .i64 j ∧ Hid (wordEnd s b = wordEnd s j)) (fun t => s.size - (intOf t).toNat)
    case atStart => exact ⟨b, by omega, by omega, rfl, Lib.hid rfl⟩
    case round =>
      obtain ⟨j, hj, hj2, rfl, H⟩ := hrel
      cases h3 : goesAt s j
      · have H2 := Lib.hid (H.out.trans (upTo_stop h3))
        clear hb H
        go_wp2_with (first | (go_at_call 47; refine (goes_any _ _ _ (by omega)).mono ?_; rintro e w' ⟨rfl, rfl⟩))
        go_ret2
        exact ⟨ret2 (congrArg Value.string (by rw [Hr.out, if_pos Hn.out, H2.out])) (congrArg (Value.int .i64) (by rw [Hr2.out, if_pos Hn.out, H2.out])), rfl⟩
      · have hl := goesAt_lt h3
        have H2 := Lib.hid (H.out.trans (upTo_step (by omega) h3 hl))
        clear hb H
        go_wp2_with (first | (go_at_call 47; refine (goes_any _ _ _ (by omega)).mono ?_; rintro e w' ⟨rfl, rfl⟩))
        go_round
        case rel => exact ⟨j + 1, by omega, by omega, rfl, H2⟩
        case measure => simp [intOf]; omega
end Go.Proofs.Ytbajghjdnjodmaa
