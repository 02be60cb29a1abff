/- Whether a text is a name: what the corpus's call and the document's call answer. -/
import Derived.Test.YtbajghjdnjodmaaNameCalls
namespace Go.Proofs.Ytbajghjdnjodmaa
set_option linter.unusedVariables false
set_option linter.unusedSimpArgs false
open Go.RowKit

/-- A name: a letter, and letters, digits and _ behind it. -/
def isNameB (s : ByteArray) : Bool := letterAt s 0 && (wordEnd s 0 == s.size)

theorem letterAt_at {s : ByteArray} {i : Int} (h : i < s.size) : letterAt s i = letterB (bt s i) := by simp [letterAt, h]
theorem goesAt_at {s : ByteArray} {i : Int} (h : i < s.size) : goesAt s i = (letterB (bt s i) || (digitB (bt s i) || (bt s i == 95))) := by simp [goesAt, letterAt, digitAt, isAt, h]

theorem isNameB_first {s : ByteArray} (h : letterAt s 0 = false) : isNameB s = false := by simp [isNameB, h]
theorem isNameB_stop {s : ByteArray} {j : Int} (hj : j < s.size) (h : wordEnd s 0 = wordEnd s j) (hg : goesAt s j = false) : isNameB s = false := by
  have : wordEnd s j = j := upTo_stop hg
  simp [isNameB, h, this]; intro _; omega
theorem isNameB_end {s : ByteArray} (h : wordEnd s 0 = wordEnd s s.size) (hl : letterAt s 0 = true) : isNameB s = true := by
  have hn : goesAt s s.size = false := by
    cases hg : goesAt s s.size with
    | false => rfl
    | true => have := goesAt_lt hg; omega
  have : wordEnd s s.size = s.size := upTo_stop hn
  simp [isNameB, h, this, hl]
theorem isNameB_nil {s : ByteArray} (h : s.size = 0) : isNameB s = false := by simp [isNameB, letterAt, h]

theorem first_of {s : ByteArray} {j : Int} (hj : 0 ≤ j) (hl : j < s.size) (H : 0 < j → letterAt s 0 = true) (h : j = 0 → letterB (bt s j) = true) : letterAt s 0 = true := by
  by_cases e : j = 0
  · subst e; rw [letterAt_at hl]; exact h rfl
  · exact H (by omega)
set_option maxHeartbeats 1000000 in
theorem isname_any (s : ByteArray) (w : World) (hs : s.size ≤ 9223372036854775807) :
    Calls Try.prog 12 #[.string s] w fun e w' => e = .returned (.bool (isNameB s)) ∧ w = w' := by
  go_enter Try.func12, Try.ntmps12
  go_wp2
  go_loop [7] (fun t => ∃ j : Int, 0 ≤ j ∧ j ≤ s.size ∧ t = .int .i64 j ∧ Hid (wordEnd s 0 = wordEnd s j ∧ (0 < j → letterAt s 0 = true))) (fun t => s.size - (intOf t).toNat)
  case atStart => exact ⟨0, by omega, by omega, rfl, Lib.hid ⟨rfl, fun h => by omega⟩⟩
  case round =>
    obtain ⟨j, hj, hj2, rfl, H⟩ := hrel
    have hb := bt_at s j
    by_cases hl : j < s.size
    · have Hg : Hid (goesAt s j = true → wordEnd s 0 = wordEnd s (j + 1)) := Lib.hid fun h => H.out.1.trans (upTo_step hj h hl)
      have Hf : Hid (goesAt s j = false → isNameB s = false) := Lib.hid fun h => isNameB_stop hl H.out.1 h
      have Hz : Hid (j = 0 → letterAt s j = false → isNameB s = false) := Lib.hid fun e h => isNameB_first (e ▸ h)
      have Hl := Lib.hid (letterAt_at hl)
      have Hgo := Lib.hid (goesAt_at hl)
      cases hz : (j == 0)
      all_goals
        go_wp2
        all_goals
          first
          | (go_round
             case rel => exact ⟨j + 1, by omega, by omega, rfl, Lib.hid ⟨Hg.out (by rw [Hgo.out]; simp only [letterB, digitB]; go_light; clear hb; grind), fun _ => first_of hj hl H.out.2 (by simp only [letterB]; go_light; clear hb; grind)⟩⟩
             case measure => simp [intOf]; omega)
          | (go_ret; exact ⟨ret_bool (Hf.out (by rw [Hgo.out]; simp only [letterB, digitB]; go_light; clear hb; grind)).symm, rfl⟩)
          | (go_ret; exact ⟨ret_bool (Hz.out (by go_light; clear hb; grind) (by rw [Hl.out]; simp only [letterB]; go_light; clear hb; grind)).symm, rfl⟩)
    · have he : j = s.size := by omega
      have H2 : Hid ((s.size = 0 → isNameB s = false) ∧ (s.size ≠ 0 → isNameB s = true)) := Lib.hid ⟨isNameB_nil, fun h => isNameB_end (by rw [← he]; exact H.out.1) (H.out.2 (by omega))⟩
      clear he
      by_cases hz : s.size = 0
      · have e : s.toList = [] := toList_nil hz
        have H3 := Lib.hid (H2.out.1 hz)
        clear hz
        go_wp2
        go_ret
        exact ⟨ret_bool H3.out.symm, rfl⟩
      · have e : s.toList.isEmpty = false := toList_ne hz
        have H3 := Lib.hid (H2.out.2 hz)
        go_wp2
        go_ret
        exact ⟨ret_bool H3.out.symm, rfl⟩
end Go.Proofs.Ytbajghjdnjodmaa
