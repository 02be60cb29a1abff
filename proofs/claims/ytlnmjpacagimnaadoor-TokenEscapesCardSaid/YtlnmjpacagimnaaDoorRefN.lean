/- The document's Blanks. -/
import Derived.Test.YtlnmjpacagimnaaDoorRefA
import Derived.Test.YtlnmjpacagimnaaDoorNumber
import Derived.Test.YtlnmjpacagimnaaDoorTk
import Derived.Test.YtlnmjpacagimnaaDoorLexM
import Derived.Test.YtlnmjpacagimnaaDoorNext
namespace Go.Proofs.YtlnmjpacagimnaaDoor
set_option linter.unusedVariables false
set_option linter.unusedSimpArgs false
open Go.RowKit

set_option maxRecDepth 20000 in
set_option maxHeartbeats 2000000 in
theorem blanks5_any (s : ByteArray) (i : Int) (w : World) (h0 : 0 ≤ i) (hi : i ≤ s.size) (hs : s.size ≤ 1000000) :
    Calls Tryd.prog 13 #[.string s, .int .i64 i] w fun e w' => e = .returned (.int .i64 (blanks s i)) ∧ w = w' := by
  go_enter Tryd.func13, Tryd.ntmps13
  go_wp2
  go_loop [1] (fun t => ∃ j : Int, 0 ≤ j ∧ j ≤ s.size ∧ t = .int .i64 j ∧ Hid (blanks s i = blanks s j)) (fun t => s.size - (intOf t).toNat)
  case atStart => exact ⟨i, h0, hi, rfl, Lib.hid rfl⟩
  case round =>
    obtain ⟨j, hj, hjs, rfl, H⟩ := hrel
    have HI := Lib.hid (fun c => is5_any s j c w hj)
    have HB : Hid (isBlank s j = (isAt s j 32 || (isAt s j 9 || (isAt s j 10 || isAt s j 13)))) := Lib.hid rfl
    have HS := Lib.hid (fun (h : isBlank s j = true) (hl : j < s.size) => H.out.trans (upTo_step hj h hl))
    have HL := Lib.hid (fun c (h : isAt s j c = true) => isAt_lt h)
    cases c1 : isAt s j 32 with
    | true =>
      have HE := Lib.hid (HS.out (by rw [HB.out, c1]; rfl) (HL.out _ c1))
      have hl := HL.out _ c1
      go_wp2_with (go_at_call 24; refine (HI.out _).mono ?_; rintro e w' ⟨rfl, rfl⟩)
      go_round
      case rel => exact ⟨j + 1, by omega, by omega, rfl, HE⟩
      case measure => simp [intOf]; omega
    | false =>
      cases c2 : isAt s j 9 with
      | true =>
        have HE := Lib.hid (HS.out (by rw [HB.out, c1, c2]; rfl) (HL.out _ c2))
        have hl := HL.out _ c2
        go_wp2_with (go_at_call 24; refine (HI.out _).mono ?_; rintro e w' ⟨rfl, rfl⟩)
        go_round
        case rel => exact ⟨j + 1, by omega, by omega, rfl, HE⟩
        case measure => simp [intOf]; omega
      | false =>
        cases c3 : isAt s j 10 with
        | true =>
          have HE := Lib.hid (HS.out (by rw [HB.out, c1, c2, c3]; rfl) (HL.out _ c3))
          have hl := HL.out _ c3
          go_wp2_with (go_at_call 24; refine (HI.out _).mono ?_; rintro e w' ⟨rfl, rfl⟩)
          go_round
          case rel => exact ⟨j + 1, by omega, by omega, rfl, HE⟩
          case measure => simp [intOf]; omega
        | false =>
          cases c4 : isAt s j 13 with
          | true =>
            have HE := Lib.hid (HS.out (by rw [HB.out, c1, c2, c3, c4]; rfl) (HL.out _ c4))
            have hl := HL.out _ c4
            go_wp2_with (go_at_call 24; refine (HI.out _).mono ?_; rintro e w' ⟨rfl, rfl⟩)
            go_round
            case rel => exact ⟨j + 1, by omega, by omega, rfl, HE⟩
            case measure => simp [intOf]; omega
          | false =>
            have HE := Lib.hid (H.out.trans (upTo_stop (p := isBlank s) (by rw [HB.out, c1, c2, c3, c4]; rfl)))
            go_wp2_with (go_at_call 24; refine (HI.out _).mono ?_; rintro e w' ⟨rfl, rfl⟩)
            go_ret
            exact ⟨ret_i64 HE.out.symm, rfl⟩
end Go.Proofs.YtlnmjpacagimnaaDoor
