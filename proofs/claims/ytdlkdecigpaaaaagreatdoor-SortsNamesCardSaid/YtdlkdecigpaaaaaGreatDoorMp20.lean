/- The document's number: where it ends, whether it is plain. -/
import Derived.Deep.CutRange
import Derived.Test.YtdlkdecigpaaaaaGreatDoorMp8
import Derived.Test.YtdlkdecigpaaaaaGreatDoorMp7
namespace Go.Proofs.YtdlkdecigpaaaaaGreatDoor
set_option linter.unusedVariables false
set_option linter.unusedSimpArgs false
open Go.RowKit

set_option maxRecDepth 20000 in
set_option maxHeartbeats 4000000 in
theorem number5_any (s : ByteArray) (i : Int) (w : World) (h0 : 0 ≤ i) (hi : i ≤ s.size) (hs : s.size ≤ 1000000) :
    Calls Tryz.prog 126 #[.string s, .int .i64 i] w fun e w' => e = .returned (numV (numberF s i)) ∧ w = w' := by
  have HR : Hid (numberF s i = if digitAt s (signEnd s i) then numberD s (wholeEnd s (signEnd s i)) else (signEnd s i, false, false)) := Lib.hid rfl
  generalize numberF s i = r at *
  have HI := Lib.hid (fun (j c : Int) (h : 0 ≤ j) => is5_any s j c w h)
  have HD := Lib.hid (fun (j : Int) (h : 0 ≤ j) => digit5_any s j w h)
  go_enter Tryz.func126, Tryz.ntmps126
  go_upto_if 10 with (go_at_call 56; refine (HI.out i 45 h0).mono ?_; rintro e w' ⟨rfl, rfl⟩)
  go_cut [1] (fun a wx => a = .int .i64 (signEnd s i) ∧ w = wx)
  case first =>
    cases hm : isAt s i 45 with
    | true =>
      have HE : Hid (signEnd s i = i + 1) := Lib.hid (by rw [signEnd, if_pos hm])
      go_wp2
      go_meet
      case rel => exact ⟨by rw [HE.out], rfl⟩
    | false =>
      have HE : Hid (signEnd s i = i) := Lib.hid (by rw [signEnd, hm]; rfl)
      go_wp2
      go_meet
      case rel => exact ⟨by rw [HE.out], rfl⟩
  case rest =>
    obtain ⟨rfl, rfl⟩ := hcut
    have ha0 : 0 ≤ signEnd s i := by unfold signEnd; split <;> omega
    have HD2 := HD.out (signEnd s i) ha0
    generalize signEnd s i = a at *
    cases hd : digitAt s a with
    | false =>
      rw [hd] at HD2
      have HDx := Lib.hid HD2
      have HRR : Hid (r = (a, false, false)) := Lib.hid (by rw [HR.out, hd]; rfl)
      clear HR hd HD2
      go_wp2_with (go_at_call 125; refine (HDx.out).mono ?_; rintro e w' ⟨rfl, rfl⟩)
      go_ret3
      exact ⟨by rw [HRR.out]; rfl, rfl⟩
    | true =>
      rw [hd] at HD2
      have HDx := Lib.hid HD2
      have HRR : Hid (r = numberD s (wholeEnd s a)) := Lib.hid (by rw [HR.out, if_pos hd])
      have hal := digitAt_lt hd
      have HDE := Lib.hid (digits5_any s a w ha0 (by omega) hd)
      have hba := bt_at s a
      have han : a.toNat < s.size := by omega
      clear HR HD2
      have hbn : 0 ≤ wholeEnd s a ∧ wholeEnd s a ≤ s.size := by
        unfold wholeEnd
        have := digitsEnd_le ha0 (Int.le_of_lt hal)
        have := digitsEnd_ge (s := s) (i := a)
        split <;> omega
      have Hhd := Lib.hid hd
      clear hd
      go_upto_if 21 with (go_at_call 125; refine (HDx.out).mono ?_; rintro e w' ⟨rfl, rfl⟩)
      go_cut [1] (fun a' wx => a' = .int .i64 (wholeEnd s a) ∧ w = wx)
      case first =>
        by_cases h48 : bt s a = 48
        · have h48b : (bt s a == 48) = true := by simp [h48]
          have HE : Hid (wholeEnd s a = a + 1) := Lib.hid (by rw [wholeEnd, if_pos h48])
          go_wp2
          go_meet
          case rel => exact ⟨by rw [HE.out], rfl⟩
        · have h48b : (bt s a == 48) = false := by simp [h48]
          have HE : Hid (wholeEnd s a = digitsEnd s a) := Lib.hid (by rw [wholeEnd, if_neg h48])
          go_wp2_with (go_at_call 147; refine (HDE.out).mono ?_; rintro e w' ⟨rfl, rfl⟩)
          go_meet
          case rel => exact ⟨by rw [HE.out], rfl⟩
      case rest =>
        obtain ⟨rfl, rfl⟩ := hcut
        clear HDx HDE hba han
        obtain ⟨hb0, hbs⟩ := hbn
        generalize wholeEnd s a = b at *
        go_upto_if 29 with (go_at_call 56; refine (HI.out b 46 hb0).mono ?_; rintro e w' ⟨rfl, rfl⟩)
        go_cut [1, 7] (fun c' p' wx => ∃ (c : Int) (pl : Bool), c' = .int .i64 c ∧ p' = .bool pl ∧ 0 ≤ c ∧ c ≤ s.size ∧ Hid (r = numberE s c pl) ∧ w = wx)
        case first =>
          cases hdot : isAt s b 46 with
          | false =>
            have HE : Hid (r = numberE s b true) := Lib.hid (by rw [HRR.out, numberD, hdot]; rfl)
            go_wp2
            go_meet
            case rel => exact ⟨b, true, rfl, rfl, hb0, hbs, HE, rfl⟩
          | true =>
            have HN := Lib.hid (HRR.out.trans (by rw [numberD, if_pos hdot]))
            have hD1 := HD.out (b + 1) (by omega)
            have hbl := isAt_lt hdot
            cases hd1 : digitAt s (b + 1) with
            | false =>
              rw [hd1] at hD1
              have HDx := Lib.hid hD1
              have HE : Hid (r = (b + 1, false, false)) := Lib.hid (by rw [HN.out, hd1]; rfl)
              clear hD1 hd1
              go_wp2_with (go_at_call 125; refine (HDx.out).mono ?_; rintro e w' ⟨rfl, rfl⟩)
              go_ret3
              exact ⟨by rw [HE.out]; rfl, rfl⟩
            | true =>
              rw [hd1] at hD1
              have HDx := Lib.hid hD1
              have hdl := digitAt_lt hd1
              have HE : Hid (r = numberE s (digitsEnd s (b + 1)) false) := Lib.hid (by rw [HN.out, if_pos hd1])
              have HDE := Lib.hid (digits5_any s (b + 1) w (by omega) (by omega) hd1)
              have hc1 := digitsEnd_le (s := s) (i := b + 1) (by omega) (by omega)
              have hc0 := digitsEnd_ge (s := s) (i := b + 1)
              clear hD1 hd1
              go_wp2_with (first | (go_at_call 125; refine (HDx.out).mono ?_; rintro e w' ⟨rfl, rfl⟩) | (go_at_call 147; refine (HDE.out).mono ?_; rintro e w' ⟨rfl, rfl⟩))
              go_meet
              case rel => exact ⟨digitsEnd s (b + 1), false, rfl, rfl, by omega, hc1, HE, rfl⟩
        case rest =>
          obtain ⟨c, pl, rfl, rfl, hc0, hcs, HRE, rfl⟩ := hcut
          clear HRR hb0 hbs
          have HDS := Lib.hid (fun (j : Int) (h : 0 ≤ j) (hd : digitAt s j = true) => digits5_any s j w h (by omega) hd)
          have HN : Hid (r = if isAt s c 101 || isAt s c 69 then (if digitAt s (expSign s (c + 1)) then (digitsEnd s (expSign s (c + 1)), false, true) else (expSign s (c + 1), false, false)) else (c, pl, true)) := Lib.hid HRE.out
          clear HRE
          cases h1 : isAt s c 101 with
          | true =>
            have HN2 := Lib.hid (HN.out.trans (by rw [h1]; try rfl))
            have hcl : c < s.size := isAt_lt h1
            cases hp : isAt s (c + 1) 43 with
            | true =>
              have hsl := isAt_lt hp
              have HX : Hid (expSign s (c + 1) = c + 1 + 1) := Lib.hid (by simp [expSign, hp])
              cases hd : digitAt s (c + 1 + 1) with
              | true =>
                have HZ : Hid (r = (digitsEnd s (c + 1 + 1), false, true)) := Lib.hid (by rw [HN2.out, HX.out, hd]; rfl)
                go_wp2_with (first | (go_at_call 56; refine (HI.out _ _ (by omega)).mono ?_; rintro e w' ⟨rfl, rfl⟩) | (go_at_call 125; refine (HD.out _ (by omega)).mono ?_; rintro e w' ⟨rfl, rfl⟩) | (go_at_call 147; refine (HDS.out _ (by omega) (by assumption)).mono ?_; rintro e w' ⟨rfl, rfl⟩))
                go_ret3
                exact ⟨by rw [HZ.out]; rfl, rfl⟩
              | false =>
                have HZ : Hid (r = (c + 1 + 1, false, false)) := Lib.hid (by rw [HN2.out, HX.out, hd]; rfl)
                go_wp2_with (first | (go_at_call 56; refine (HI.out _ _ (by omega)).mono ?_; rintro e w' ⟨rfl, rfl⟩) | (go_at_call 125; refine (HD.out _ (by omega)).mono ?_; rintro e w' ⟨rfl, rfl⟩))
                go_ret3
                exact ⟨by rw [HZ.out]; rfl, rfl⟩
            | false =>
              cases hq : isAt s (c + 1) 45 with
              | true =>
                have hsl := isAt_lt hq
                have HX : Hid (expSign s (c + 1) = c + 1 + 1) := Lib.hid (by simp [expSign, hp, hq])
                cases hd : digitAt s (c + 1 + 1) with
                | true =>
                  have HZ : Hid (r = (digitsEnd s (c + 1 + 1), false, true)) := Lib.hid (by rw [HN2.out, HX.out, hd]; rfl)
                  go_wp2_with (first | (go_at_call 56; refine (HI.out _ _ (by omega)).mono ?_; rintro e w' ⟨rfl, rfl⟩) | (go_at_call 125; refine (HD.out _ (by omega)).mono ?_; rintro e w' ⟨rfl, rfl⟩) | (go_at_call 147; refine (HDS.out _ (by omega) (by assumption)).mono ?_; rintro e w' ⟨rfl, rfl⟩))
                  go_ret3
                  exact ⟨by rw [HZ.out]; rfl, rfl⟩
                | false =>
                  have HZ : Hid (r = (c + 1 + 1, false, false)) := Lib.hid (by rw [HN2.out, HX.out, hd]; rfl)
                  go_wp2_with (first | (go_at_call 56; refine (HI.out _ _ (by omega)).mono ?_; rintro e w' ⟨rfl, rfl⟩) | (go_at_call 125; refine (HD.out _ (by omega)).mono ?_; rintro e w' ⟨rfl, rfl⟩))
                  go_ret3
                  exact ⟨by rw [HZ.out]; rfl, rfl⟩
              | false =>
                have HX : Hid (expSign s (c + 1) = c + 1) := Lib.hid (by simp [expSign, hp, hq])
                cases hd : digitAt s (c + 1) with
                | true =>
                  have HZ : Hid (r = (digitsEnd s (c + 1), false, true)) := Lib.hid (by rw [HN2.out, HX.out, hd]; rfl)
                  go_wp2_with (first | (go_at_call 56; refine (HI.out _ _ (by omega)).mono ?_; rintro e w' ⟨rfl, rfl⟩) | (go_at_call 125; refine (HD.out _ (by omega)).mono ?_; rintro e w' ⟨rfl, rfl⟩) | (go_at_call 147; refine (HDS.out _ (by omega) (by assumption)).mono ?_; rintro e w' ⟨rfl, rfl⟩))
                  go_ret3
                  exact ⟨by rw [HZ.out]; rfl, rfl⟩
                | false =>
                  have HZ : Hid (r = (c + 1, false, false)) := Lib.hid (by rw [HN2.out, HX.out, hd]; rfl)
                  go_wp2_with (first | (go_at_call 56; refine (HI.out _ _ (by omega)).mono ?_; rintro e w' ⟨rfl, rfl⟩) | (go_at_call 125; refine (HD.out _ (by omega)).mono ?_; rintro e w' ⟨rfl, rfl⟩))
                  go_ret3
                  exact ⟨by rw [HZ.out]; rfl, rfl⟩
          | false =>
            cases h2 : isAt s c 69 with
            | true =>
              have HN2 := Lib.hid (HN.out.trans (by rw [h2, Bool.or_true]; try rfl))
              have hcl : c < s.size := isAt_lt h2
              cases hp : isAt s (c + 1) 43 with
              | true =>
                have hsl := isAt_lt hp
                have HX : Hid (expSign s (c + 1) = c + 1 + 1) := Lib.hid (by simp [expSign, hp])
                cases hd : digitAt s (c + 1 + 1) with
                | true =>
                  have HZ : Hid (r = (digitsEnd s (c + 1 + 1), false, true)) := Lib.hid (by rw [HN2.out, HX.out, hd]; rfl)
                  go_wp2_with (first | (go_at_call 56; refine (HI.out _ _ (by omega)).mono ?_; rintro e w' ⟨rfl, rfl⟩) | (go_at_call 125; refine (HD.out _ (by omega)).mono ?_; rintro e w' ⟨rfl, rfl⟩) | (go_at_call 147; refine (HDS.out _ (by omega) (by assumption)).mono ?_; rintro e w' ⟨rfl, rfl⟩))
                  go_ret3
                  exact ⟨by rw [HZ.out]; rfl, rfl⟩
                | false =>
                  have HZ : Hid (r = (c + 1 + 1, false, false)) := Lib.hid (by rw [HN2.out, HX.out, hd]; rfl)
                  go_wp2_with (first | (go_at_call 56; refine (HI.out _ _ (by omega)).mono ?_; rintro e w' ⟨rfl, rfl⟩) | (go_at_call 125; refine (HD.out _ (by omega)).mono ?_; rintro e w' ⟨rfl, rfl⟩))
                  go_ret3
                  exact ⟨by rw [HZ.out]; rfl, rfl⟩
              | false =>
                cases hq : isAt s (c + 1) 45 with
                | true =>
                  have hsl := isAt_lt hq
                  have HX : Hid (expSign s (c + 1) = c + 1 + 1) := Lib.hid (by simp [expSign, hp, hq])
                  cases hd : digitAt s (c + 1 + 1) with
                  | true =>
                    have HZ : Hid (r = (digitsEnd s (c + 1 + 1), false, true)) := Lib.hid (by rw [HN2.out, HX.out, hd]; rfl)
                    go_wp2_with (first | (go_at_call 56; refine (HI.out _ _ (by omega)).mono ?_; rintro e w' ⟨rfl, rfl⟩) | (go_at_call 125; refine (HD.out _ (by omega)).mono ?_; rintro e w' ⟨rfl, rfl⟩) | (go_at_call 147; refine (HDS.out _ (by omega) (by assumption)).mono ?_; rintro e w' ⟨rfl, rfl⟩))
                    go_ret3
                    exact ⟨by rw [HZ.out]; rfl, rfl⟩
                  | false =>
                    have HZ : Hid (r = (c + 1 + 1, false, false)) := Lib.hid (by rw [HN2.out, HX.out, hd]; rfl)
                    go_wp2_with (first | (go_at_call 56; refine (HI.out _ _ (by omega)).mono ?_; rintro e w' ⟨rfl, rfl⟩) | (go_at_call 125; refine (HD.out _ (by omega)).mono ?_; rintro e w' ⟨rfl, rfl⟩))
                    go_ret3
                    exact ⟨by rw [HZ.out]; rfl, rfl⟩
                | false =>
                  have HX : Hid (expSign s (c + 1) = c + 1) := Lib.hid (by simp [expSign, hp, hq])
                  cases hd : digitAt s (c + 1) with
                  | true =>
                    have HZ : Hid (r = (digitsEnd s (c + 1), false, true)) := Lib.hid (by rw [HN2.out, HX.out, hd]; rfl)
                    go_wp2_with (first | (go_at_call 56; refine (HI.out _ _ (by omega)).mono ?_; rintro e w' ⟨rfl, rfl⟩) | (go_at_call 125; refine (HD.out _ (by omega)).mono ?_; rintro e w' ⟨rfl, rfl⟩) | (go_at_call 147; refine (HDS.out _ (by omega) (by assumption)).mono ?_; rintro e w' ⟨rfl, rfl⟩))
                    go_ret3
                    exact ⟨by rw [HZ.out]; rfl, rfl⟩
                  | false =>
                    have HZ : Hid (r = (c + 1, false, false)) := Lib.hid (by rw [HN2.out, HX.out, hd]; rfl)
                    go_wp2_with (first | (go_at_call 56; refine (HI.out _ _ (by omega)).mono ?_; rintro e w' ⟨rfl, rfl⟩) | (go_at_call 125; refine (HD.out _ (by omega)).mono ?_; rintro e w' ⟨rfl, rfl⟩))
                    go_ret3
                    exact ⟨by rw [HZ.out]; rfl, rfl⟩
            | false =>
              have HN2 : Hid (r = (c, pl, true)) := Lib.hid (by rw [HN.out, h1, h2]; rfl)
              go_wp2_with (go_at_call 56; refine (HI.out _ _ (by omega)).mono ?_; rintro e w' ⟨rfl, rfl⟩)
              go_ret3
              exact ⟨by rw [HN2.out]; rfl, rfl⟩
end Go.Proofs.YtdlkdecigpaaaaaGreatDoor
