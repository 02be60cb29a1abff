/- The document's escape of layer 5. -/
import Derived.Test.YtlnmjpacagimnaaDoorTok2
import Derived.Test.YtlnmjpacagimnaaDoorRefA
namespace Go.Proofs.YtlnmjpacagimnaaDoor
set_option linter.unusedVariables false
set_option linter.unusedSimpArgs false
open Go.RowKit

def lettersS : ByteArray := ⟨#[34, 92, 47, 98, 102, 110, 114, 116]⟩
def pointsS : ByteArray := ⟨#[34, 92, 47, 8, 12, 10, 13, 9]⟩
theorem letters_bt : ∀ p : Nat, p < 8 → bt lettersS p = ([34, 92, 47, 98, 102, 110, 114, 116] : List Int).getD p 0 ∧ bt pointsS p = escV (bt lettersS p) ∧ 0 ≤ bt pointsS p ∧ bt pointsS p ≤ 92 := by decide +kernel
/-- No letter among the first so many. -/
def noneBefore (c : Int) (p : Nat) : Prop := ∀ q, q < p → bt lettersS q ≠ c
theorem esc_none {c : Int} (h : noneBefore c 8) : escV c = -1 := by
  have h0 := h 0 (by omega); have h1 := h 1 (by omega); have h2 := h 2 (by omega); have h3 := h 3 (by omega)
  have h4 := h 4 (by omega); have h5 := h 5 (by omega); have h6 := h 6 (by omega); have h7 := h 7 (by omega)
  rw [(letters_bt _ (by omega)).1] at h0 h1 h2 h3 h4 h5 h6 h7
  simp only [List.getD_cons_zero, List.getD_cons_succ] at h0 h1 h2 h3 h4 h5 h6 h7
  unfold escV
  rw [if_neg (Ne.symm h0), if_neg (Ne.symm h1), if_neg (Ne.symm h2), if_neg (Ne.symm h3), if_neg (Ne.symm h4), if_neg (Ne.symm h5), if_neg (Ne.symm h6), if_neg (Ne.symm h7)]
theorem esc_step {s : ByteArray} {i : Int} {p : Nat} (hp : p < 8) :
    (isAt s (i + 1) (bt lettersS p) = true → escAt s (i + 1) = bt pointsS p ∧ 0 ≤ bt pointsS p) ∧
    (isAt s (i + 1) (bt lettersS p) = false → (i + 1 < s.size → noneBefore (bt s (i + 1)) p) → (i + 1 < s.size → noneBefore (bt s (i + 1)) (p + 1))) := by
  obtain ⟨h1, h2, h3, h4⟩ := letters_bt p hp
  constructor
  · intro h
    simp only [isAt, Bool.and_eq_true, decide_eq_true_eq, beq_iff_eq] at h
    rw [escAt, if_pos h.1, h.2, h2]
    exact ⟨rfl, by rw [← h2]; exact h3⟩
  · intro h H hlt q hq
    by_cases e : q = p
    · subst e
      simp only [isAt, hlt, decide_true, Bool.true_and, beq_eq_false_iff_ne] at h
      exact fun x => h x.symm
    · exact H hlt q (by omega)
theorem esc_end {s : ByteArray} {i : Int} (H : i + 1 < s.size → noneBefore (bt s (i + 1)) 8) : escAt s (i + 1) = -1 := by
  unfold escAt
  split
  · rename_i h; exact esc_none (H h)
  · rfl
theorem escape_def (s : ByteArray) (i : Int) : escape s i =
  if 0 ≤ escAt s (i + 1) then (escAt s (i + 1), i + 2, 0)
  else if isAt s (i + 1) 117 = false then (0, i + 1, 1)
  else if (four s (i + 2)).1 < 0 then (0, (four s (i + 2)).2, 1)
  else if pointB (four s (i + 2)).1 then ((four s (i + 2)).1, (four s (i + 2)).2, 0)
  else if (four s (i + 2)).1 < 56320 ∧ isAt s (four s (i + 2)).2 92 = true ∧ isAt s ((four s (i + 2)).2 + 1) 117 = true ∧ 56320 ≤ (four s ((four s (i + 2)).2 + 2)).1 ∧ (four s ((four s (i + 2)).2 + 2)).1 ≤ 57343 then
    (65536 + ((four s (i + 2)).1 - 55296) * 1024 + (four s ((four s (i + 2)).2 + 2)).1 - 56320, (four s ((four s (i + 2)).2 + 2)).2, 0)
  else (0, i, 3) := rfl
set_option maxRecDepth 20000 in
set_option maxHeartbeats 4000000 in
theorem escape5_any (s : ByteArray) (i : Int) (w : World) (h0 : 0 ≤ i) (hs : s.size ≤ 4611686018427387904) (hi : i < s.size) :
    Calls Tryd.prog 47 #[.string s, .int .i64 i] w fun e w' => e = .returned (.tuple #[.int .i64 (escape s i).1, .int .i64 (escape s i).2.1, .int .i64 (escape s i).2.2]) ∧ w = w' := by
  have HE := Lib.hid (escape_def s i)
  generalize escape s i = r at *
  go_enter Tryd.func47, Tryd.ntmps47
  go_wp2
  go_loop [9] (fun t => ∃ p : Nat, p ≤ 8 ∧ t = .int .i64 p ∧ Hid (i + 1 < s.size → noneBefore (bt s (i + 1)) p)) (fun t => 8 - (intOf t).toNat)
  case atStart => exact ⟨0, by omega, rfl, Lib.hid (fun _ q hq => by omega)⟩
  case round =>
    obtain ⟨p, hp, rfl, H⟩ := hrel
    by_cases hlt : p < 8
    · have hs1 := bt_nat lettersS p
      have hs2 := bt_nat pointsS p
      unfold lettersS at hs1
      unfold pointsS at hs2
      have hI : (p : Int) < 8 := by omega
      have HT := Lib.hid (esc_step (s := s) (i := i) hlt)
      have hpr := (letters_bt p hlt).2.2
      have hc1 := is5_any s (i + 1) (bt lettersS p) w (by omega)
      unfold lettersS at hc1
      unfold pointsS at hpr
      generalize hq1 : bt ⟨#[34, 92, 47, 98, 102, 110, 114, 116]⟩ (p : Int) = q1 at *
      generalize hq2 : bt ⟨#[34, 92, 47, 8, 12, 10, 13, 9]⟩ (p : Int) = q2 at *
      have HT2 : Hid ((isAt s (i + 1) q1 = true → escAt s (i + 1) = q2 ∧ 0 ≤ q2) ∧ (isAt s (i + 1) q1 = false → (i + 1 < s.size → noneBefore (bt s (i + 1)) p) → (i + 1 < s.size → noneBefore (bt s (i + 1)) (p + 1)))) := by rw [← hq1, ← hq2]; exact HT
      clear HT hq1 hq2
      cases h1 : isAt s (i + 1) q1
      · rw [h1] at hc1
        have HC1 := Lib.hid hc1
        have HN := Lib.hid (HT2.out.2 h1 H.out)
        clear h1 hc1 HT2
        go_wp2_with fail
        refine HC1.out.mono ?_
        rintro e w' ⟨rfl, rfl⟩
        go_wp2_with fail
        go_round
        case rel => exact ⟨p + 1, by omega, by go_num, HN⟩
        case measure => simp [intOf]; omega
      · rw [h1] at hc1
        have HC1 := Lib.hid hc1
        have HN := Lib.hid (HT2.out.1 h1)
        clear h1 hc1 HT2
        go_wp2_with fail
        refine HC1.out.mono ?_
        rintro e w' ⟨rfl, rfl⟩
        go_wp2_with fail
        go_ret3
        rw [HE.out, if_pos (by rw [HN.out.1]; exact HN.out.2), HN.out.1]
        exact ⟨rfl, rfl⟩
    · obtain rfl : p = 8 := by omega
      have he := esc_end H.out
      have HE2 := Lib.hid (HE.out.trans (if_neg (by rw [he]; omega)))
      clear HE he H
      have hI : ¬ ((8 : Nat) : Int) < 8 := by omega
      rw [show ((8 : Nat) : Int) = 8 from rfl]
      clear hI
      have hc := is5_any s (i + 1) 117 w (by omega)
      have HF := Lib.hid (four5_any s (i + 2) w (by omega) (by omega))
      have hfr := four_range s (i + 2)
      cases h2 : isAt s (i + 1) 117
      · rw [h2] at hc
        have HC := Lib.hid hc
        have HR := Lib.hid (HE2.out.trans (if_pos h2))
        clear hc h2 HE2
        go_wp2_with (go_at_call 24; refine HC.out.mono ?_; rintro e w' ⟨rfl, rfl⟩)
        go_ret3
        rw [HR.out]
        exact ⟨rfl, rfl⟩
      · rw [h2] at hc
        have HC := Lib.hid hc
        have HE3 := Lib.hid (HE2.out.trans (if_neg (by rw [h2]; simp)))
        clear hc h2 HE2
        generalize four s (i + 2) = f at *
        obtain ⟨n, e1⟩ := f
        simp only at hfr HE3 HF
        obtain ⟨f1, f2, f3, f4⟩ := hfr
        by_cases c3 : n < 0
        · have HR := Lib.hid (HE3.out.trans (if_pos c3))
          go_wp2_with (first | (go_at_call 24; refine HC.out.mono ?_; rintro e w' ⟨rfl, rfl⟩) | (go_at_call 62; refine HF.out.mono ?_; rintro e w' ⟨rfl, rfl⟩))
          go_ret3
          rw [HR.out]
          exact ⟨rfl, rfl⟩
        · have HE4 := Lib.hid (HE3.out.trans (if_neg c3))
          have hri := ris_any n w
          cases c4 : pointB n
          · rw [c4] at hri
            have HI := Lib.hid hri
            have HE5 := Lib.hid (HE4.out.trans (if_neg (by rw [c4]; simp)))
            clear hri c4 HE4 HE3
            have hca := is5_any s e1 92 w (by omega)
            have hcb := is5_any s (e1 + 1) 117 w (by omega)
            have HG := Lib.hid (four5_any s (e1 + 2) w (by omega) (by omega))
            have hgr := four_range s (e1 + 2)
            generalize four s (e1 + 2) = f at *
            obtain ⟨low, e2⟩ := f
            simp only at hgr HE5 HG
            obtain ⟨g1, g2, g3, g4⟩ := hgr
            by_cases d1 : n < 56320
            · cases d2 : isAt s e1 92
              · rw [d2] at hca
                have HCA := Lib.hid hca
                have HR := Lib.hid (HE5.out.trans (if_neg (by rw [d2]; simp)))
                clear hca hcb d2 HE5
                go_wp2_with fail
                refine HC.out.mono ?_; rintro e w' ⟨rfl, rfl⟩
                go_wp2_with fail
                refine HF.out.mono ?_; rintro e w' ⟨rfl, rfl⟩
                go_wp2_with fail
                refine HI.out.mono ?_; rintro e w' ⟨rfl, rfl⟩
                go_wp2_with fail
                refine HCA.out.mono ?_; rintro e w' ⟨rfl, rfl⟩
                go_wp2_with fail
                go_ret3
                rw [HR.out]
                exact ⟨rfl, rfl⟩
              · rw [d2] at hca
                have HCA := Lib.hid hca
                cases d3 : isAt s (e1 + 1) 117
                · rw [d3] at hcb
                  have HCB := Lib.hid hcb
                  have HR := Lib.hid (HE5.out.trans (if_neg (by rw [d3]; simp)))
                  clear hca hcb d2 d3 HE5
                  go_wp2_with fail
                  refine HC.out.mono ?_; rintro e w' ⟨rfl, rfl⟩
                  go_wp2_with fail
                  refine HF.out.mono ?_; rintro e w' ⟨rfl, rfl⟩
                  go_wp2_with fail
                  refine HI.out.mono ?_; rintro e w' ⟨rfl, rfl⟩
                  go_wp2_with fail
                  refine HCA.out.mono ?_; rintro e w' ⟨rfl, rfl⟩
                  go_wp2_with fail
                  refine HCB.out.mono ?_; rintro e w' ⟨rfl, rfl⟩
                  go_wp2_with fail
                  go_ret3
                  rw [HR.out]
                  exact ⟨rfl, rfl⟩
                · rw [d3] at hcb
                  have HCB := Lib.hid hcb
                  by_cases d4 : 56320 ≤ low ∧ low ≤ 57343
                  · have HR := Lib.hid (HE5.out.trans (if_pos ⟨d1, d2, d3, d4.1, d4.2⟩))
                    obtain ⟨d5, d6⟩ := d4
                    clear hca hcb d2 d3 HE5
                    go_wp2_with fail
                    refine HC.out.mono ?_; rintro e w' ⟨rfl, rfl⟩
                    go_wp2_with fail
                    refine HF.out.mono ?_; rintro e w' ⟨rfl, rfl⟩
                    go_wp2_with fail
                    refine HI.out.mono ?_; rintro e w' ⟨rfl, rfl⟩
                    go_wp2_with fail
                    refine HCA.out.mono ?_; rintro e w' ⟨rfl, rfl⟩
                    go_wp2_with fail
                    refine HCB.out.mono ?_; rintro e w' ⟨rfl, rfl⟩
                    go_wp2_with fail
                    refine HG.out.mono ?_; rintro e w' ⟨rfl, rfl⟩
                    go_wp2_with fail
                    go_ret3
                    rw [HR.out]
                    exact ⟨rfl, rfl⟩
                  · have HR := Lib.hid (HE5.out.trans (if_neg (by rintro ⟨_, _, _, x, y⟩; exact d4 ⟨x, y⟩)))
                    clear hca hcb d2 d3 HE5
                    by_cases d5 : 56320 ≤ low
                    all_goals
                      go_wp2_with fail
                      refine HC.out.mono ?_; rintro e w' ⟨rfl, rfl⟩
                      go_wp2_with fail
                      refine HF.out.mono ?_; rintro e w' ⟨rfl, rfl⟩
                      go_wp2_with fail
                      refine HI.out.mono ?_; rintro e w' ⟨rfl, rfl⟩
                      go_wp2_with fail
                      refine HCA.out.mono ?_; rintro e w' ⟨rfl, rfl⟩
                      go_wp2_with fail
                      refine HCB.out.mono ?_; rintro e w' ⟨rfl, rfl⟩
                      go_wp2_with fail
                      refine HG.out.mono ?_; rintro e w' ⟨rfl, rfl⟩
                      have d6 : 56320 ≤ low → 57343 < low := by omega
                      go_wp2_with fail
                      all_goals
                        first
                        | (exfalso; omega)
                        | (go_ret3; rw [HR.out]; exact ⟨rfl, rfl⟩)
            · have HR := Lib.hid (HE5.out.trans (if_neg (by omega)))
              clear hca hcb HE5
              go_wp2_with fail
              refine HC.out.mono ?_; rintro e w' ⟨rfl, rfl⟩
              go_wp2_with fail
              refine HF.out.mono ?_; rintro e w' ⟨rfl, rfl⟩
              go_wp2_with fail
              refine HI.out.mono ?_; rintro e w' ⟨rfl, rfl⟩
              go_wp2_with fail
              go_ret3
              rw [HR.out]
              exact ⟨rfl, rfl⟩
          · rw [c4] at hri
            have HI := Lib.hid hri
            have HR := Lib.hid (HE4.out.trans (if_pos c4))
            clear hri c4 HE4 HE3
            go_wp2_with (first | (go_at_call 24; refine HC.out.mono ?_; rintro e w' ⟨rfl, rfl⟩) | (go_at_call 62; refine HF.out.mono ?_; rintro e w' ⟨rfl, rfl⟩) | (go_at_call 17; refine HI.out.mono ?_; rintro e w' ⟨rfl, rfl⟩))
            go_ret3
            rw [HR.out]
            exact ⟨rfl, rfl⟩
end Go.Proofs.YtlnmjpacagimnaaDoor
