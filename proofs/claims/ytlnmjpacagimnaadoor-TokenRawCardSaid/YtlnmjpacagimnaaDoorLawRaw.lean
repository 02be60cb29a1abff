/- TokenRaw: a text in quotation marks is one Str of it. -/
import Derived.Test.YtlnmjpacagimnaaDoorPoints
namespace Go.Proofs.YtlnmjpacagimnaaDoor
set_option linter.unusedVariables false
set_option linter.unusedSimpArgs false
open Go.RowKit

set_option maxRecDepth 20000 in
set_option maxHeartbeats 4000000 in
theorem raw_any (s : ByteArray) (w : World) (hv : VarOk w) (hs63 : s.size ≤ 140737488351232) :
    Calls Tryd.prog 7 #[.string s] w fun e w' => e = .returned (.bool true) ∧ Below w.heap.size w w' := by
  have HW := Lib.hid (fun W (h : VarOk W) => awake_any W h)
  have HV := Lib.hid hv
  have HK := Lib.hid (fun W (hb : Below w.heap.size w W) => HV.out.keeps (Keeps.below (S := []) hb) (by simp))
  clear hv
  have HW0 := Lib.hid (HW.out w HV.out)
  by_cases hs : s.size ≤ 300
  · have hgt : ¬ (300 : Int) < s.size := by omega
    go_enter Tryd.func7, Tryd.ntmps7
    go_wp2_with fail
    refine HW0.out.mono ?_
    rintro e' w1 ⟨rfl, hb1⟩
    have HB1 := Lib.hid hb1
    have HVA := Lib.hid (valid_any s w1 (by omega))
    clear hb1
    go_wp2_with fail
    refine HVA.out.mono ?_
    rintro e' w2 ⟨rfl, hb2⟩
    have HB2 := Lib.hid (bl_step HB1.out hb2)
    have HW2 := Lib.hid (HW.out w2 (HK.out w2 HB2.out))
    clear hb2 HVA
    cases hve : (vEnd s == (s.size : Int)) with
    | false =>
      go_wp2_with fail
      refine HW2.out.mono ?_
      rintro e' w3 ⟨rfl, hb3⟩
      have HB3 := Lib.hid (bl_step HB2.out hb3)
      clear hb3
      go_wp2
      go_ret
      exact ⟨rfl, HB3.out⟩
    | true =>
      have HVE : Hid (vEnd s = s.size) := Lib.hid (by simpa using hve)
      clear hve
      go_wp2
      go_loop [3] (fun p => ∃ j : Nat, j ≤ s.size ∧ p = .int .i64 j ∧ Hid (∀ k : Nat, k < j → 32 ≤ bt s k ∧ ¬ bt s k = 34 ∧ ¬ bt s k = 92)) (fun p => s.size - (intOf p).toNat)
      case atStart => exact ⟨0, by omega, rfl, Lib.hid (fun k h => by omega)⟩
      case round =>
        obtain ⟨j, hj, rfl, H⟩ := hrel
        by_cases hlt : j < s.size
        · have hjI : (j : Int) < s.size := by omega
          have hb := bt_nat s j
          by_cases c1 : bt s j < 32
          · go_wp2
            go_ret
            exact ⟨rfl, HB2.out⟩
          · cases c2 : (bt s j == 34) with
            | true =>
              go_wp2
              go_ret
              exact ⟨rfl, HB2.out⟩
            | false =>
              cases c3 : (bt s j == 92) with
              | true =>
                go_wp2
                go_ret
                exact ⟨rfl, HB2.out⟩
              | false =>
                have HC : Hid (32 ≤ bt s j ∧ ¬ bt s j = 34 ∧ ¬ bt s j = 92) := Lib.hid ⟨by omega, by simpa using c2, by simpa using c3⟩
                go_wp2
                go_round
                case rel => exact ⟨j + 1, by omega, by go_num, Lib.hid (fun k h => by
                  by_cases e : k = j
                  · subst e; exact HC.out
                  · exact H.out k (by omega))⟩
                case measure => simp [intOf]; omega
        · obtain rfl : j = s.size := by omega
          obtain ⟨t, hall⟩ := raw_all H.out HVE.out
          have HA := Lib.hid (all_any (quoS s) w2 (by rw [quo_size]; omega) (HK.out w2 HB2.out))
          rw [hall] at HA
          unfold quoS at HA
          clear hall
          have hss : (s.toList == s.toList) = true := str_beq rfl
          go_wp2_with fail
          refine HA.out.mono ?_
          rintro e' w3 ⟨v, rfl, ho, hb⟩
          obtain ⟨g, cap, rfl, hg⟩ := own_shape ho (by simp)
          have c0 : w3.cell? ⟨g, 0, none⟩ = some (.int .i64 2) := tk_cell ho (j := 0) (k := 0) rfl rfl
          have c1 : w3.cell? ⟨g, 1, none⟩ = some (.string s) := tk_cell ho (j := 0) (k := 1) rfl rfl
          have c4 : w3.cell? ⟨g, 4, none⟩ = some (.int .i64 ((s.size : Int) + 2)) := tk_cell ho (j := 0) (k := 4) rfl rfl
          have HB3 := Lib.hid (bl_step HB2.out hb)
          clear ho hb HA
          simp only [List.length_cons, List.length_nil, Nat.zero_add, Nat.reduceAdd]
          go_wp2
          go_ret
          exact ⟨rfl, HB3.out⟩
  · have hgt : (300 : Int) < s.size := by omega
    go_enter Tryd.func7, Tryd.ntmps7
    go_wp2_with fail
    refine HW0.out.mono ?_
    rintro e' w1 ⟨rfl, hb1⟩
    have HB1 := Lib.hid hb1
    have HW1 := Lib.hid (HW.out w1 (HK.out w1 hb1))
    clear hb1
    go_wp2_with fail
    refine HW1.out.mono ?_
    rintro e' w2 ⟨rfl, hb2⟩
    have HB2 := Lib.hid (bl_step HB1.out hb2)
    clear hb2
    go_wp2
    go_ret
    exact ⟨rfl, HB2.out⟩
end Go.Proofs.YtlnmjpacagimnaaDoor
