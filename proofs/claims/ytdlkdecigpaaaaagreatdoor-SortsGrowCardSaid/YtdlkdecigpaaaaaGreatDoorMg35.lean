/- The document's parser: a name's number of parts; what is reserved. -/
import Derived.Test.YtdlkdecigpaaaaaGreatDoorMg27
namespace Go.Proofs.YtdlkdecigpaaaaaGreatDoor
set_option linter.unusedVariables false
set_option linter.unusedSimpArgs false
open Go.RowKit

abbrev oneA : Array Value := #[.string lenS, .string sumS, .string minS, .string maxS, .string allS, .string anyS, .string keysS]
abbrev twoA : Array Value := #[.string hasS, .string countS, .string startsS, .string endsS, .string joinS]
abbrev resA : Array Value := #[.string orS, .string andS, .string notS, .string trueS, .string falseS, .string nullS, .string thisS]
theorem seven {j : Nat} (h : j < 7) : j = 0 ∨ j = 1 ∨ j = 2 ∨ j = 3 ∨ j = 4 ∨ j = 5 ∨ j = 6 := by omega
theorem one_ix (j : Nat) (hj : j < 7) : ∀ w : World, (Instr.index 135 (.agg oneA) (.int .i64 (j : Int))).run Tryz.prog w = .ok (.string (oneL.getD j eS)) w := by
  rcases seven hj with rfl | rfl | rfl | rfl | rfl | rfl | rfl <;> intro w <;> kernel_rfl
theorem res_ix (j : Nat) (hj : j < 7) : ∀ w : World, (Instr.index 135 (.agg resA) (.int .i64 (j : Int))).run Tryz.prog w = .ok (.string (resL.getD j eS)) w := by
  rcases seven hj with rfl | rfl | rfl | rfl | rfl | rfl | rfl <;> intro w <;> kernel_rfl
theorem two_ix (j : Nat) (hj : j < 5) : ∀ w : World, (Instr.index 71 (.agg twoA) (.int .i64 (j : Int))).run Tryz.prog w = .ok (.string (twoL.getD j eS)) w := by
  rcases (by omega : j = 0 ∨ j = 1 ∨ j = 2 ∨ j = 3 ∨ j = 4) with rfl | rfl | rfl | rfl | rfl <;> intro w <;> kernel_rfl
theorem mem_hit {nm : ByteArray} {l : List ByteArray} {j : Nat} (hj : j < l.length) (h : l.getD j eS = nm) : memL nm l = true := by
  rw [memL_iff, ← h, List.getD_eq_getElem?_getD, List.getElem?_eq_getElem hj]; exact List.getElem_mem hj
theorem mem_miss {nm : ByteArray} {l : List ByteArray} (h : ∀ j, j < l.length → ¬ l.getD j eS = nm) : memL nm l = false := by
  cases e : memL nm l with
  | false => rfl
  | true =>
    obtain ⟨j, hj, h1⟩ := List.mem_iff_getElem.1 (memL_iff.1 e)
    exact absurd (by rw [List.getD_eq_getElem?_getD, List.getElem?_eq_getElem hj]; exact h1) (h j hj)
theorem miss_on {nm : ByteArray} {l : List ByteArray} {j : Nat} (h : ∀ k, k < j → ¬ l.getD k eS = nm) (h1 : ¬ l.getD j eS = nm) : ∀ k, k < j + 1 → ¬ l.getD k eS = nm := fun k hk => by
  by_cases e : k = j
  · rw [e]; exact h1
  · exact h k (by omega)
set_option maxRecDepth 20000 in
set_option maxHeartbeats 2000000 in
theorem rargs_any (nm : ByteArray) (w : World) : Calls Tryz.prog 55 #[.string nm] w fun e w' => e = .returned (.int .i64 (argsN nm)) ∧ w = w' := by
  go_enter Tryz.func55, Tryz.ntmps55
  go_wp2
  go_loop [8] (fun v => ∃ j : Nat, j ≤ 7 ∧ v = .int .i64 j ∧ Hid (∀ k, k < j → ¬ oneL.getD k eS = nm)) (fun v => 7 - (intOf v).toNat)
  case atStart => exact ⟨0, by omega, rfl, Lib.hid fun k hk => absurd hk (by omega)⟩
  case round =>
    obtain ⟨j, hj, rfl, HX⟩ := hrel
    by_cases hlt : j < 7
    · have IX := one_ix j hlt
      by_cases c : oneL.getD j eS = nm
      · have HV : Hid (argsN nm = 1) := Lib.hid (by unfold argsN; rw [mem_hit hlt c]; rfl)
        have hq := str_beq c
        clear c
        generalize oneL.getD j eS = x at *
        go_wp2
        go_ret
        exact ⟨ret_i64 (by rw [HV.out]; rfl), rfl⟩
      · have HM := Lib.hid (miss_on HX.out c)
        have hq := str_bne c
        clear c
        generalize hx : oneL.getD j eS = x at *
        clear hx
        go_wp2
        go_round
        case rel => exact ⟨j + 1, by omega, by go_num, HM⟩
        case measure => simp [intOf]; omega
    · obtain rfl : j = 7 := by omega
      have H1 : Hid (memL nm oneL = false) := Lib.hid (mem_miss fun k hk => HX.out k hk)
      clear HX
      go_wp2
      go_loop [16] (fun v => ∃ j : Nat, j ≤ 5 ∧ v = .int .i64 j ∧ Hid (∀ k, k < j → ¬ twoL.getD k eS = nm)) (fun v => 5 - (intOf v).toNat)
      case atStart => exact ⟨0, by omega, rfl, Lib.hid fun k hk => absurd hk (by omega)⟩
      case round =>
        obtain ⟨j, hj, rfl, HX⟩ := hrel
        by_cases hlt : j < 5
        · have IX := two_ix j hlt
          by_cases c : twoL.getD j eS = nm
          · have HV : Hid (argsN nm = 2) := Lib.hid (by unfold argsN; rw [H1.out, mem_hit hlt c]; rfl)
            have hq := str_beq c
            clear c
            generalize twoL.getD j eS = x at *
            go_wp2
            go_ret
            exact ⟨ret_i64 (by rw [HV.out]; rfl), rfl⟩
          · have HM := Lib.hid (miss_on HX.out c)
            have hq := str_bne c
            clear c
            generalize hx : twoL.getD j eS = x at *
            clear hx
            go_wp2
            go_round
            case rel => exact ⟨j + 1, by omega, by go_num, HM⟩
            case measure => simp [intOf]; omega
        · obtain rfl : j = 5 := by omega
          have HV : Hid (argsN nm = 0) := Lib.hid (by unfold argsN; rw [H1.out, mem_miss fun k hk => HX.out k hk]; rfl)
          clear HX
          go_wp2
          go_ret
          exact ⟨ret_i64 (by rw [HV.out]; rfl), rfl⟩
set_option maxRecDepth 20000 in
set_option maxHeartbeats 2000000 in
theorem rreserved_any (nm : ByteArray) (w : World) : Calls Tryz.prog 59 #[.string nm] w fun e w' => e = .returned (.bool (resB nm)) ∧ w = w' := by
  have HA := Lib.hid (fun w => rargs_any nm w)
  go_enter Tryz.func59, Tryz.ntmps59
  go_wp2
  go_loop [6] (fun v => ∃ j : Nat, j ≤ 7 ∧ v = .int .i64 j ∧ Hid (∀ k, k < j → ¬ resL.getD k eS = nm)) (fun v => 7 - (intOf v).toNat)
  case atStart => exact ⟨0, by omega, rfl, Lib.hid fun k hk => absurd hk (by omega)⟩
  case round =>
    obtain ⟨j, hj, rfl, HX⟩ := hrel
    by_cases hlt : j < 7
    · have IX := res_ix j hlt
      by_cases c : resL.getD j eS = nm
      · have HV : Hid (resB nm = true) := Lib.hid (by unfold resB; rw [mem_hit hlt c]; rfl)
        have hq := str_beq c
        clear c
        generalize resL.getD j eS = x at *
        go_wp2
        go_ret
        exact ⟨ret_bool HV.out.symm, rfl⟩
      · have HM := Lib.hid (miss_on HX.out c)
        have hq := str_bne c
        clear c
        generalize hx : resL.getD j eS = x at *
        clear hx
        go_wp2
        go_round
        case rel => exact ⟨j + 1, by omega, by go_num, HM⟩
        case measure => simp [intOf]; omega
    · obtain rfl : j = 7 := by omega
      have HV : Hid (resB nm = decide (0 < argsN nm)) := Lib.hid (by unfold resB; rw [mem_miss fun k hk => HX.out k hk]; rfl)
      clear HX
      go_wp2_with (go_at_call 55; refine (HA.out _).mono ?_; rintro e w' ⟨rfl, rfl⟩)
      go_ret
      exact ⟨ret_bool (by rw [HV.out]), rfl⟩
end Go.Proofs.YtdlkdecigpaaaaaGreatDoor
