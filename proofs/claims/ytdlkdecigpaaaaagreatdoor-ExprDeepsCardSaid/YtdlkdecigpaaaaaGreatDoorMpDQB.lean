/- ExprDeeps: its texts of one kind, reckoned. -/
import Derived.Test.YtdlkdecigpaaaaaGreatDoorMpDQ
namespace Go.Proofs.YtdlkdecigpaaaaaGreatDoor
set_option linter.unusedVariables false
set_option linter.unusedSimpArgs false
open Go.RowKit

theorem dqB0 : dOk (deepS 1 0) 0 = true := (congrArg (dOk · 0) (show deepS 1 0 = ⟨#[120]⟩ by kernel_rfl)).trans (by decide +kernel)
theorem dqB1 : dOk (deepS 1 1) 1 = true := (congrArg (dOk · 1) (show deepS 1 1 = ⟨#[45, 120]⟩ by kernel_rfl)).trans (by decide +kernel)
theorem dqB2 : dOk (deepS 1 2) 2 = true := (congrArg (dOk · 2) (show deepS 1 2 = ⟨#[45, 45, 120]⟩ by kernel_rfl)).trans (by decide +kernel)
theorem dqB3 : dOk (deepS 1 3) 3 = true := (congrArg (dOk · 3) (show deepS 1 3 = ⟨#[45, 45, 45, 120]⟩ by kernel_rfl)).trans (by decide +kernel)
theorem dqB4 : dOk (deepS 1 4) 4 = true := (congrArg (dOk · 4) (show deepS 1 4 = ⟨#[45, 45, 45, 45, 120]⟩ by kernel_rfl)).trans (by decide +kernel)
theorem dqB5 : dOk (deepS 1 5) 5 = true := (congrArg (dOk · 5) (show deepS 1 5 = ⟨#[45, 45, 45, 45, 45, 120]⟩ by kernel_rfl)).trans (by decide +kernel)
theorem dqB6 : dOk (deepS 1 6) 6 = true := (congrArg (dOk · 6) (show deepS 1 6 = ⟨#[45, 45, 45, 45, 45, 45, 120]⟩ by kernel_rfl)).trans (by decide +kernel)
theorem dqB7 : dOk (deepS 1 7) 7 = true := (congrArg (dOk · 7) (show deepS 1 7 = ⟨#[45, 45, 45, 45, 45, 45, 45, 120]⟩ by kernel_rfl)).trans (by decide +kernel)
theorem dqB8 : dOk (deepS 1 8) 8 = true := (congrArg (dOk · 8) (show deepS 1 8 = ⟨#[45, 45, 45, 45, 45, 45, 45, 45, 120]⟩ by kernel_rfl)).trans (by decide +kernel)
theorem dqB9 : dOk (deepS 1 9) 9 = true := (congrArg (dOk · 9) (show deepS 1 9 = ⟨#[45, 45, 45, 45, 45, 45, 45, 45, 45, 120]⟩ by kernel_rfl)).trans (by decide +kernel)
theorem dqB10 : dOk (deepS 1 10) 10 = true := (congrArg (dOk · 10) (show deepS 1 10 = ⟨#[45, 45, 45, 45, 45, 45, 45, 45, 45, 45, 120]⟩ by kernel_rfl)).trans (by decide +kernel)
theorem dqB11 : dOk (deepS 1 11) 11 = true := (congrArg (dOk · 11) (show deepS 1 11 = ⟨#[45, 45, 45, 45, 45, 45, 45, 45, 45, 45, 45, 120]⟩ by kernel_rfl)).trans (by decide +kernel)
theorem dqB12 : dOk (deepS 1 12) 12 = true := (congrArg (dOk · 12) (show deepS 1 12 = ⟨#[45, 45, 45, 45, 45, 45, 45, 45, 45, 45, 45, 45, 120]⟩ by kernel_rfl)).trans (by decide +kernel)
theorem dqB13 : dOk (deepS 1 13) 13 = true := (congrArg (dOk · 13) (show deepS 1 13 = ⟨#[45, 45, 45, 45, 45, 45, 45, 45, 45, 45, 45, 45, 45, 120]⟩ by kernel_rfl)).trans (by decide +kernel)
theorem dqB14 : dOk (deepS 1 14) 14 = true := (congrArg (dOk · 14) (show deepS 1 14 = ⟨#[45, 45, 45, 45, 45, 45, 45, 45, 45, 45, 45, 45, 45, 45, 120]⟩ by kernel_rfl)).trans (by decide +kernel)
theorem dqB15 : dOk (deepS 1 15) 15 = true := (congrArg (dOk · 15) (show deepS 1 15 = ⟨#[45, 45, 45, 45, 45, 45, 45, 45, 45, 45, 45, 45, 45, 45, 45, 120]⟩ by kernel_rfl)).trans (by decide +kernel)
theorem dqB16 : dOk (deepS 1 16) 16 = true := (congrArg (dOk · 16) (show deepS 1 16 = ⟨#[45, 45, 45, 45, 45, 45, 45, 45, 45, 45, 45, 45, 45, 45, 45, 45, 120]⟩ by kernel_rfl)).trans (by decide +kernel)
theorem dqB17 : dOk (deepS 1 17) 17 = true := (congrArg (dOk · 17) (show deepS 1 17 = ⟨#[45, 45, 45, 45, 45, 45, 45, 45, 45, 45, 45, 45, 45, 45, 45, 45, 45, 120]⟩ by kernel_rfl)).trans (by decide +kernel)
theorem dqB18 : dOk (deepS 1 18) 18 = true := (congrArg (dOk · 18) (show deepS 1 18 = ⟨#[45, 45, 45, 45, 45, 45, 45, 45, 45, 45, 45, 45, 45, 45, 45, 45, 45, 45, 120]⟩ by kernel_rfl)).trans (by decide +kernel)
theorem dqB19 : dOk (deepS 1 19) 19 = true := (congrArg (dOk · 19) (show deepS 1 19 = ⟨#[45, 45, 45, 45, 45, 45, 45, 45, 45, 45, 45, 45, 45, 45, 45, 45, 45, 45, 45, 120]⟩ by kernel_rfl)).trans (by decide +kernel)
theorem dqB20 : dOk (deepS 1 20) 20 = true := (congrArg (dOk · 20) (show deepS 1 20 = ⟨#[45, 45, 45, 45, 45, 45, 45, 45, 45, 45, 45, 45, 45, 45, 45, 45, 45, 45, 45, 45, 120]⟩ by kernel_rfl)).trans (by decide +kernel)
theorem dqB21 : dOk (deepS 1 21) 21 = true := (congrArg (dOk · 21) (show deepS 1 21 = ⟨#[45, 45, 45, 45, 45, 45, 45, 45, 45, 45, 45, 45, 45, 45, 45, 45, 45, 45, 45, 45, 45, 120]⟩ by kernel_rfl)).trans (by decide +kernel)
theorem dqB22 : dOk (deepS 1 22) 22 = true := (congrArg (dOk · 22) (show deepS 1 22 = ⟨#[45, 45, 45, 45, 45, 45, 45, 45, 45, 45, 45, 45, 45, 45, 45, 45, 45, 45, 45, 45, 45, 45, 120]⟩ by kernel_rfl)).trans (by decide +kernel)
theorem dqB23 : dOk (deepS 1 23) 23 = true := (congrArg (dOk · 23) (show deepS 1 23 = ⟨#[45, 45, 45, 45, 45, 45, 45, 45, 45, 45, 45, 45, 45, 45, 45, 45, 45, 45, 45, 45, 45, 45, 45, 120]⟩ by kernel_rfl)).trans (by decide +kernel)
theorem dqB24 : dOk (deepS 1 24) 24 = true := (congrArg (dOk · 24) (show deepS 1 24 = ⟨#[45, 45, 45, 45, 45, 45, 45, 45, 45, 45, 45, 45, 45, 45, 45, 45, 45, 45, 45, 45, 45, 45, 45, 45, 120]⟩ by kernel_rfl)).trans (by decide +kernel)
theorem dqB25 : dOk (deepS 1 25) 25 = true := (congrArg (dOk · 25) (show deepS 1 25 = ⟨#[45, 45, 45, 45, 45, 45, 45, 45, 45, 45, 45, 45, 45, 45, 45, 45, 45, 45, 45, 45, 45, 45, 45, 45, 45, 120]⟩ by kernel_rfl)).trans (by decide +kernel)
theorem dqB26 : dOk (deepS 1 26) 26 = true := (congrArg (dOk · 26) (show deepS 1 26 = ⟨#[45, 45, 45, 45, 45, 45, 45, 45, 45, 45, 45, 45, 45, 45, 45, 45, 45, 45, 45, 45, 45, 45, 45, 45, 45, 45, 120]⟩ by kernel_rfl)).trans (by decide +kernel)
theorem dqB27 : dOk (deepS 1 27) 27 = true := (congrArg (dOk · 27) (show deepS 1 27 = ⟨#[45, 45, 45, 45, 45, 45, 45, 45, 45, 45, 45, 45, 45, 45, 45, 45, 45, 45, 45, 45, 45, 45, 45, 45, 45, 45, 45, 120]⟩ by kernel_rfl)).trans (by decide +kernel)
theorem dqB28 : dOk (deepS 1 28) 28 = true := (congrArg (dOk · 28) (show deepS 1 28 = ⟨#[45, 45, 45, 45, 45, 45, 45, 45, 45, 45, 45, 45, 45, 45, 45, 45, 45, 45, 45, 45, 45, 45, 45, 45, 45, 45, 45, 45, 120]⟩ by kernel_rfl)).trans (by decide +kernel)
theorem dqB29 : dOk (deepS 1 29) 29 = true := (congrArg (dOk · 29) (show deepS 1 29 = ⟨#[45, 45, 45, 45, 45, 45, 45, 45, 45, 45, 45, 45, 45, 45, 45, 45, 45, 45, 45, 45, 45, 45, 45, 45, 45, 45, 45, 45, 45, 120]⟩ by kernel_rfl)).trans (by decide +kernel)
theorem dqB30 : dOk (deepS 1 30) 30 = true := (congrArg (dOk · 30) (show deepS 1 30 = ⟨#[45, 45, 45, 45, 45, 45, 45, 45, 45, 45, 45, 45, 45, 45, 45, 45, 45, 45, 45, 45, 45, 45, 45, 45, 45, 45, 45, 45, 45, 45, 120]⟩ by kernel_rfl)).trans (by decide +kernel)
theorem dqB31 : dOk (deepS 1 31) 31 = true := (congrArg (dOk · 31) (show deepS 1 31 = ⟨#[45, 45, 45, 45, 45, 45, 45, 45, 45, 45, 45, 45, 45, 45, 45, 45, 45, 45, 45, 45, 45, 45, 45, 45, 45, 45, 45, 45, 45, 45, 45, 120]⟩ by kernel_rfl)).trans (by decide +kernel)
theorem dqB32 : dOk (deepS 1 32) 32 = true := (congrArg (dOk · 32) (show deepS 1 32 = ⟨#[45, 45, 45, 45, 45, 45, 45, 45, 45, 45, 45, 45, 45, 45, 45, 45, 45, 45, 45, 45, 45, 45, 45, 45, 45, 45, 45, 45, 45, 45, 45, 45, 120]⟩ by kernel_rfl)).trans (by decide +kernel)
theorem dqB33 : dOk (deepS 1 33) 33 = true := (congrArg (dOk · 33) (show deepS 1 33 = ⟨#[45, 45, 45, 45, 45, 45, 45, 45, 45, 45, 45, 45, 45, 45, 45, 45, 45, 45, 45, 45, 45, 45, 45, 45, 45, 45, 45, 45, 45, 45, 45, 45, 45, 120]⟩ by kernel_rfl)).trans (by decide +kernel)
theorem dqB34 : dOk (deepS 1 34) 34 = true := (congrArg (dOk · 34) (show deepS 1 34 = ⟨#[45, 45, 45, 45, 45, 45, 45, 45, 45, 45, 45, 45, 45, 45, 45, 45, 45, 45, 45, 45, 45, 45, 45, 45, 45, 45, 45, 45, 45, 45, 45, 45, 45, 45, 120]⟩ by kernel_rfl)).trans (by decide +kernel)
theorem dqB35 : dOk (deepS 1 35) 35 = true := (congrArg (dOk · 35) (show deepS 1 35 = ⟨#[45, 45, 45, 45, 45, 45, 45, 45, 45, 45, 45, 45, 45, 45, 45, 45, 45, 45, 45, 45, 45, 45, 45, 45, 45, 45, 45, 45, 45, 45, 45, 45, 45, 45, 45, 120]⟩ by kernel_rfl)).trans (by decide +kernel)
theorem dqB36 : dOk (deepS 1 36) 36 = true := (congrArg (dOk · 36) (show deepS 1 36 = ⟨#[45, 45, 45, 45, 45, 45, 45, 45, 45, 45, 45, 45, 45, 45, 45, 45, 45, 45, 45, 45, 45, 45, 45, 45, 45, 45, 45, 45, 45, 45, 45, 45, 45, 45, 45, 45, 120]⟩ by kernel_rfl)).trans (by decide +kernel)
theorem dqB37 : dOk (deepS 1 37) 37 = true := (congrArg (dOk · 37) (show deepS 1 37 = ⟨#[45, 45, 45, 45, 45, 45, 45, 45, 45, 45, 45, 45, 45, 45, 45, 45, 45, 45, 45, 45, 45, 45, 45, 45, 45, 45, 45, 45, 45, 45, 45, 45, 45, 45, 45, 45, 45, 120]⟩ by kernel_rfl)).trans (by decide +kernel)
theorem dqB38 : dOk (deepS 1 38) 38 = true := (congrArg (dOk · 38) (show deepS 1 38 = ⟨#[45, 45, 45, 45, 45, 45, 45, 45, 45, 45, 45, 45, 45, 45, 45, 45, 45, 45, 45, 45, 45, 45, 45, 45, 45, 45, 45, 45, 45, 45, 45, 45, 45, 45, 45, 45, 45, 45, 120]⟩ by kernel_rfl)).trans (by decide +kernel)
theorem dqB39 : dOk (deepS 1 39) 39 = true := (congrArg (dOk · 39) (show deepS 1 39 = ⟨#[45, 45, 45, 45, 45, 45, 45, 45, 45, 45, 45, 45, 45, 45, 45, 45, 45, 45, 45, 45, 45, 45, 45, 45, 45, 45, 45, 45, 45, 45, 45, 45, 45, 45, 45, 45, 45, 45, 45, 120]⟩ by kernel_rfl)).trans (by decide +kernel)
theorem dqB40 : dOk (deepS 1 40) 40 = true := (congrArg (dOk · 40) (show deepS 1 40 = ⟨#[45, 45, 45, 45, 45, 45, 45, 45, 45, 45, 45, 45, 45, 45, 45, 45, 45, 45, 45, 45, 45, 45, 45, 45, 45, 45, 45, 45, 45, 45, 45, 45, 45, 45, 45, 45, 45, 45, 45, 45, 120]⟩ by kernel_rfl)).trans (by decide +kernel)
theorem dqB41 : dOk (deepS 1 41) 41 = true := (congrArg (dOk · 41) (show deepS 1 41 = ⟨#[45, 45, 45, 45, 45, 45, 45, 45, 45, 45, 45, 45, 45, 45, 45, 45, 45, 45, 45, 45, 45, 45, 45, 45, 45, 45, 45, 45, 45, 45, 45, 45, 45, 45, 45, 45, 45, 45, 45, 45, 45, 120]⟩ by kernel_rfl)).trans (by decide +kernel)
theorem dqB42 : dOk (deepS 1 42) 42 = true := (congrArg (dOk · 42) (show deepS 1 42 = ⟨#[45, 45, 45, 45, 45, 45, 45, 45, 45, 45, 45, 45, 45, 45, 45, 45, 45, 45, 45, 45, 45, 45, 45, 45, 45, 45, 45, 45, 45, 45, 45, 45, 45, 45, 45, 45, 45, 45, 45, 45, 45, 45, 120]⟩ by kernel_rfl)).trans (by decide +kernel)
theorem dqB43 : dOk (deepS 1 43) 43 = true := (congrArg (dOk · 43) (show deepS 1 43 = ⟨#[45, 45, 45, 45, 45, 45, 45, 45, 45, 45, 45, 45, 45, 45, 45, 45, 45, 45, 45, 45, 45, 45, 45, 45, 45, 45, 45, 45, 45, 45, 45, 45, 45, 45, 45, 45, 45, 45, 45, 45, 45, 45, 45, 120]⟩ by kernel_rfl)).trans (by decide +kernel)
theorem dqB44 : dOk (deepS 1 44) 44 = true := (congrArg (dOk · 44) (show deepS 1 44 = ⟨#[45, 45, 45, 45, 45, 45, 45, 45, 45, 45, 45, 45, 45, 45, 45, 45, 45, 45, 45, 45, 45, 45, 45, 45, 45, 45, 45, 45, 45, 45, 45, 45, 45, 45, 45, 45, 45, 45, 45, 45, 45, 45, 45, 45, 120]⟩ by kernel_rfl)).trans (by decide +kernel)
theorem dqB45 : dOk (deepS 1 45) 45 = true := (congrArg (dOk · 45) (show deepS 1 45 = ⟨#[45, 45, 45, 45, 45, 45, 45, 45, 45, 45, 45, 45, 45, 45, 45, 45, 45, 45, 45, 45, 45, 45, 45, 45, 45, 45, 45, 45, 45, 45, 45, 45, 45, 45, 45, 45, 45, 45, 45, 45, 45, 45, 45, 45, 45, 120]⟩ by kernel_rfl)).trans (by decide +kernel)
theorem dqB46 : dOk (deepS 1 46) 46 = true := (congrArg (dOk · 46) (show deepS 1 46 = ⟨#[45, 45, 45, 45, 45, 45, 45, 45, 45, 45, 45, 45, 45, 45, 45, 45, 45, 45, 45, 45, 45, 45, 45, 45, 45, 45, 45, 45, 45, 45, 45, 45, 45, 45, 45, 45, 45, 45, 45, 45, 45, 45, 45, 45, 45, 45, 120]⟩ by kernel_rfl)).trans (by decide +kernel)
theorem dqB47 : dOk (deepS 1 47) 47 = true := (congrArg (dOk · 47) (show deepS 1 47 = ⟨#[45, 45, 45, 45, 45, 45, 45, 45, 45, 45, 45, 45, 45, 45, 45, 45, 45, 45, 45, 45, 45, 45, 45, 45, 45, 45, 45, 45, 45, 45, 45, 45, 45, 45, 45, 45, 45, 45, 45, 45, 45, 45, 45, 45, 45, 45, 45, 120]⟩ by kernel_rfl)).trans (by decide +kernel)
theorem dqB48 : dOk (deepS 1 48) 48 = true := (congrArg (dOk · 48) (show deepS 1 48 = ⟨#[45, 45, 45, 45, 45, 45, 45, 45, 45, 45, 45, 45, 45, 45, 45, 45, 45, 45, 45, 45, 45, 45, 45, 45, 45, 45, 45, 45, 45, 45, 45, 45, 45, 45, 45, 45, 45, 45, 45, 45, 45, 45, 45, 45, 45, 45, 45, 45, 120]⟩ by kernel_rfl)).trans (by decide +kernel)
theorem dqB49 : dOk (deepS 1 49) 49 = true := (congrArg (dOk · 49) (show deepS 1 49 = ⟨#[45, 45, 45, 45, 45, 45, 45, 45, 45, 45, 45, 45, 45, 45, 45, 45, 45, 45, 45, 45, 45, 45, 45, 45, 45, 45, 45, 45, 45, 45, 45, 45, 45, 45, 45, 45, 45, 45, 45, 45, 45, 45, 45, 45, 45, 45, 45, 45, 45, 120]⟩ by kernel_rfl)).trans (by decide +kernel)
theorem dqB (j : Nat) (hj : j < 50) : dOk (deepS 1 j) j = true := by
  match j, hj with
  | 0, _ => exact dqB0
  | 1, _ => exact dqB1
  | 2, _ => exact dqB2
  | 3, _ => exact dqB3
  | 4, _ => exact dqB4
  | 5, _ => exact dqB5
  | 6, _ => exact dqB6
  | 7, _ => exact dqB7
  | 8, _ => exact dqB8
  | 9, _ => exact dqB9
  | 10, _ => exact dqB10
  | 11, _ => exact dqB11
  | 12, _ => exact dqB12
  | 13, _ => exact dqB13
  | 14, _ => exact dqB14
  | 15, _ => exact dqB15
  | 16, _ => exact dqB16
  | 17, _ => exact dqB17
  | 18, _ => exact dqB18
  | 19, _ => exact dqB19
  | 20, _ => exact dqB20
  | 21, _ => exact dqB21
  | 22, _ => exact dqB22
  | 23, _ => exact dqB23
  | 24, _ => exact dqB24
  | 25, _ => exact dqB25
  | 26, _ => exact dqB26
  | 27, _ => exact dqB27
  | 28, _ => exact dqB28
  | 29, _ => exact dqB29
  | 30, _ => exact dqB30
  | 31, _ => exact dqB31
  | 32, _ => exact dqB32
  | 33, _ => exact dqB33
  | 34, _ => exact dqB34
  | 35, _ => exact dqB35
  | 36, _ => exact dqB36
  | 37, _ => exact dqB37
  | 38, _ => exact dqB38
  | 39, _ => exact dqB39
  | 40, _ => exact dqB40
  | 41, _ => exact dqB41
  | 42, _ => exact dqB42
  | 43, _ => exact dqB43
  | 44, _ => exact dqB44
  | 45, _ => exact dqB45
  | 46, _ => exact dqB46
  | 47, _ => exact dqB47
  | 48, _ => exact dqB48
  | 49, _ => exact dqB49
  | n + 50, h => exact absurd h (by omega)
end Go.Proofs.YtdlkdecigpaaaaaGreatDoor
