/- The fixed fact of the sorts' laws. -/
import Derived.Test.YtdlkdecigpaaaaaGreatDoorMp37
import Derived.Test.YtdlkdecigpaaaaaGreatDoorMp30
namespace Go.Proofs.YtdlkdecigpaaaaaGreatDoor
set_option linter.unusedVariables false
set_option linter.unusedSimpArgs false
open Go.RowKit

theorem parseR9 : parseR ex9 (.ok ex9T 10) = (ex9T, 0, 0) := by kernel_rfl
abbrev env9 : SEnv := ⟨63, [], []⟩
theorem chk9 : chk env9 ex9T = (4, 0) := by kernel_rfl
theorem good9 : XGood ex9T := by have h := par_good ex9_par (by simp [goodG]) (Int.le_refl _) (by decide); exact h
theorem deep9 : ex9T.depth = 3 := by kernel_rfl
set_option maxRecDepth 20000 in
set_option maxHeartbeats 1000000 in
theorem awake9_any (w : World) (hv : VarOk w) : Calls Tryz.prog 14 #[] w fun e w' => e = .returned (.bool true) ∧ Keeps [] w w' := by
  have hP := eParse_any ex9 w _ (by decide) hv ex9_par
  rw [parseR9] at hP
  have HP := Lib.hid hP
  have hC := fun (vi vk va : Value) (W : World) (hr : ex9T.Rep W (w.heap.size ≤ ·) vi vk va) => scheck_any env9 10 ex9T vi vk va (.slice none 0 0) (.slice none 0 0) _ (fun _ => True) W (by rw [deep9]; decide) (by decide) good9 hr ⟨Sl.nil, Sl.nil, rfl, by decide⟩
  rw [chk9] at hC
  have HC := Lib.hid hC
  clear hP hC hv
  generalize ex9T = T at *
  go_enter Tryz.func14, Tryz.ntmps14
  go_wp2_with fail
  refine HP.out.mono ?_
  rintro e w1 ⟨vi, vk, va, rfl, hr, hk1⟩
  dsimp only at hr
  obtain ⟨a1, c1, a2, c2, a3, c3, rfl, rfl, rfl⟩ := xrep_shape hr
  have HCX := Lib.hid (HC.out _ _ _ (w1.alloc (.cells (T.nine (.slice a1 T.lit.its.length c1) (.slice a2 T.lit.ks.length c2) (.slice a3 T.args.length c3)) 52)) (hr.keep (kc_alloc _)))
  have HK1 := Lib.hid hk1
  clear hr hk1
  go_wp2_with fail
  refine HCX.out.mono ?_
  rintro e w2 ⟨rfl, hk2⟩
  have HK2 := Lib.hid ((HK1.out.alloc _).trans hk2)
  clear hk2
  go_wp2_with (first
    | (go_at_call 39; refine (vnumber_any _ _).mono ?_; rintro e' w3 ⟨rfl, hk3⟩; have HK3 := Lib.hid (HK2.out.trans hk3); clear hk3)
    | (go_at_call 22; refine (sof_any _ _ _ _ _ _ _ _ _ _ _ (by decide) (by decide)).mono ?_; rintro e' w4 ⟨rfl, hk4⟩; have HK4 := Lib.hid (HK3.out.trans hk4); clear hk4))
  go_ret
  exact ⟨rfl, HK4.out⟩
end Go.Proofs.YtdlkdecigpaaaaaGreatDoor
