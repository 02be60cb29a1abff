/- ExprDeeps: what Parse answers at its texts. -/
import Derived.Test.YtdlkdecigpaaaaaGreatDoorMpDQA
import Derived.Test.YtdlkdecigpaaaaaGreatDoorMpDQB
import Derived.Test.YtdlkdecigpaaaaaGreatDoorMpDQC
import Derived.Test.YtdlkdecigpaaaaaGreatDoorMpDQD
namespace Go.Proofs.YtdlkdecigpaaaaaGreatDoor
set_option linter.unusedVariables false
set_option linter.unusedSimpArgs false
open Go.RowKit

theorem deep_ok (k j : Nat) (hk : k < 4) (hj : j < 50) : dOk (deepS k j) j = true := by
  rcases (by omega : k = 0 ∨ k = 1 ∨ k = 2 ∨ k = 3) with rfl | rfl | rfl | rfl
  · exact dqA j hj
  · exact dqB j hj
  · exact dqC j hj
  · exact dqD j hj
/-- What Parse answers at such a text. -/
theorem deeps_par (k j : Nat) (hk : k < 4) (hj : j < 50) : ∃ (T : XT) (r : Res), T.depth = j + 1 ∧ XGood T ∧ Par (deepS k j) (.lev 0) 0 r ∧ parseR (deepS k j) r = if 31 < j then (XT.zero, 0, 6) else (T, 0, 0) := by
  have h := deep_ok k j hk hj
  unfold dOk at h
  split at h
  · rename_i T p hr
    rw [Bool.and_eq_true, decide_eq_true_eq, beq_iff_eq] at h
    have hp := runP_par _ hr
    refine ⟨T, _, h.2, par_good hp (by simp [goodG]) (Int.le_refl _) (by omega), hp, ?_⟩
    simp only [parseR]
    rw [if_neg h.1, h.2]
    by_cases hc : 31 < j
    · rw [if_pos hc, if_pos (by omega)]
    · rw [if_neg hc, if_neg (by omega)]
  · cases h
end Go.Proofs.YtdlkdecigpaaaaaGreatDoor
