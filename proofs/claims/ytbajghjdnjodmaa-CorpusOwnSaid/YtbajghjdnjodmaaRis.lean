/- The document's Is: of points. -/
import Derived.Test.YtbajghjdnjodmaaUtf
namespace Go.Proofs.Ytbajghjdnjodmaa
set_option linter.unusedVariables false
set_option linter.unusedSimpArgs false
open Go.RowKit

set_option maxHeartbeats 1000000 in
theorem ris_any (n : Int) (w : World) : Calls Try.prog 82 #[.int .i64 n] w fun e w' => e = .returned (.bool (pointB n)) ∧ w = w' := by
  have Hr : Hid (pointB n = decide (0 ≤ n ∧ n < 55296 ∨ 57343 < n ∧ n ≤ 1114111)) := Lib.hid rfl
  generalize pointB n = r at *
  go_enter Try.func82, Try.ntmps82
  go_wp2
  all_goals
    go_ret
    exact ⟨ret_bool (by rw [Hr.out, Bool.eq_iff_iff]; simp; omega), rfl⟩
end Go.Proofs.Ytbajghjdnjodmaa
