/- What a JSON text's pieces are, by places, in plain words: digits, hexadecimal digits, escapes, numbers. -/
import Derived.Test.YtlnmjpacagimnaaDoorUtf
namespace Go.Proofs.YtlnmjpacagimnaaDoor
set_option linter.unusedVariables false
set_option linter.unusedSimpArgs false
open Go.RowKit

theorem bt_nat (s : ByteArray) (p : Nat) : ∀ h : p < s.size, ((s[p]'h).toNat : Int) = bt s p := fun h => by have := bt_at s p (by simpa using h); simpa using this
/-- A hexadecimal digit's number; -1: it is none. -/
def hexV (c : Int) : Int := if 48 ≤ c ∧ c ≤ 57 then c - 48 else if 97 ≤ c ∧ c ≤ 102 then c - 87 else if 65 ≤ c ∧ c ≤ 70 then c - 55 else -1
theorem hexV_range (c : Int) : -1 ≤ hexV c ∧ hexV c ≤ 15 := by unfold hexV; split; omega; split; omega; split <;> omega
def hexAt (s : ByteArray) (i : Int) : Int := if i < s.size then hexV (bt s i) else -1
theorem hexAt_range (s : ByteArray) (i : Int) : -1 ≤ hexAt s i ∧ hexAt s i ≤ 15 := by
  unfold hexAt; split
  · exact hexV_range _
  · omega
theorem hexAt_lt {s : ByteArray} {i : Int} (h : 0 ≤ hexAt s i) : i < s.size := by unfold hexAt at h; split at h <;> omega
/-- The number of so many more hexadecimal digits, and the place behind them; or -1, and the place of what is none. -/
def fourF (s : ByteArray) : Nat → Int → Int → Int × Int
  | 0, n, i => (n, i)
  | k + 1, n, i => if hexAt s i < 0 then (-1, i) else fourF s k (n * 16 + hexAt s i) (i + 1)
def four (s : ByteArray) (i : Int) : Int × Int := fourF s 4 0 i
theorem fourF_range (s : ByteArray) : ∀ (k : Nat) (n i : Int), 0 ≤ n → -1 ≤ (fourF s k n i).1 ∧ (fourF s k n i).1 < (n + 1) * 16 ^ k ∧ i ≤ (fourF s k n i).2 ∧ (fourF s k n i).2 ≤ i + k
  | 0, n, i, h => by simp [fourF]; omega
  | k + 1, n, i, h => by
    unfold fourF
    have h16 : (0 : Int) < 16 ^ k := Int.pow_pos (by omega)
    split
    · refine ⟨by simp, ?_, by simp, by simp; omega⟩
      have : 0 ≤ (n + 1) * 16 ^ (k + 1) := Int.mul_nonneg (by omega) (Int.le_of_lt (Int.pow_pos (by omega)))
      simp only; omega
    · rename_i hd
      have hr := hexAt_range s i
      obtain ⟨a, b, c, d⟩ := fourF_range s k (n * 16 + hexAt s i) (i + 1) (by omega)
      refine ⟨a, Int.lt_of_lt_of_le b ?_, by omega, by omega⟩
      rw [Int.pow_succ, Int.mul_comm (16 ^ k) 16, ← Int.mul_assoc]
      exact Int.mul_le_mul_of_nonneg_right (by omega) (Int.le_of_lt h16)
theorem four_range (s : ByteArray) (i : Int) : -1 ≤ (four s i).1 ∧ (four s i).1 < 65536 ∧ i ≤ (four s i).2 ∧ (four s i).2 ≤ i + 4 := by
  have := fourF_range s 4 0 i (by omega)
  simpa [four] using this
/-- The digits lie inside. -/
theorem fourF_inside (s : ByteArray) : ∀ (k : Nat) (n i : Int), 0 ≤ n → i ≤ s.size → (fourF s k n i).2 ≤ s.size
  | 0, n, i, _, h => by simpa [fourF] using h
  | k + 1, n, i, hn, h => by
    unfold fourF
    split
    · simpa using h
    · rename_i hd
      have := hexAt_lt (s := s) (i := i) (by omega)
      exact fourF_inside s k _ _ (by omega) (by omega)
/-- What a letter behind a backslash is; -1: nothing. -/
def escV (c : Int) : Int := if c = 34 then 34 else if c = 92 then 92 else if c = 47 then 47 else if c = 98 then 8 else if c = 102 then 12 else if c = 110 then 10 else if c = 114 then 13 else if c = 116 then 9 else -1
def escAt (s : ByteArray) (i : Int) : Int := if i < s.size then escV (bt s i) else -1
theorem escAt_range (s : ByteArray) (i : Int) : -1 ≤ escAt s i ∧ escAt s i ≤ 92 := by
  unfold escAt escV; repeat' split
  all_goals omega
theorem escAt_lt {s : ByteArray} {i : Int} (h : 0 ≤ escAt s i) : i < s.size := by unfold escAt at h; split at h <;> omega
/-- The point of an escape whose backslash stands at a place, the place behind it, or the error's; the error. -/
def escape (s : ByteArray) (i : Int) : Int × Int × Int :=
  if 0 ≤ escAt s (i + 1) then (escAt s (i + 1), i + 2, 0)
  else if isAt s (i + 1) 117 = false then (0, i + 1, 1)
  else if (four s (i + 2)).1 < 0 then (0, (four s (i + 2)).2, 1)
  else if pointB (four s (i + 2)).1 then ((four s (i + 2)).1, (four s (i + 2)).2, 0)
  else if (four s (i + 2)).1 < 56320 ∧ isAt s (four s (i + 2)).2 92 = true ∧ isAt s ((four s (i + 2)).2 + 1) 117 = true ∧ 56320 ≤ (four s ((four s (i + 2)).2 + 2)).1 ∧ (four s ((four s (i + 2)).2 + 2)).1 ≤ 57343 then
    (65536 + ((four s (i + 2)).1 - 55296) * 1024 + (four s ((four s (i + 2)).2 + 2)).1 - 56320, (four s ((four s (i + 2)).2 + 2)).2, 0)
  else (0, i, 3)
end Go.Proofs.YtlnmjpacagimnaaDoor
