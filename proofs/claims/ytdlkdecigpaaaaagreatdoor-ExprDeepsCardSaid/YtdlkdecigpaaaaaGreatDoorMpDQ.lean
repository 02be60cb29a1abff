/- ExprDeeps: the texts, and how deep their trees are: plain words. -/
import Derived.Test.YtdlkdecigpaaaaaGreatDoorMp30
namespace Go.Proofs.YtdlkdecigpaaaaaGreatDoor
set_option linter.unusedVariables false
set_option linter.unusedSimpArgs false
open Go.RowKit

theorem u8_rangeE {x : Int} (h : (Lit.int .u8 x).wf = true) : 0 ≤ x ∧ x ≤ 255 := by
  simp only [Lit.wf, Bool.and_eq_true, decide_eq_true_eq] at h
  have h1 : IntKind.u8.min = 0 := rfl
  have h2 : IntKind.u8.max = 255 := rfl
  omega
def deepB (k : Nat) : Nat → List UInt8
  | 0 => [120]
  | j + 1 => if k = 0 then [110, 111, 116, 32] ++ deepB k j else if k = 1 then [45] ++ deepB k j else if k = 2 then deepB k j ++ [32, 43, 32, 49] else deepB k j ++ [91, 48, 93]
def deepS (k j : Nat) : ByteArray := ⟨(deepB k j).toArray⟩
theorem deep_len (k : Nat) : ∀ j, (deepB k j).length ≤ 1 + 4 * j
  | 0 => by simp [deepB]
  | j + 1 => by
    have := deep_len k j
    unfold deepB
    split
    · simp; omega
    · split
      · simp; omega
      · split
        · simp; omega
        · simp; omega
theorem deep_size (k j : Nat) : (deepS k j).size ≤ 1 + 4 * j := deep_len k j
theorem mk_app (a b : List UInt8) : (⟨a.toArray⟩ : ByteArray) ++ ⟨b.toArray⟩ = ⟨(a ++ b).toArray⟩ := by
  apply bytes_ext; rw [toList_data, toList_data]; simp [ByteArray.data_append]
theorem deep_0 (j : Nat) : (⟨#[110, 111, 116, 32]⟩ : ByteArray) ++ deepS 0 j = deepS 0 (j + 1) := mk_app [110, 111, 116, 32] _
theorem deep_1 (j : Nat) : (⟨#[45]⟩ : ByteArray) ++ deepS 1 j = deepS 1 (j + 1) := mk_app [45] _
theorem deep_2 (j : Nat) : deepS 2 j ++ (⟨#[32, 43, 32, 49]⟩ : ByteArray) = deepS 2 (j + 1) := mk_app _ [32, 43, 32, 49]
theorem deep_3 (j : Nat) : deepS 3 j ++ (⟨#[91, 48, 93]⟩ : ByteArray) = deepS 3 (j + 1) := mk_app _ [91, 48, 93]
/-- The text's tree is as deep as that. -/
def dOk (s : ByteArray) (j : Nat) : Bool := match runP s 150 (.lev 0) 0 with
  | some (.ok T p) => decide (¬ blanks s p < s.size) && T.depth == j + 1
  | _ => false
end Go.Proofs.YtdlkdecigpaaaaaGreatDoor
