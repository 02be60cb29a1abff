/- A point's bytes as a text; bytes behind a place; a builder of the call's own under writes elsewhere. -/
import Derived.Test.YtlnmjpacagimnaaDoorTk
import Derived.Test.YtlnmjpacagimnaaDoorBuild
import Derived.Test.YtlnmjpacagimnaaDoorDecode
namespace Go.Proofs.YtlnmjpacagimnaaDoor
set_option linter.unusedVariables false
set_option linter.unusedSimpArgs false
open Go.RowKit

theorem enc_str {n : Int} (h : pointB n = true) : encS n = strOfNums (bytesL n) := by
  have hv : Utf8.valid n = true := by
    simp only [pointB, decide_eq_true_eq] at h
    simp only [Utf8.valid, Bool.or_eq_true, Bool.and_eq_true, decide_eq_true_eq]
    omega
  have h0 : 0 ≤ n := by simp only [pointB, decide_eq_true_eq] at h; omega
  obtain ⟨m, rfl⟩ := Int.eq_ofNat_of_zero_le h0
  unfold encS Utf8.encode
  rw [if_pos h, if_pos hv]
  simp only [Int.toNat_natCast]
  unfold strOfNums bytesL
  by_cases c1 : m < 128
  · rw [if_pos c1, if_pos (show (m : Int) < 128 by omega)]; simp
  · rw [if_neg c1, if_neg (show ¬ (m : Int) < 128 by omega)]
    by_cases c2 : m < 2048
    · rw [if_pos c2, if_pos (show (m : Int) < 2048 by omega)]
      simp only [List.map_cons, List.map_nil]
      rw [show (192 + (m : Int) / 64).toNat = 192 + m / 64 from by omega, show (128 + (m : Int) % 64).toNat = 128 + m % 64 from by omega]
    · rw [if_neg c2, if_neg (show ¬ (m : Int) < 2048 by omega)]
      by_cases c3 : m < 65536
      · rw [if_pos c3, if_pos (show (m : Int) < 65536 by omega)]
        simp only [List.map_cons, List.map_nil]
        rw [show (224 + (m : Int) / 4096).toNat = 224 + m / 4096 from by omega, show (128 + (m : Int) / 64 % 64).toNat = 128 + m / 64 % 64 from by omega, show (128 + (m : Int) % 64).toNat = 128 + m % 64 from by omega]
      · rw [if_neg c3, if_neg (show ¬ (m : Int) < 65536 by omega)]
        simp only [List.map_cons, List.map_nil]
        rw [show (240 + (m : Int) / 262144).toNat = 240 + m / 262144 from by omega, show (128 + (m : Int) / 4096 % 64).toNat = 128 + m / 4096 % 64 from by omega, show (128 + (m : Int) / 64 % 64).toNat = 128 + m / 64 % 64 from by omega, show (128 + (m : Int) % 64).toNat = 128 + m % 64 from by omega]
/-- Bytes, as bytes. -/
def rawL (l : List Int) : List UInt8 := l.map fun n => UInt8.ofNat n.toNat
theorem strCells_of (l : List Int) : Lib.strCells (strOfNums l) = Lib.byteCells (rawL l) := rfl
theorem rawL_app (a b : List Int) : rawL (a ++ b) = rawL a ++ rawL b := by simp [rawL]
theorem byteCells_app (a b : List UInt8) : Lib.byteCells (a ++ b) = Lib.byteCells a ++ Lib.byteCells b := by simp [Lib.byteCells]
theorem textS_raw (l : List Int) : (⟨(rawL (bytesOfL l)).toArray⟩ : ByteArray) = textS l := rfl
theorem bytesOf_snoc (l : List Int) (n : Int) : bytesOfL (l ++ [n]) = bytesOfL l ++ bytesL n := by simp [bytesOfL]
theorem bt_shift (s : ByteArray) (a j : Nat) : bt (s.extract a s.size) (j : Int) = bt s ((a : Int) + (j : Int)) := by
  by_cases h : a + j < s.size
  · have := bt_extract s a j h; rw [this]; congr 1
  · have h1 : ¬ j < (s.extract a s.size).size := by rw [ByteArray.size_extract]; omega
    unfold bt
    rw [dif_neg (by omega), dif_neg (by omega)]
theorem first_shift (s : ByteArray) (a : Nat) (h : a ≤ s.size) : first (s.extract a s.size) 0 = first s a := by
  have b0 := bt_shift s a 0
  have b1 := bt_shift s a 1
  have b2 := bt_shift s a 2
  have b3 := bt_shift s a 3
  have hs : (s.extract a s.size).size = s.size - a := by rw [ByteArray.size_extract]; omega
  simp only [Int.natCast_zero, Int.natCast_one, Int.add_zero, show ((2 : Nat) : Int) = 2 from rfl, show ((3 : Nat) : Int) = 3 from rfl] at b0 b1 b2 b3
  unfold first
  rw [ok1, ok2, ok3, ok4, ok1, ok2, ok3, ok4, cand1, cand2, cand3, cand4, cand1, cand2, cand3, cand4, hs]
  simp only [Int.zero_add, b0, b1, b2, b3]
  simp only [show ∀ k : Int, (k ≤ ((s.size - a : Nat) : Int)) = ((a : Int) + k ≤ (s.size : Int)) from fun k => propext (by omega)]
theorem isb_keeps {S : List Nat} {T e : TypeId} {B b : Nat} {bs : List Value} {w w1 : World} (h : Lib.IsBuilderF T e B b bs w) (hk : Keeps S w w1) (hS : ∀ k, k ∈ S → k < B) : Lib.IsBuilderF T e B b bs w1 := by
  have key : ∀ p, Lib.BuilderAtF T e B b p bs w → Lib.BuilderAtF T e B b p bs w1 := by
    rintro p ⟨hB, v, hb, hown, hne⟩
    refine ⟨hB, v, hk.heap hb (fun hm => by have := hS _ hm; omega), ?_, hne⟩
    refine ⟨hown.1, ?_⟩
    rcases hown.2 with hn | ⟨g, cap, cur, fz, rfl, hg, hgg, rest⟩
    · exact .inl hn
    · exact .inr ⟨g, cap, cur, fz, rfl, hg, hk.heap hgg (fun hm => by have := hS _ hm; omega), rest⟩
  exact h.imp (key _) (key _)
end Go.Proofs.YtlnmjpacagimnaaDoor
