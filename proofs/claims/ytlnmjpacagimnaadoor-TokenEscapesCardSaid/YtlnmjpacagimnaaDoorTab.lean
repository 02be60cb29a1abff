/- What the lexer's tables of bytes say. -/
import Derived.Test.YtlnmjpacagimnaaDoorLex
import Derived.Test.YtlnmjpacagimnaaDoorNumF
namespace Go.Proofs.YtlnmjpacagimnaaDoor
set_option linter.unusedVariables false
set_option linter.unusedSimpArgs false
open Go.RowKit

def hexesS : ByteArray := ⟨#[48, 49, 50, 51, 52, 53, 54, 55, 56, 57, 97, 98, 99, 100, 101, 102, 48, 49, 50, 51, 52, 53, 54, 55, 56, 57, 65, 66, 67, 68, 69, 70]⟩
def digitsS : ByteArray := ⟨#[48, 49, 50, 51, 52, 53, 54, 55, 56, 57]⟩
def blanksS : ByteArray := ⟨#[32, 9, 10, 13]⟩
def marksS : ByteArray := ⟨#[123, 125, 91, 93, 58, 44]⟩
def minusS : ByteArray := ⟨#[45, 48, 49, 50, 51, 52, 53, 54, 55, 56, 57]⟩
def expS : ByteArray := ⟨#[101, 69]⟩
def signS : ByteArray := ⟨#[43, 45]⟩
def lettS : ByteArray := ⟨#[34, 92, 47, 98, 102, 110, 114, 116]⟩
def poinS : ByteArray := ⟨#[34, 92, 47, 8, 12, 10, 13, 9]⟩
def byteS (c : Int) : ByteArray := ⟨#[c.toNat.toUInt8]⟩
def markB (c : Int) : Bool := c == 123 || (c == 125 || (c == 91 || (c == 93 || (c == 58 || c == 44))))
/-- What holds of each byte's number holds of the byte at a place. -/
theorem byte_all {p : Int → Prop} (h : ∀ n : Nat, n < 256 → p n) (s : ByteArray) (i : Int) : p (bt s i) := by
  have hb := bt_range s i
  have := h (bt s i).toNat (by omega)
  rwa [Int.toNat_of_nonneg hb.1] at this
theorem hex_tab : ∀ n : Nat, n < 256 → memB hexesS n = decide (0 ≤ hexV n) ∧ (0 ≤ hexV n → Lib.indexByte hexesS.data.toList (n : Int).toNat.toUInt8 % 16 = hexV n ∧ 0 ≤ Lib.indexByte hexesS.data.toList (n : Int).toNat.toUInt8 ∧ Lib.indexByte hexesS.data.toList (n : Int).toNat.toUInt8 ≤ 31) := by decide +kernel
theorem lett_tab : ∀ n : Nat, n < 256 → memB lettS n = decide (0 ≤ escV n) ∧ (0 ≤ escV n → bt poinS (Lib.indexByte lettS.data.toList (n : Int).toNat.toUInt8) = escV n ∧ 0 ≤ Lib.indexByte lettS.data.toList (n : Int).toNat.toUInt8 ∧ Lib.indexByte lettS.data.toList (n : Int).toNat.toUInt8 ≤ 7) := by decide +kernel
theorem dig_tab : ∀ n : Nat, n < 256 → memB digitsS n = digitB n := by decide +kernel
theorem blank_tab : ∀ n : Nat, n < 256 → memB blanksS n = ((n : Int) == 32 || ((n : Int) == 9 || ((n : Int) == 10 || (n : Int) == 13))) := by decide +kernel
theorem mark_tab : ∀ n : Nat, n < 256 → memB marksS n = markB n := by decide +kernel
theorem minus_tab : ∀ n : Nat, n < 256 → memB minusS n = ((n : Int) == 45 || digitB n) := by decide +kernel
theorem exp_tab : ∀ n : Nat, n < 256 → memB expS n = ((n : Int) == 101 || (n : Int) == 69) := by decide +kernel
theorem sign_tab : ∀ n : Nat, n < 256 → memB signS n = ((n : Int) == 43 || (n : Int) == 45) := by decide +kernel
theorem has_hex (s : ByteArray) (i : Int) : hasB s i hexesS = decide (0 ≤ hexAt s i) := by
  have h := (byte_all (p := fun c => memB hexesS c = decide (0 ≤ hexV c)) (fun n hn => (hex_tab n hn).1) s i)
  unfold hasB hexAt; rw [h]
  by_cases c : i < s.size <;> simp [c]
theorem has_lett (s : ByteArray) (i : Int) : hasB s i lettS = decide (0 ≤ escAt s i) := by
  have h := (byte_all (p := fun c => memB lettS c = decide (0 ≤ escV c)) (fun n hn => (lett_tab n hn).1) s i)
  unfold hasB escAt; rw [h]
  by_cases c : i < s.size <;> simp [c]
theorem has_dig (s : ByteArray) (i : Int) : hasB s i digitsS = digitAt s i := by
  have h := (byte_all (p := fun c => memB digitsS c = digitB c) dig_tab s i)
  unfold hasB digitAt; rw [h]
theorem has_blank (s : ByteArray) (i : Int) : hasB s i blanksS = isBlank s i := by
  have h := (byte_all (p := fun c => memB blanksS c = (c == 32 || (c == 9 || (c == 10 || c == 13)))) blank_tab s i)
  unfold hasB isBlank isAt; rw [h]
  by_cases c : i < s.size <;> simp [c]
theorem has_exp (s : ByteArray) (i : Int) : hasB s i expS = (isAt s i 101 || isAt s i 69) := by
  have h := (byte_all (p := fun c => memB expS c = (c == 101 || c == 69)) exp_tab s i)
  unfold hasB isAt; rw [h]
  by_cases c : i < s.size <;> simp [c]
theorem has_sign (s : ByteArray) (i : Int) : hasB s i signS = (isAt s i 43 || isAt s i 45) := by
  have h := (byte_all (p := fun c => memB signS c = (c == 43 || c == 45)) sign_tab s i)
  unfold hasB isAt; rw [h]
  by_cases c : i < s.size <;> simp [c]
theorem mem_one (k : UInt8) (n : Nat) (hn : n < 256) : memB ⟨#[k]⟩ n = ((n : Int) == (k.toNat : Int)) := by
  have e : (n : Int).toNat.toUInt8 = k ↔ n = k.toNat := by
    rw [Int.toNat_natCast, ← UInt8.toNat_inj, UInt8.toNat_ofNat_of_lt' (by simpa using hn)]
  rw [Bool.eq_iff_iff]
  unfold memB
  simp only [decide_eq_true_eq, beq_iff_eq]
  by_cases h : n = k.toNat
  · have h1 := e.2 h; simp [Lib.indexByte, h1, h]
  · have h1 : ¬ k = (n : Int).toNat.toUInt8 := fun x => h (e.1 x.symm)
    have h2 : ¬ (n : Int) = (k.toNat : Int) := by omega
    simp only [Lib.indexByte, beq_iff_eq, h1, h2, if_false, if_true]; simp
theorem has_byte (s : ByteArray) (i : Int) (k : UInt8) : hasB s i ⟨#[k]⟩ = isAt s i k.toNat := by
  have h := (byte_all (p := fun c => memB ⟨#[k]⟩ c = (c == (k.toNat : Int))) (mem_one k) s i)
  unfold hasB isAt; rw [h]
theorem pass_dig (s : ByteArray) (i : Int) : passEnd s i digitsS = digitsEnd s i := by
  unfold passEnd digitsEnd
  rw [show (fun j => hasB s j digitsS) = digitAt s from funext (has_dig s)]
theorem pass_blank (s : ByteArray) (i : Int) : passEnd s i blanksS = blanks s i := by
  unfold passEnd blanks
  rw [show (fun j => hasB s j blanksS) = isBlank s from funext (has_blank s)]

end Go.Proofs.YtlnmjpacagimnaaDoor
