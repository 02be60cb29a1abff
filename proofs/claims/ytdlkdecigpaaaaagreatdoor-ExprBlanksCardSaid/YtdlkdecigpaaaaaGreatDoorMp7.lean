/- Put together: Points and bytes, in plain words: what a point's bytes are, and the point that bytes begin with; What a JSON text's pieces are, by places, in plain words: digits, hexadecimal digits, escapes, numbers; Where a number ends, and whether it is plain, in plain words; A Str's points, in plain words. -/
import Derived.Lib.OthersKept
import Derived.Test.YtdlkdecigpaaaaaGreatDoorMp1
namespace Go.Proofs.YtdlkdecigpaaaaaGreatDoor
set_option linter.unusedVariables false
set_option linter.unusedSimpArgs false
open Go.RowKit

def pointB (n : Int) : Bool := decide (0 ≤ n ∧ n < 55296 ∨ 57343 < n ∧ n ≤ 1114111)
/-- A point's bytes, as numbers. -/
def bytesL (n : Int) : List Int :=
  if n < 128 then [n] else if n < 2048 then [192 + n / 64, 128 + n % 64] else if n < 65536 then [224 + n / 4096, 128 + n / 64 % 64, 128 + n % 64]
  else [240 + n / 262144, 128 + n / 4096 % 64, 128 + n / 64 % 64, 128 + n % 64]
def headV (k : Nat) : Int := [0, 0, 192, 224, 240].getD k 0
/-- What so many bytes are, as if they were a point's. -/
def candF (s : ByteArray) (i : Int) (k : Nat) : Nat → Int
  | 0 => bt s i - headV k
  | j + 1 => candF s i k j * 64 + bt s (i + (j + 1 : Nat)) - 128
def cand (s : ByteArray) (i : Int) (k : Nat) : Int := candF s i k (k - 1)
/-- The bytes from a place on are these. -/
def atL (s : ByteArray) (i : Int) : List Int → Bool
  | [] => true
  | b :: r => (b == bt s i) && atL s (i + 1) r
def okAt (s : ByteArray) (i : Int) (k : Nat) : Bool := decide (i + k ≤ s.size) && (pointB (cand s i k) && (((bytesL (cand s i k)).length == k) && atL s i (bytesL (cand s i k))))
/-- The point that bytes begin with at a place, and how many bytes it has; none: -1, 0. -/
def first (s : ByteArray) (i : Int) : Int × Int :=
  if okAt s i 1 then (cand s i 1, 1) else if okAt s i 2 then (cand s i 2, 2) else if okAt s i 3 then (cand s i 3, 3) else if okAt s i 4 then (cand s i 4, 4) else (-1, 0)

theorem cand1 (s : ByteArray) (i : Int) : cand s i 1 = bt s i := by simp [cand, candF, headV]
theorem cand2 (s : ByteArray) (i : Int) : cand s i 2 = (bt s i - 192) * 64 + bt s (i + 1) - 128 := by simp [cand, candF, headV]
theorem cand3 (s : ByteArray) (i : Int) : cand s i 3 = ((bt s i - 224) * 64 + bt s (i + 1) - 128) * 64 + bt s (i + 2) - 128 := by simp [cand, candF, headV]
theorem cand4 (s : ByteArray) (i : Int) : cand s i 4 = (((bt s i - 240) * 64 + bt s (i + 1) - 128) * 64 + bt s (i + 2) - 128) * 64 + bt s (i + 3) - 128 := by simp [cand, candF, headV]
theorem atL1 (s : ByteArray) (i a : Int) : atL s i [a] = decide (a = bt s i) := by rw [Bool.eq_iff_iff]; simp [atL]
theorem atL2 (s : ByteArray) (i a b : Int) : atL s i [a, b] = decide (a = bt s i ∧ b = bt s (i + 1)) := by rw [Bool.eq_iff_iff]; simp [atL]
theorem atL3 (s : ByteArray) (i a b c : Int) : atL s i [a, b, c] = decide (a = bt s i ∧ b = bt s (i + 1) ∧ c = bt s (i + 2)) := by rw [Bool.eq_iff_iff]; simp [atL, show i + 1 + 1 = i + 2 from by omega]
theorem atL4 (s : ByteArray) (i a b c d : Int) : atL s i [a, b, c, d] = decide (a = bt s i ∧ b = bt s (i + 1) ∧ c = bt s (i + 2) ∧ d = bt s (i + 3)) := by
  rw [Bool.eq_iff_iff]; simp [atL, show i + 1 + 1 = i + 2 from by omega, show i + 2 + 1 = i + 3 from by omega]
theorem bytes1 {n : Int} (h : n < 128) : bytesL n = [n] := by simp [bytesL, h]
theorem bytes2 {n : Int} (h : 128 ≤ n) (k : n < 2048) : bytesL n = [192 + n / 64, 128 + n % 64] := by rw [bytesL, if_neg (by omega), if_pos k]
theorem bytes3 {n : Int} (h : 2048 ≤ n) (k : n < 65536) : bytesL n = [224 + n / 4096, 128 + n / 64 % 64, 128 + n % 64] := by rw [bytesL, if_neg (by omega), if_neg (by omega), if_pos k]
theorem bytes4 {n : Int} (h : 65536 ≤ n) : bytesL n = [240 + n / 262144, 128 + n / 4096 % 64, 128 + n / 64 % 64, 128 + n % 64] := by rw [bytesL, if_neg (by omega), if_neg (by omega), if_neg (by omega)]
theorem bytes_len (n : Int) : (bytesL n).length = if n < 128 then 1 else if n < 2048 then 2 else if n < 65536 then 3 else 4 := by
  unfold bytesL
  by_cases h : n < 128
  · simp [h]
  · by_cases k : n < 2048
    · simp [h, k]
    · by_cases l : n < 65536 <;> simp [h, k, l]
theorem len1 {n : Int} : ((bytesL n).length == 1) = decide (n < 128) := by
  rw [bytes_len, Bool.eq_iff_iff]
  split
  · simp; omega
  · split
    · simp; omega
    · split <;> simp <;> omega
theorem len2 {n : Int} : ((bytesL n).length == 2) = decide (128 ≤ n ∧ n < 2048) := by
  rw [bytes_len]
  by_cases h : n < 128
  · rw [if_pos h, Bool.eq_iff_iff]; simp; omega
  · rw [if_neg h]
    by_cases k : n < 2048
    · rw [if_pos k, Bool.eq_iff_iff]; simp; omega
    · rw [if_neg k, Bool.eq_iff_iff]; split <;> simp <;> omega
theorem len3 {n : Int} : ((bytesL n).length == 3) = decide (2048 ≤ n ∧ n < 65536) := by
  rw [bytes_len, Bool.eq_iff_iff]
  split
  · simp; omega
  · split
    · simp; omega
    · split <;> simp <;> omega
theorem len4 {n : Int} : ((bytesL n).length == 4) = decide (65536 ≤ n) := by
  rw [bytes_len, Bool.eq_iff_iff]
  split
  · simp; omega
  · split
    · simp; omega
    · split <;> simp <;> omega
theorem ok1 (s : ByteArray) (i : Int) : okAt s i 1 = decide (i + 1 ≤ s.size ∧ bt s i < 128) := by
  have h0 := bt_range s i
  rw [Bool.eq_iff_iff, okAt, cand1, len1, pointB]
  simp only [Bool.and_eq_true, decide_eq_true_eq]
  constructor
  · rintro ⟨h1, h2, h3, h4⟩; exact ⟨by simpa using h1, h3⟩
  · rintro ⟨h1, h2⟩; rw [bytes1 h2, atL1]; exact ⟨by simpa using h1, by omega, h2, by simp⟩
theorem ok2 (s : ByteArray) (i : Int) : okAt s i 2 = decide (i + 2 ≤ s.size ∧ 194 ≤ bt s i ∧ bt s i < 224 ∧ 128 ≤ bt s (i + 1) ∧ bt s (i + 1) < 192) := by
  have h0 := bt_range s i
  have h1 := bt_range s (i + 1)
  rw [Bool.eq_iff_iff, okAt, cand2, len2, pointB]
  simp only [Bool.and_eq_true, decide_eq_true_eq]
  constructor
  · rintro ⟨g1, g2, g3, g4⟩
    rw [bytes2 g3.1 g3.2, atL2, decide_eq_true_eq] at g4
    have g1' : i + 2 ≤ s.size := by simpa using g1
    omega
  · rintro ⟨g1, g2⟩
    have hb : 128 ≤ (bt s i - 192) * 64 + bt s (i + 1) - 128 ∧ (bt s i - 192) * 64 + bt s (i + 1) - 128 < 2048 := by omega
    rw [bytes2 hb.1 hb.2, atL2, decide_eq_true_eq]
    exact ⟨by simpa using g1, by omega, hb, by omega⟩
theorem ok3 (s : ByteArray) (i : Int) : okAt s i 3 = decide (i + 3 ≤ s.size ∧ 224 ≤ bt s i ∧ bt s i < 240 ∧ 128 ≤ bt s (i + 1) ∧ bt s (i + 1) < 192 ∧ 128 ≤ bt s (i + 2) ∧ bt s (i + 2) < 192 ∧ 2048 ≤ cand s i 3 ∧ pointB (cand s i 3) = true) := by
  have h0 := bt_range s i
  have h1 := bt_range s (i + 1)
  have h2 := bt_range s (i + 2)
  rw [Bool.eq_iff_iff, okAt, cand3, len3, pointB]
  simp only [Bool.and_eq_true, decide_eq_true_eq]
  constructor
  · rintro ⟨g1, g2, g3, g4⟩
    rw [bytes3 g3.1 g3.2, atL3, decide_eq_true_eq] at g4
    have g1' : i + 3 ≤ s.size := by simpa using g1
    omega
  · rintro ⟨g1, g2⟩
    have hb : 2048 ≤ ((bt s i - 224) * 64 + bt s (i + 1) - 128) * 64 + bt s (i + 2) - 128 ∧ ((bt s i - 224) * 64 + bt s (i + 1) - 128) * 64 + bt s (i + 2) - 128 < 65536 := by omega
    rw [bytes3 hb.1 hb.2, atL3, decide_eq_true_eq]
    exact ⟨by simpa using g1, by omega, hb, by omega⟩
theorem ok4 (s : ByteArray) (i : Int) : okAt s i 4 = decide (i + 4 ≤ s.size ∧ 240 ≤ bt s i ∧ bt s i < 248 ∧ 128 ≤ bt s (i + 1) ∧ bt s (i + 1) < 192 ∧ 128 ≤ bt s (i + 2) ∧ bt s (i + 2) < 192 ∧ 128 ≤ bt s (i + 3) ∧ bt s (i + 3) < 192 ∧ 65536 ≤ cand s i 4 ∧ pointB (cand s i 4) = true) := by
  have h0 := bt_range s i
  have h1 := bt_range s (i + 1)
  have h2 := bt_range s (i + 2)
  have h3 := bt_range s (i + 3)
  rw [Bool.eq_iff_iff, okAt, cand4, len4, pointB]
  simp only [Bool.and_eq_true, decide_eq_true_eq]
  constructor
  · rintro ⟨g1, g2, g3, g4⟩
    rw [bytes4 g3, atL4, decide_eq_true_eq] at g4
    have g1' : i + 4 ≤ s.size := by simpa using g1
    omega
  · rintro ⟨g1, g2⟩
    have hb : 65536 ≤ (((bt s i - 240) * 64 + bt s (i + 1) - 128) * 64 + bt s (i + 2) - 128) * 64 + bt s (i + 3) - 128 := by omega
    rw [bytes4 hb, atL4, decide_eq_true_eq]
    exact ⟨by simpa using g1, by omega, hb, by omega⟩

/-! ### the model's own decoding -/
theorem get_bt (s : ByteArray) (j : Nat) (h : j < s.size) : ((s.get! j).toNat : Int) = bt s j := by
  have := bt_at s j (by simpa using h)
  simp only [Int.toNat_natCast] at this
  rw [← this]
  simp [ByteArray.get!, h]
  rfl
/-- The model's decoding, over four numbers; which of the last three are there. -/
def decN (a b c d : Nat) (k1 k2 k3 : Prop) [Decidable k1] [Decidable k2] [Decidable k3] : Nat × Nat :=
  if a < 128 then (a, 1)
  else if a / 32 = 6 ∧ (k1 ∧ b / 64 = 2) then (if 128 ≤ a % 32 * 64 + b % 64 then (a % 32 * 64 + b % 64, 2) else (65533, 1))
  else if a / 16 = 14 ∧ (k1 ∧ b / 64 = 2) ∧ (k2 ∧ c / 64 = 2) then
    (if 2048 ≤ a % 16 * 4096 + b % 64 * 64 + c % 64 ∧ (a % 16 * 4096 + b % 64 * 64 + c % 64 < 55296 ∨ 57344 ≤ a % 16 * 4096 + b % 64 * 64 + c % 64) then (a % 16 * 4096 + b % 64 * 64 + c % 64, 3) else (65533, 1))
  else if a / 8 = 30 ∧ (k1 ∧ b / 64 = 2) ∧ (k2 ∧ c / 64 = 2) ∧ (k3 ∧ d / 64 = 2) then
    (if 65536 ≤ a % 8 * 262144 + b % 64 * 4096 + c % 64 * 64 + d % 64 ∧ a % 8 * 262144 + b % 64 * 4096 + c % 64 * 64 + d % 64 ≤ 1114111 then (a % 8 * 262144 + b % 64 * 4096 + c % 64 * 64 + d % 64, 4) else (65533, 1))
  else (65533, 1)
theorem ite_cond {α : Type} {p q : Prop} [Decidable p] [Decidable q] {x y x' y' : α} (h : p ↔ q) (hx : x = x') (hy : y = y') : (if p then x else y) = if q then x' else y' := by
  subst hx; subst hy
  by_cases hp : p
  · rw [if_pos hp, if_pos (h.1 hp)]
  · rw [if_neg hp, if_neg (fun k => hp (h.2 k))]
theorem decode_decN (s : ByteArray) : Utf8.decode s 0 = decN (s.get! 0).toNat (s.get! 1).toNat (s.get! 2).toNat (s.get! 3).toNat (1 < s.size) (2 < s.size) (3 < s.size) := by
  have hb : (s.get! 1).toNat < 256 := (s.get! 1).toNat_lt
  have hc : (s.get! 2).toNat < 256 := (s.get! 2).toNat_lt
  have hd : (s.get! 3).toNat < 256 := (s.get! 3).toNat_lt
  have ha : (s.get! 0).toNat < 256 := (s.get! 0).toNat_lt
  unfold Utf8.decode decN Utf8.runeError Utf8.valid
  simp only [Nat.zero_add, Nat.add_zero]
  refine ite_cond (by simp) rfl ?_
  refine ite_cond (by simp [Bool.and_eq_true]) (ite_cond (by simp) rfl rfl) ?_
  refine ite_cond (by simp [Bool.and_eq_true, and_assoc]) (ite_cond (by simp only [Bool.and_eq_true, Bool.or_eq_true, decide_eq_true_eq]; omega) rfl rfl) ?_
  refine ite_cond (by simp [Bool.and_eq_true, and_assoc]) (ite_cond (by simp only [Bool.and_eq_true, Bool.or_eq_true, decide_eq_true_eq]; omega) rfl rfl) rfl
/-- What glyph.Decode answers. -/
theorem decode_first (s : ByteArray) (h : 0 < s.size) :
    first s 0 = if (Utf8.decode s 0).1 = 65533 ∧ ¬ (3 ≤ s.size ∧ bt s 0 = 239 ∧ bt s 1 = 191 ∧ bt s 2 = 189) then (-1, 0) else (((Utf8.decode s 0).1 : Int), ((Utf8.decode s 0).2 : Int)) := by
  have q0 : (s.get! 0).toNat < 256 := (s.get! 0).toNat_lt
  have q1 : (s.get! 1).toNat < 256 := (s.get! 1).toNat_lt
  have q2 : (s.get! 2).toNat < 256 := (s.get! 2).toNat_lt
  have q3 : (s.get! 3).toNat < 256 := (s.get! 3).toNat_lt
  have b0 : ((s.get! 0).toNat : Int) = bt s 0 := get_bt s 0 h
  have b1 : 1 < s.size → ((s.get! 1).toNat : Int) = bt s 1 := get_bt s 1
  have b2 : 2 < s.size → ((s.get! 2).toNat : Int) = bt s 2 := get_bt s 2
  have b3 : 3 < s.size → ((s.get! 3).toNat : Int) = bt s 3 := get_bt s 3
  rw [decode_decN]
  unfold first
  rw [ok1, ok2, ok3, ok4, cand1, cand2, cand3, cand4]
  simp only [Int.zero_add, decide_eq_true_eq, pointB, ← b0]
  generalize (s.get! 0).toNat = a at *
  generalize (s.get! 1).toNat = b at *
  generalize (s.get! 2).toNat = c at *
  generalize (s.get! 3).toNat = d at *
  generalize bt s 1 = x1 at *
  generalize bt s 2 = x2 at *
  generalize bt s 3 = x3 at *
  generalize s.size = n at *
  unfold decN
  by_cases h1 : a < 128
  · rw [if_pos h1, if_pos (by omega), if_neg (by simp only; omega)]; rfl
  · rw [if_neg h1, if_neg (by omega)]
    by_cases h2 : a / 32 = 6 ∧ (1 < n ∧ b / 64 = 2)
    · have := b1 h2.2.1
      rw [if_pos h2]
      by_cases g : 128 ≤ a % 32 * 64 + b % 64
      · rw [if_pos g, if_pos (by omega), if_neg (by simp only; omega)]
        simp only [Prod.mk.injEq]; omega
      · rw [if_neg g, if_neg (by omega), if_neg (by omega), if_neg (by omega), if_pos ⟨rfl, by omega⟩]
    · rw [if_neg h2, if_neg (by omega)]
      by_cases h3 : a / 16 = 14 ∧ (1 < n ∧ b / 64 = 2) ∧ (2 < n ∧ c / 64 = 2)
      · have e1 := b1 h3.2.1.1
        have e2 := b2 h3.2.2.1
        rw [if_pos h3]
        by_cases g : 2048 ≤ a % 16 * 4096 + b % 64 * 64 + c % 64 ∧ (a % 16 * 4096 + b % 64 * 64 + c % 64 < 55296 ∨ 57344 ≤ a % 16 * 4096 + b % 64 * 64 + c % 64)
        · rw [if_pos g, if_pos (by omega), if_neg (by simp only; omega)]
          simp only [Prod.mk.injEq]; omega
        · rw [if_neg g, if_neg (by omega), if_neg (by omega), if_pos ⟨rfl, by omega⟩]
      · rw [if_neg h3, if_neg (by omega)]
        by_cases h4 : a / 8 = 30 ∧ (1 < n ∧ b / 64 = 2) ∧ (2 < n ∧ c / 64 = 2) ∧ (3 < n ∧ d / 64 = 2)
        · have e1 := b1 h4.2.1.1
          have e2 := b2 h4.2.2.1.1
          have e3 := b3 h4.2.2.2.1
          rw [if_pos h4]
          by_cases g : 65536 ≤ a % 8 * 262144 + b % 64 * 4096 + c % 64 * 64 + d % 64 ∧ a % 8 * 262144 + b % 64 * 4096 + c % 64 * 64 + d % 64 ≤ 1114111
          · rw [if_pos g, if_pos (by omega), if_neg (by simp only; omega)]
            simp only [Prod.mk.injEq]; omega
          · rw [if_neg g, if_neg (by omega), if_pos ⟨rfl, by omega⟩]
        · rw [if_neg h4, if_neg (by omega), if_pos ⟨rfl, by omega⟩]
end Go.Proofs.YtdlkdecigpaaaaaGreatDoor
namespace Go.Proofs.YtdlkdecigpaaaaaGreatDoor
set_option linter.unusedVariables false
set_option linter.unusedSimpArgs false
open Go.RowKit

theorem bt_nat (s : ByteArray) (p : Nat) : ∀ h : p < s.size, ((s[p]'h).toNat : Int) = bt s p := fun h => by have := bt_at s p (by simpa using h); simpa using this
/-- A hexadecimal digit's number; -1: it is none. -/
def hexV (c : Int) : Int := if 48 ≤ c ∧ c ≤ 57 then c - 48 else if 97 ≤ c ∧ c ≤ 102 then c - 87 else if 65 ≤ c ∧ c ≤ 70 then c - 55 else -1
theorem hexV_range (c : Int) : -1 ≤ hexV c ∧ hexV c ≤ 15 := by unfold hexV; split; omega; split; omega; split <;> omega
def hexAt (s : ByteArray) (i : Int) : Int := if i < s.size then hexV (bt s i) else -1
theorem hexAt_range (s : ByteArray) (i : Int) : -1 ≤ hexAt s i ∧ hexAt s i ≤ 15 := by
  unfold hexAt; split
  · exact hexV_range _
  · omega
theorem hexAt_lt {s : ByteArray} {i : Int} (h : 0 ≤ hexAt s i) : i < s.size := by unfold hexAt at h; split at h <;> omega
/-- The number of so many more hexadecimal digits, and the place behind them; or -1, and the place of what is none. -/
def fourF (s : ByteArray) : Nat → Int → Int → Int × Int
  | 0, n, i => (n, i)
  | k + 1, n, i => if hexAt s i < 0 then (-1, i) else fourF s k (n * 16 + hexAt s i) (i + 1)
def four (s : ByteArray) (i : Int) : Int × Int := fourF s 4 0 i
theorem fourF_range (s : ByteArray) : ∀ (k : Nat) (n i : Int), 0 ≤ n → -1 ≤ (fourF s k n i).1 ∧ (fourF s k n i).1 < (n + 1) * 16 ^ k ∧ i ≤ (fourF s k n i).2 ∧ (fourF s k n i).2 ≤ i + k
  | 0, n, i, h => by simp [fourF]; omega
  | k + 1, n, i, h => by
    unfold fourF
    have h16 : (0 : Int) < 16 ^ k := Int.pow_pos (by omega)
    split
    · refine ⟨by simp, ?_, by simp, by simp; omega⟩
      have : 0 ≤ (n + 1) * 16 ^ (k + 1) := Int.mul_nonneg (by omega) (Int.le_of_lt (Int.pow_pos (by omega)))
      simp only; omega
    · rename_i hd
      have hr := hexAt_range s i
      obtain ⟨a, b, c, d⟩ := fourF_range s k (n * 16 + hexAt s i) (i + 1) (by omega)
      refine ⟨a, Int.lt_of_lt_of_le b ?_, by omega, by omega⟩
      rw [Int.pow_succ, Int.mul_comm (16 ^ k) 16, ← Int.mul_assoc]
      exact Int.mul_le_mul_of_nonneg_right (by omega) (Int.le_of_lt h16)
theorem four_range (s : ByteArray) (i : Int) : -1 ≤ (four s i).1 ∧ (four s i).1 < 65536 ∧ i ≤ (four s i).2 ∧ (four s i).2 ≤ i + 4 := by
  have := fourF_range s 4 0 i (by omega)
  simpa [four] using this
/-- The digits lie inside. -/
theorem fourF_inside (s : ByteArray) : ∀ (k : Nat) (n i : Int), 0 ≤ n → i ≤ s.size → (fourF s k n i).2 ≤ s.size
  | 0, n, i, _, h => by simpa [fourF] using h
  | k + 1, n, i, hn, h => by
    unfold fourF
    split
    · simpa using h
    · rename_i hd
      have := hexAt_lt (s := s) (i := i) (by omega)
      exact fourF_inside s k _ _ (by omega) (by omega)
/-- What a letter behind a backslash is; -1: nothing. -/
def escV (c : Int) : Int := if c = 34 then 34 else if c = 92 then 92 else if c = 47 then 47 else if c = 98 then 8 else if c = 102 then 12 else if c = 110 then 10 else if c = 114 then 13 else if c = 116 then 9 else -1
def escAt (s : ByteArray) (i : Int) : Int := if i < s.size then escV (bt s i) else -1
theorem escAt_range (s : ByteArray) (i : Int) : -1 ≤ escAt s i ∧ escAt s i ≤ 92 := by
  unfold escAt escV; repeat' split
  all_goals omega
theorem escAt_lt {s : ByteArray} {i : Int} (h : 0 ≤ escAt s i) : i < s.size := by unfold escAt at h; split at h <;> omega
/-- The point of an escape whose backslash stands at a place, the place behind it, or the error's; the error. -/
def escape (s : ByteArray) (i : Int) : Int × Int × Int :=
  if 0 ≤ escAt s (i + 1) then (escAt s (i + 1), i + 2, 0)
  else if isAt s (i + 1) 117 = false then (0, i + 1, 1)
  else if (four s (i + 2)).1 < 0 then (0, (four s (i + 2)).2, 1)
  else if pointB (four s (i + 2)).1 then ((four s (i + 2)).1, (four s (i + 2)).2, 0)
  else if (four s (i + 2)).1 < 56320 ∧ isAt s (four s (i + 2)).2 92 = true ∧ isAt s ((four s (i + 2)).2 + 1) 117 = true ∧ 56320 ≤ (four s ((four s (i + 2)).2 + 2)).1 ∧ (four s ((four s (i + 2)).2 + 2)).1 ≤ 57343 then
    (65536 + ((four s (i + 2)).1 - 55296) * 1024 + (four s ((four s (i + 2)).2 + 2)).1 - 56320, (four s ((four s (i + 2)).2 + 2)).2, 0)
  else (0, i, 3)
end Go.Proofs.YtdlkdecigpaaaaaGreatDoor
namespace Go.Proofs.YtdlkdecigpaaaaaGreatDoor
set_option linter.unusedVariables false
set_option linter.unusedSimpArgs false
open Go.RowKit

def signEnd (s : ByteArray) (i : Int) : Int := if isAt s i 45 then i + 1 else i
def wholeEnd (s : ByteArray) (a : Int) : Int := if bt s a = 48 then a + 1 else digitsEnd s a
def fracEnd (s : ByteArray) (b : Int) : Int := if isAt s b 46 then digitsEnd s (b + 1) else b
def expSign (s : ByteArray) (c : Int) : Int := if isAt s c 43 || isAt s c 45 then c + 1 else c
/-- What stands behind the whole part. -/
def numberE (s : ByteArray) (c : Int) (plain : Bool) : Int × Bool × Bool :=
  if isAt s c 101 || isAt s c 69 then (if digitAt s (expSign s (c + 1)) then (digitsEnd s (expSign s (c + 1)), false, true) else (expSign s (c + 1), false, false)) else (c, plain, true)
def numberD (s : ByteArray) (b : Int) : Int × Bool × Bool :=
  if isAt s b 46 then (if digitAt s (b + 1) then numberE s (digitsEnd s (b + 1)) false else (b + 1, false, false)) else numberE s b true
def numberF (s : ByteArray) (i : Int) : Int × Bool × Bool :=
  if digitAt s (signEnd s i) then numberD s (wholeEnd s (signEnd s i)) else (signEnd s i, false, false)
theorem digitsEnd_le {s : ByteArray} {i : Int} (h0 : 0 ≤ i) (h : i ≤ s.size) : digitsEnd s i ≤ s.size := upTo_le h0 h
theorem digitsEnd_ge {s : ByteArray} {i : Int} : i ≤ digitsEnd s i := upTo_ge
def numV (t : Int × Bool × Bool) : Value := .tuple #[.int .i64 t.1, .bool t.2.1, .bool t.2.2]
end Go.Proofs.YtdlkdecigpaaaaaGreatDoor
namespace Go.Proofs.YtdlkdecigpaaaaaGreatDoor
set_option linter.unusedVariables false
set_option linter.unusedSimpArgs false
open Go.RowKit

theorem first_range {s : ByteArray} {i : Int} : (first s i).2 = 0 ∧ (first s i).1 = -1 ∨ (1 ≤ (first s i).2 ∧ (first s i).2 ≤ 4 ∧ i + (first s i).2 ≤ s.size ∧ pointB (first s i).1 = true) := by
  have ho : ∀ k : Nat, okAt s i k = true → i + k ≤ s.size ∧ pointB (cand s i k) = true := by
    intro k h
    simp only [okAt, Bool.and_eq_true, decide_eq_true_eq] at h
    exact ⟨h.1, h.2.1⟩
  unfold first
  split
  · rename_i h; have := ho 1 h; exact .inr ⟨by simp, by simp, by simpa using this.1, this.2⟩
  · split
    · rename_i h; have := ho 2 h; exact .inr ⟨by simp, by simp, by simpa using this.1, this.2⟩
    · split
      · rename_i h; have := ho 3 h; exact .inr ⟨by simp, by simp, by simpa using this.1, this.2⟩
      · split
        · rename_i h; have := ho 4 h; exact .inr ⟨by simp, by simp, by simpa using this.1, this.2⟩
        · exact .inl ⟨rfl, rfl⟩
theorem pointB_small {n : Int} (h : 0 ≤ n) (k : n < 55296) : pointB n = true := by simp [pointB]; omega
theorem escape_ok {s : ByteArray} {i : Int} (h0 : 0 ≤ i) (h : (escape s i).2.2 = 0) (hi : i < s.size) : i + 2 ≤ (escape s i).2.1 ∧ (escape s i).2.1 ≤ s.size ∧ pointB (escape s i).1 = true := by
  unfold escape at h ⊢
  have e := escAt_range s (i + 1)
  have f := four_range s (i + 2)
  have g := four_range s ((four s (i + 2)).2 + 2)
  by_cases c1 : 0 ≤ escAt s (i + 1)
  · have := escAt_lt c1
    simp only [if_pos c1] at h ⊢
    exact ⟨by omega, by omega, pointB_small c1 (by omega)⟩
  · simp only [if_neg c1] at h ⊢
    by_cases c2 : isAt s (i + 1) 117 = false
    · simp [if_pos c2] at h
    · simp only [if_neg c2] at h ⊢
      have hu := isAt_lt (s := s) (i := i + 1) (c := 117) (by simpa using c2)
      have hin := fourF_inside s 4 0 (i + 2) (by omega) (by omega)
      by_cases c3 : (four s (i + 2)).1 < 0
      · simp [if_pos c3] at h
      · simp only [if_neg c3] at h ⊢
        by_cases c4 : pointB (four s (i + 2)).1 = true
        · simp only [if_pos c4] at h ⊢
          exact ⟨by omega, hin, c4⟩
        · simp only [if_neg c4] at h ⊢
          by_cases c5 : (four s (i + 2)).1 < 56320 ∧ isAt s (four s (i + 2)).2 92 = true ∧ isAt s ((four s (i + 2)).2 + 1) 117 = true ∧ 56320 ≤ (four s ((four s (i + 2)).2 + 2)).1 ∧ (four s ((four s (i + 2)).2 + 2)).1 ≤ 57343
          · simp only [if_pos c5] at h ⊢
            have hu2 := isAt_lt c5.2.2.1
            have hin2 := fourF_inside s 4 0 ((four s (i + 2)).2 + 2) (by omega) (by omega)
            refine ⟨by omega, hin2, ?_⟩
            simp [pointB] at c4 ⊢; omega
          · simp [if_neg c5] at h
theorem escape_place {s : ByteArray} {i : Int} (h0 : 0 ≤ i) (hi : i < s.size) : i ≤ (escape s i).2.1 ∧ (escape s i).2.1 ≤ i + 12 := by
  unfold escape
  have f := four_range s (i + 2)
  have g := four_range s ((four s (i + 2)).2 + 2)
  repeat' split
  all_goals simp only; omega
/-- The points of a Str from a place behind its head on, the place behind it, or the error's; the error. -/
def textF (s : ByteArray) : Nat → Int → List Int → List Int × Int × Int
  | 0, i, _ => ([], i, 1)
  | k + 1, i, acc =>
    if ¬ i < s.size ∨ bt s i < 32 then ([], i, 1)
    else if bt s i = 34 then (acc, i + 1, 0)
    else if bt s i = 92 then (if (escape s i).2.2 = 0 then textF s k (escape s i).2.1 (acc ++ [(escape s i).1]) else ([], (escape s i).2.1, (escape s i).2.2))
    else if (first s i).2 = 0 then ([], i, 2)
    else textF s k (i + (first s i).2) (acc ++ [(first s i).1])
def textAt (s : ByteArray) (i : Int) (acc : List Int) : List Int × Int × Int := textF s (s.size + 1 - i.toNat) i acc
theorem textF_more (s : ByteArray) : ∀ (k m : Nat) (i : Int) (acc : List Int), 0 ≤ i → s.size + 1 - i.toNat ≤ k → s.size + 1 - i.toNat ≤ m → textF s k i acc = textF s m i acc
  | 0, m, i, acc, h0, hk, _ => by
    have hi : ¬ i < s.size := by omega
    cases m with
    | zero => rfl
    | succ m => simp [textF, hi]
  | k + 1, 0, i, acc, h0, _, hm => by
    have hi : ¬ i < s.size := by omega
    simp [textF, hi]
  | k + 1, m + 1, i, acc, h0, hk, hm => by
    unfold textF
    by_cases c1 : ¬ i < s.size ∨ bt s i < 32
    · rw [if_pos c1, if_pos c1]
    · rw [if_neg c1, if_neg c1]
      by_cases c2 : bt s i = 34
      · rw [if_pos c2, if_pos c2]
      · rw [if_neg c2, if_neg c2]
        by_cases c3 : bt s i = 92
        · rw [if_pos c3, if_pos c3]
          by_cases c4 : (escape s i).2.2 = 0
          · rw [if_pos c4, if_pos c4]
            have := escape_ok h0 c4 (by omega)
            exact textF_more s k m _ _ (by omega) (by omega) (by omega)
          · rw [if_neg c4, if_neg c4]
        · rw [if_neg c3, if_neg c3]
          by_cases c4 : (first s i).2 = 0
          · rw [if_pos c4, if_pos c4]
          · rw [if_neg c4, if_neg c4]
            have := first_range (s := s) (i := i)
            exact textF_more s k m _ _ (by omega) (by omega) (by omega)
theorem textAt_step {s : ByteArray} {i : Int} {acc : List Int} (h0 : 0 ≤ i) : textAt s i acc =
    if ¬ i < s.size ∨ bt s i < 32 then ([], i, 1)
    else if bt s i = 34 then (acc, i + 1, 0)
    else if bt s i = 92 then (if (escape s i).2.2 = 0 then textAt s (escape s i).2.1 (acc ++ [(escape s i).1]) else ([], (escape s i).2.1, (escape s i).2.2))
    else if (first s i).2 = 0 then ([], i, 2)
    else textAt s (i + (first s i).2) (acc ++ [(first s i).1]) := by
  have h := textF_more s (s.size + 1 - i.toNat) (s.size + 1 - i.toNat + 1) i acc h0 (by omega) (by omega)
  unfold textAt
  rw [h]
  conv => lhs; unfold textF
  by_cases c1 : ¬ i < s.size ∨ bt s i < 32
  · rw [if_pos c1, if_pos c1]
  · rw [if_neg c1, if_neg c1]
    by_cases c2 : bt s i = 34
    · rw [if_pos c2, if_pos c2]
    · rw [if_neg c2, if_neg c2]
      by_cases c3 : bt s i = 92
      · rw [if_pos c3, if_pos c3]
        by_cases c4 : (escape s i).2.2 = 0
        · rw [if_pos c4, if_pos c4]
          have := escape_ok h0 c4 (by omega)
          exact textF_more s _ _ _ _ (by omega) (by omega) (by omega)
        · rw [if_neg c4, if_neg c4]
      · rw [if_neg c3, if_neg c3]
        by_cases c4 : (first s i).2 = 0
        · rw [if_pos c4, if_pos c4]
        · rw [if_neg c4, if_neg c4]
          have := first_range (s := s) (i := i)
          exact textF_more s _ _ _ _ (by omega) (by omega) (by omega)
end Go.Proofs.YtdlkdecigpaaaaaGreatDoor
