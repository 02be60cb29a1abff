/- Points and bytes, in plain words: what a point's bytes are, and the point that bytes begin with. -/
import Derived.Test.YtbajghjdnjodmaaKeeps
import Derived.Lib.OthersKept
namespace Go.Proofs.Ytbajghjdnjodmaa
set_option linter.unusedVariables false
set_option linter.unusedSimpArgs false
open Go.RowKit

def pointB (n : Int) : Bool := decide (0 ≤ n ∧ n < 55296 ∨ 57343 < n ∧ n ≤ 1114111)
/-- A point's bytes, as numbers. -/
def bytesL (n : Int) : List Int :=
  if n < 128 then [n] else if n < 2048 then [192 + n / 64, 128 + n % 64] else if n < 65536 then [224 + n / 4096, 128 + n / 64 % 64, 128 + n % 64]
  else [240 + n / 262144, 128 + n / 4096 % 64, 128 + n / 64 % 64, 128 + n % 64]
def headV (k : Nat) : Int := [0, 0, 192, 224, 240].getD k 0
/-- What so many bytes are, as if they were a point's. -/
def candF (s : ByteArray) (i : Int) (k : Nat) : Nat → Int
  | 0 => bt s i - headV k
  | j + 1 => candF s i k j * 64 + bt s (i + (j + 1 : Nat)) - 128
def cand (s : ByteArray) (i : Int) (k : Nat) : Int := candF s i k (k - 1)
/-- The bytes from a place on are these. -/
def atL (s : ByteArray) (i : Int) : List Int → Bool
  | [] => true
  | b :: r => (b == bt s i) && atL s (i + 1) r
def okAt (s : ByteArray) (i : Int) (k : Nat) : Bool := decide (i + k ≤ s.size) && (pointB (cand s i k) && (((bytesL (cand s i k)).length == k) && atL s i (bytesL (cand s i k))))
/-- The point that bytes begin with at a place, and how many bytes it has; none: -1, 0. -/
def first (s : ByteArray) (i : Int) : Int × Int :=
  if okAt s i 1 then (cand s i 1, 1) else if okAt s i 2 then (cand s i 2, 2) else if okAt s i 3 then (cand s i 3, 3) else if okAt s i 4 then (cand s i 4, 4) else (-1, 0)

theorem cand1 (s : ByteArray) (i : Int) : cand s i 1 = bt s i := by simp [cand, candF, headV]
theorem cand2 (s : ByteArray) (i : Int) : cand s i 2 = (bt s i - 192) * 64 + bt s (i + 1) - 128 := by simp [cand, candF, headV]
theorem cand3 (s : ByteArray) (i : Int) : cand s i 3 = ((bt s i - 224) * 64 + bt s (i + 1) - 128) * 64 + bt s (i + 2) - 128 := by simp [cand, candF, headV]
theorem cand4 (s : ByteArray) (i : Int) : cand s i 4 = (((bt s i - 240) * 64 + bt s (i + 1) - 128) * 64 + bt s (i + 2) - 128) * 64 + bt s (i + 3) - 128 := by simp [cand, candF, headV]
theorem atL1 (s : ByteArray) (i a : Int) : atL s i [a] = decide (a = bt s i) := by rw [Bool.eq_iff_iff]; simp [atL]
theorem atL2 (s : ByteArray) (i a b : Int) : atL s i [a, b] = decide (a = bt s i ∧ b = bt s (i + 1)) := by rw [Bool.eq_iff_iff]; simp [atL]
theorem atL3 (s : ByteArray) (i a b c : Int) : atL s i [a, b, c] = decide (a = bt s i ∧ b = bt s (i + 1) ∧ c = bt s (i + 2)) := by rw [Bool.eq_iff_iff]; simp [atL, show i + 1 + 1 = i + 2 from by omega]
theorem atL4 (s : ByteArray) (i a b c d : Int) : atL s i [a, b, c, d] = decide (a = bt s i ∧ b = bt s (i + 1) ∧ c = bt s (i + 2) ∧ d = bt s (i + 3)) := by
  rw [Bool.eq_iff_iff]; simp [atL, show i + 1 + 1 = i + 2 from by omega, show i + 2 + 1 = i + 3 from by omega]
theorem bytes1 {n : Int} (h : n < 128) : bytesL n = [n] := by simp [bytesL, h]
theorem bytes2 {n : Int} (h : 128 ≤ n) (k : n < 2048) : bytesL n = [192 + n / 64, 128 + n % 64] := by rw [bytesL, if_neg (by omega), if_pos k]
theorem bytes3 {n : Int} (h : 2048 ≤ n) (k : n < 65536) : bytesL n = [224 + n / 4096, 128 + n / 64 % 64, 128 + n % 64] := by rw [bytesL, if_neg (by omega), if_neg (by omega), if_pos k]
theorem bytes4 {n : Int} (h : 65536 ≤ n) : bytesL n = [240 + n / 262144, 128 + n / 4096 % 64, 128 + n / 64 % 64, 128 + n % 64] := by rw [bytesL, if_neg (by omega), if_neg (by omega), if_neg (by omega)]
theorem bytes_len (n : Int) : (bytesL n).length = if n < 128 then 1 else if n < 2048 then 2 else if n < 65536 then 3 else 4 := by
  unfold bytesL
  by_cases h : n < 128
  · simp [h]
  · by_cases k : n < 2048
    · simp [h, k]
    · by_cases l : n < 65536 <;> simp [h, k, l]
theorem len1 {n : Int} : ((bytesL n).length == 1) = decide (n < 128) := by
  rw [bytes_len, Bool.eq_iff_iff]
  split
  · simp; omega
  · split
    · simp; omega
    · split <;> simp <;> omega
theorem len2 {n : Int} : ((bytesL n).length == 2) = decide (128 ≤ n ∧ n < 2048) := by
  rw [bytes_len]
  by_cases h : n < 128
  · rw [if_pos h, Bool.eq_iff_iff]; simp; omega
  · rw [if_neg h]
    by_cases k : n < 2048
    · rw [if_pos k, Bool.eq_iff_iff]; simp; omega
    · rw [if_neg k, Bool.eq_iff_iff]; split <;> simp <;> omega
theorem len3 {n : Int} : ((bytesL n).length == 3) = decide (2048 ≤ n ∧ n < 65536) := by
  rw [bytes_len, Bool.eq_iff_iff]
  split
  · simp; omega
  · split
    · simp; omega
    · split <;> simp <;> omega
theorem len4 {n : Int} : ((bytesL n).length == 4) = decide (65536 ≤ n) := by
  rw [bytes_len, Bool.eq_iff_iff]
  split
  · simp; omega
  · split
    · simp; omega
    · split <;> simp <;> omega
theorem ok1 (s : ByteArray) (i : Int) : okAt s i 1 = decide (i + 1 ≤ s.size ∧ bt s i < 128) := by
  have h0 := bt_range s i
  rw [Bool.eq_iff_iff, okAt, cand1, len1, pointB]
  simp only [Bool.and_eq_true, decide_eq_true_eq]
  constructor
  · rintro ⟨h1, h2, h3, h4⟩; exact ⟨by simpa using h1, h3⟩
  · rintro ⟨h1, h2⟩; rw [bytes1 h2, atL1]; exact ⟨by simpa using h1, by omega, h2, by simp⟩
theorem ok2 (s : ByteArray) (i : Int) : okAt s i 2 = decide (i + 2 ≤ s.size ∧ 194 ≤ bt s i ∧ bt s i < 224 ∧ 128 ≤ bt s (i + 1) ∧ bt s (i + 1) < 192) := by
  have h0 := bt_range s i
  have h1 := bt_range s (i + 1)
  rw [Bool.eq_iff_iff, okAt, cand2, len2, pointB]
  simp only [Bool.and_eq_true, decide_eq_true_eq]
  constructor
  · rintro ⟨g1, g2, g3, g4⟩
    rw [bytes2 g3.1 g3.2, atL2, decide_eq_true_eq] at g4
    have g1' : i + 2 ≤ s.size := by simpa using g1
    omega
  · rintro ⟨g1, g2⟩
    have hb : 128 ≤ (bt s i - 192) * 64 + bt s (i + 1) - 128 ∧ (bt s i - 192) * 64 + bt s (i + 1) - 128 < 2048 := by omega
    rw [bytes2 hb.1 hb.2, atL2, decide_eq_true_eq]
    exact ⟨by simpa using g1, by omega, hb, by omega⟩
theorem ok3 (s : ByteArray) (i : Int) : okAt s i 3 = decide (i + 3 ≤ s.size ∧ 224 ≤ bt s i ∧ bt s i < 240 ∧ 128 ≤ bt s (i + 1) ∧ bt s (i + 1) < 192 ∧ 128 ≤ bt s (i + 2) ∧ bt s (i + 2) < 192 ∧ 2048 ≤ cand s i 3 ∧ pointB (cand s i 3) = true) := by
  have h0 := bt_range s i
  have h1 := bt_range s (i + 1)
  have h2 := bt_range s (i + 2)
  rw [Bool.eq_iff_iff, okAt, cand3, len3, pointB]
  simp only [Bool.and_eq_true, decide_eq_true_eq]
  constructor
  · rintro ⟨g1, g2, g3, g4⟩
    rw [bytes3 g3.1 g3.2, atL3, decide_eq_true_eq] at g4
    have g1' : i + 3 ≤ s.size := by simpa using g1
    omega
  · rintro ⟨g1, g2⟩
    have hb : 2048 ≤ ((bt s i - 224) * 64 + bt s (i + 1) - 128) * 64 + bt s (i + 2) - 128 ∧ ((bt s i - 224) * 64 + bt s (i + 1) - 128) * 64 + bt s (i + 2) - 128 < 65536 := by omega
    rw [bytes3 hb.1 hb.2, atL3, decide_eq_true_eq]
    exact ⟨by simpa using g1, by omega, hb, by omega⟩
theorem ok4 (s : ByteArray) (i : Int) : okAt s i 4 = decide (i + 4 ≤ s.size ∧ 240 ≤ bt s i ∧ bt s i < 248 ∧ 128 ≤ bt s (i + 1) ∧ bt s (i + 1) < 192 ∧ 128 ≤ bt s (i + 2) ∧ bt s (i + 2) < 192 ∧ 128 ≤ bt s (i + 3) ∧ bt s (i + 3) < 192 ∧ 65536 ≤ cand s i 4 ∧ pointB (cand s i 4) = true) := by
  have h0 := bt_range s i
  have h1 := bt_range s (i + 1)
  have h2 := bt_range s (i + 2)
  have h3 := bt_range s (i + 3)
  rw [Bool.eq_iff_iff, okAt, cand4, len4, pointB]
  simp only [Bool.and_eq_true, decide_eq_true_eq]
  constructor
  · rintro ⟨g1, g2, g3, g4⟩
    rw [bytes4 g3, atL4, decide_eq_true_eq] at g4
    have g1' : i + 4 ≤ s.size := by simpa using g1
    omega
  · rintro ⟨g1, g2⟩
    have hb : 65536 ≤ (((bt s i - 240) * 64 + bt s (i + 1) - 128) * 64 + bt s (i + 2) - 128) * 64 + bt s (i + 3) - 128 := by omega
    rw [bytes4 hb, atL4, decide_eq_true_eq]
    exact ⟨by simpa using g1, by omega, hb, by omega⟩

/-! ### the model's own decoding -/
theorem get_bt (s : ByteArray) (j : Nat) (h : j < s.size) : ((s.get! j).toNat : Int) = bt s j := by
  have := bt_at s j (by simpa using h)
  simp only [Int.toNat_natCast] at this
  rw [← this]
  simp [ByteArray.get!, h]
  rfl
/-- The model's decoding, over four numbers; which of the last three are there. -/
def decN (a b c d : Nat) (k1 k2 k3 : Prop) [Decidable k1] [Decidable k2] [Decidable k3] : Nat × Nat :=
  if a < 128 then (a, 1)
  else if a / 32 = 6 ∧ (k1 ∧ b / 64 = 2) then (if 128 ≤ a % 32 * 64 + b % 64 then (a % 32 * 64 + b % 64, 2) else (65533, 1))
  else if a / 16 = 14 ∧ (k1 ∧ b / 64 = 2) ∧ (k2 ∧ c / 64 = 2) then
    (if 2048 ≤ a % 16 * 4096 + b % 64 * 64 + c % 64 ∧ (a % 16 * 4096 + b % 64 * 64 + c % 64 < 55296 ∨ 57344 ≤ a % 16 * 4096 + b % 64 * 64 + c % 64) then (a % 16 * 4096 + b % 64 * 64 + c % 64, 3) else (65533, 1))
  else if a / 8 = 30 ∧ (k1 ∧ b / 64 = 2) ∧ (k2 ∧ c / 64 = 2) ∧ (k3 ∧ d / 64 = 2) then
    (if 65536 ≤ a % 8 * 262144 + b % 64 * 4096 + c % 64 * 64 + d % 64 ∧ a % 8 * 262144 + b % 64 * 4096 + c % 64 * 64 + d % 64 ≤ 1114111 then (a % 8 * 262144 + b % 64 * 4096 + c % 64 * 64 + d % 64, 4) else (65533, 1))
  else (65533, 1)
theorem ite_cond {α : Type} {p q : Prop} [Decidable p] [Decidable q] {x y x' y' : α} (h : p ↔ q) (hx : x = x') (hy : y = y') : (if p then x else y) = if q then x' else y' := by
  subst hx; subst hy
  by_cases hp : p
  · rw [if_pos hp, if_pos (h.1 hp)]
  · rw [if_neg hp, if_neg (fun k => hp (h.2 k))]
theorem decode_decN (s : ByteArray) : Utf8.decode s 0 = decN (s.get! 0).toNat (s.get! 1).toNat (s.get! 2).toNat (s.get! 3).toNat (1 < s.size) (2 < s.size) (3 < s.size) := by
  have hb : (s.get! 1).toNat < 256 := (s.get! 1).toNat_lt
  have hc : (s.get! 2).toNat < 256 := (s.get! 2).toNat_lt
  have hd : (s.get! 3).toNat < 256 := (s.get! 3).toNat_lt
  have ha : (s.get! 0).toNat < 256 := (s.get! 0).toNat_lt
  unfold Utf8.decode decN Utf8.runeError Utf8.valid
  simp only [Nat.zero_add, Nat.add_zero]
  refine ite_cond (by simp) rfl ?_
  refine ite_cond (by simp [Bool.and_eq_true]) (ite_cond (by simp) rfl rfl) ?_
  refine ite_cond (by simp [Bool.and_eq_true, and_assoc]) (ite_cond (by simp only [Bool.and_eq_true, Bool.or_eq_true, decide_eq_true_eq]; omega) rfl rfl) ?_
  refine ite_cond (by simp [Bool.and_eq_true, and_assoc]) (ite_cond (by simp only [Bool.and_eq_true, Bool.or_eq_true, decide_eq_true_eq]; omega) rfl rfl) rfl
/-- What glyph.Decode answers. -/
theorem decode_first (s : ByteArray) (h : 0 < s.size) :
    first s 0 = if (Utf8.decode s 0).1 = 65533 ∧ ¬ (3 ≤ s.size ∧ bt s 0 = 239 ∧ bt s 1 = 191 ∧ bt s 2 = 189) then (-1, 0) else (((Utf8.decode s 0).1 : Int), ((Utf8.decode s 0).2 : Int)) := by
  have q0 : (s.get! 0).toNat < 256 := (s.get! 0).toNat_lt
  have q1 : (s.get! 1).toNat < 256 := (s.get! 1).toNat_lt
  have q2 : (s.get! 2).toNat < 256 := (s.get! 2).toNat_lt
  have q3 : (s.get! 3).toNat < 256 := (s.get! 3).toNat_lt
  have b0 : ((s.get! 0).toNat : Int) = bt s 0 := get_bt s 0 h
  have b1 : 1 < s.size → ((s.get! 1).toNat : Int) = bt s 1 := get_bt s 1
  have b2 : 2 < s.size → ((s.get! 2).toNat : Int) = bt s 2 := get_bt s 2
  have b3 : 3 < s.size → ((s.get! 3).toNat : Int) = bt s 3 := get_bt s 3
  rw [decode_decN]
  unfold first
  rw [ok1, ok2, ok3, ok4, cand1, cand2, cand3, cand4]
  simp only [Int.zero_add, decide_eq_true_eq, pointB, ← b0]
  generalize (s.get! 0).toNat = a at *
  generalize (s.get! 1).toNat = b at *
  generalize (s.get! 2).toNat = c at *
  generalize (s.get! 3).toNat = d at *
  generalize bt s 1 = x1 at *
  generalize bt s 2 = x2 at *
  generalize bt s 3 = x3 at *
  generalize s.size = n at *
  unfold decN
  by_cases h1 : a < 128
  · rw [if_pos h1, if_pos (by omega), if_neg (by simp only; omega)]; rfl
  · rw [if_neg h1, if_neg (by omega)]
    by_cases h2 : a / 32 = 6 ∧ (1 < n ∧ b / 64 = 2)
    · have := b1 h2.2.1
      rw [if_pos h2]
      by_cases g : 128 ≤ a % 32 * 64 + b % 64
      · rw [if_pos g, if_pos (by omega), if_neg (by simp only; omega)]
        simp only [Prod.mk.injEq]; omega
      · rw [if_neg g, if_neg (by omega), if_neg (by omega), if_neg (by omega), if_pos ⟨rfl, by omega⟩]
    · rw [if_neg h2, if_neg (by omega)]
      by_cases h3 : a / 16 = 14 ∧ (1 < n ∧ b / 64 = 2) ∧ (2 < n ∧ c / 64 = 2)
      · have e1 := b1 h3.2.1.1
        have e2 := b2 h3.2.2.1
        rw [if_pos h3]
        by_cases g : 2048 ≤ a % 16 * 4096 + b % 64 * 64 + c % 64 ∧ (a % 16 * 4096 + b % 64 * 64 + c % 64 < 55296 ∨ 57344 ≤ a % 16 * 4096 + b % 64 * 64 + c % 64)
        · rw [if_pos g, if_pos (by omega), if_neg (by simp only; omega)]
          simp only [Prod.mk.injEq]; omega
        · rw [if_neg g, if_neg (by omega), if_neg (by omega), if_pos ⟨rfl, by omega⟩]
      · rw [if_neg h3, if_neg (by omega)]
        by_cases h4 : a / 8 = 30 ∧ (1 < n ∧ b / 64 = 2) ∧ (2 < n ∧ c / 64 = 2) ∧ (3 < n ∧ d / 64 = 2)
        · have e1 := b1 h4.2.1.1
          have e2 := b2 h4.2.2.1.1
          have e3 := b3 h4.2.2.2.1
          rw [if_pos h4]
          by_cases g : 65536 ≤ a % 8 * 262144 + b % 64 * 4096 + c % 64 * 64 + d % 64 ∧ a % 8 * 262144 + b % 64 * 4096 + c % 64 * 64 + d % 64 ≤ 1114111
          · rw [if_pos g, if_pos (by omega), if_neg (by simp only; omega)]
            simp only [Prod.mk.injEq]; omega
          · rw [if_neg g, if_neg (by omega), if_pos ⟨rfl, by omega⟩]
        · rw [if_neg h4, if_neg (by omega), if_pos ⟨rfl, by omega⟩]
end Go.Proofs.Ytbajghjdnjodmaa
