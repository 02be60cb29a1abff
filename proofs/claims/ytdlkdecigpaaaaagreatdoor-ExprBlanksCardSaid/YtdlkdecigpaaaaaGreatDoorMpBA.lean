/- ExprBlanks: what is written, byte by byte: plain words. -/
import Derived.Test.YtdlkdecigpaaaaaGreatDoorMpSK
namespace Go.Proofs.YtdlkdecigpaaaaaGreatDoor
set_option linter.unusedVariables false
set_option linter.unusedSimpArgs false
open Go.RowKit

/-- Where the walk over a text's bytes is: in a quoted text? behind its backslash? how many gaps were put. -/
structure BSt where
  q : Bool
  e : Bool
  n : Nat
def gapJ (m : Nat) : ByteArray := if m = 0 then eS else if m = 1 then ⟨#[32]⟩ else if m = 2 then ⟨#[9]⟩ else if m = 3 then ⟨#[13, 10]⟩ else ⟨#[32, 32]⟩
def blankC (c : Int) : Bool := c == 32 || (c == 9 || (c == 10 || c == 13))
/-- Is the quoted text's state turned? -/
def turnQ (st : BSt) (c : Int) : Bool := if c = 34 then !st.q else st.q
/-- Is a gap put behind a byte? -/
def putsG (gl : Nat) (st : BSt) (c : Int) : Bool := !st.e && (!turnQ st c && (blankC c && decide (st.n < gl)))
def stepB (gl : Nat) (st : BSt) (c : Int) : BSt :=
  if st.e = true then ⟨st.q, false, st.n⟩
  else if turnQ st c = true ∧ c = 92 then ⟨turnQ st c, true, st.n⟩
  else if putsG gl st c = true then ⟨turnQ st c, false, st.n + 1⟩
  else ⟨turnQ st c, false, st.n⟩
def stB (s : ByteArray) (gl : Nat) : Nat → BSt
  | 0 => ⟨false, false, 0⟩
  | j + 1 => stepB gl (stB s gl j) (bt s j)
/-- What is written behind a byte. -/
def gapB (s : ByteArray) (g : List Nat) (j : Nat) : ByteArray := if putsG g.length (stB s g.length j) (bt s j) = true then gapJ (g.getD (stB s g.length j).n 0) else eS
def outB (s : ByteArray) (g : List Nat) : Nat → ByteArray
  | 0 => ⟨#[10]⟩
  | j + 1 => outB s g j ++ s.extract j (j + 1) ++ gapB s g j
def allB (s : ByteArray) (g : List Nat) : ByteArray := outB s g s.size ++ ⟨#[32]⟩
theorem gapJ_size (m : Nat) : (gapJ m).size ≤ 2 := by unfold gapJ; repeat' split
                                                      all_goals decide
theorem gapJ_blank (m : Nat) {k : Nat} (h : k < (gapJ m).size) : blankC (bt (gapJ m) k) = true := by
  have hs := gapJ_size m
  rcases (by omega : m = 0 ∨ m = 1 ∨ m = 2 ∨ m = 3 ∨ 4 ≤ m) with rfl | rfl | rfl | rfl | hm
  · exact absurd (show k < 0 from h) (Nat.not_lt_zero _)
  · obtain rfl : k = 0 := by have h2 : k < 1 := h; omega
    decide
  · obtain rfl : k = 0 := by have h2 : k < 1 := h; omega
    decide
  · rcases (by omega : k = 0 ∨ k = 1) with rfl | rfl <;> decide
  · have e : gapJ m = ⟨#[32, 32]⟩ := by unfold gapJ; rw [if_neg (by omega), if_neg (by omega), if_neg (by omega), if_neg (by omega)]
    rw [e]
    rcases (by omega : k = 0 ∨ k = 1) with rfl | rfl <;> decide
theorem cat_nr (a : ByteArray) : a ++ eS = a := by apply bytes_ext; rw [toList_data, toList_data]; simp [ByteArray.data_append]
theorem cat_as (a b c : ByteArray) : a ++ b ++ c = a ++ (b ++ c) := by apply bytes_ext; rw [toList_data, toList_data]; simp [ByteArray.data_append]
section
variable (s : ByteArray) (g : List Nat)
theorem gapB_size (j : Nat) : (gapB s g j).size ≤ 2 := by unfold gapB; split; exact gapJ_size _; decide
theorem gapB_blank (j : Nat) {k : Nat} (h : k < (gapB s g j).size) : blankC (bt (gapB s g j) k) = true := by
  unfold gapB at h ⊢
  split at h
  · rename_i hp; rw [if_pos hp]; exact gapJ_blank _ h
  · exact absurd (show k < 0 from h) (Nat.not_lt_zero _)
theorem stB_n : ∀ j : Nat, (stB s g.length j).n ≤ j ∧ (stB s g.length j).n ≤ g.length
  | 0 => ⟨Nat.le_refl _, Nat.zero_le _⟩
  | j + 1 => by
    have ih := stB_n j
    show (stepB g.length (stB s g.length j) (bt s j)).n ≤ j + 1 ∧ (stepB g.length (stB s g.length j) (bt s j)).n ≤ g.length
    unfold stepB
    repeat' split
    all_goals simp only
    · omega
    · omega
    · rename_i h
      unfold putsG at h
      simp only [Bool.and_eq_true, decide_eq_true_eq] at h
      omega
    · omega
theorem cut1 {j : Nat} (h : j < s.size) : (s.extract j (j + 1)).size = 1 := by rw [ByteArray.size_extract]; omega
theorem cut1_bt {j : Nat} (h : j < s.size) : bt (s.extract j (j + 1)) 0 = bt s j := by
  have e1 := bt_nat (s.extract j (j + 1)) 0 (by rw [cut1 s h]; decide)
  have e2 := bt_nat s j h
  rw [ByteArray.getElem_extract] at e1
  have e3 : ((0 : Nat) : Int) = 0 := rfl
  rw [e3] at e1
  rw [← e1, ← e2]
  simp
theorem out_size : ∀ j : Nat, j ≤ s.size → 1 + j ≤ (outB s g j).size ∧ (outB s g j).size ≤ 1 + j + 2 * (stB s g.length j).n
  | 0, _ => ⟨Nat.le_refl _, Nat.le_refl _⟩
  | j + 1, h => by
    have ih := out_size j (by omega)
    have hc := cut1 s (j := j) (by omega)
    show 1 + (j + 1) ≤ (outB s g j ++ s.extract j (j + 1) ++ gapB s g j).size ∧ (outB s g j ++ s.extract j (j + 1) ++ gapB s g j).size ≤ 1 + (j + 1) + 2 * (stepB g.length (stB s g.length j) (bt s j)).n
    rw [app_size, app_size, hc]
    refine ⟨by omega, ?_⟩
    have hg := gapB_size s g j
    by_cases hp : putsG g.length (stB s g.length j) (bt s j) = true
    · have hn : (stepB g.length (stB s g.length j) (bt s j)).n = (stB s g.length j).n + 1 := by
        have hp2 := hp
        unfold putsG at hp2
        simp only [Bool.and_eq_true, Bool.not_eq_true'] at hp2
        unfold stepB
        rw [if_neg (by rw [hp2.1]; decide), if_neg (fun h => by rw [hp2.2.1] at h; exact absurd h.1 (by decide)), if_pos hp]
      rw [hn]; omega
    · have hz : (gapB s g j).size = 0 := by unfold gapB; rw [if_neg hp]; rfl
      have hn : (stB s g.length j).n ≤ (stepB g.length (stB s g.length j) (bt s j)).n := by
        unfold stepB
        repeat' split
        all_goals simp only
        all_goals omega
      omega
theorem out_pre (j : Nat) : ∀ d : Nat, ∃ r : ByteArray, outB s g (j + d) = outB s g j ++ r
  | 0 => ⟨eS, (cat_nr _).symm⟩
  | d + 1 => by
    obtain ⟨r, hr⟩ := out_pre j d
    refine ⟨r ++ (s.extract (j + d) (j + d + 1) ++ gapB s g (j + d)), ?_⟩
    show outB s g (j + d) ++ s.extract (j + d) (j + d + 1) ++ gapB s g (j + d) = _
    rw [hr, cat_as, cat_as]
/-- What is written up to a byte, the byte, what is written behind it, the rest. -/
theorem all_split {j : Nat} (h : j < s.size) : ∃ r : ByteArray, allB s g = outB s g j ++ (s.extract j (j + 1) ++ (gapB s g j ++ (r ++ ⟨#[32]⟩))) := by
  obtain ⟨r, hr⟩ := out_pre s g (j + 1) (s.size - (j + 1))
  rw [Nat.add_sub_cancel' h] at hr
  refine ⟨r, ?_⟩
  unfold allB
  rw [hr]
  show outB s g j ++ s.extract j (j + 1) ++ gapB s g j ++ r ++ ⟨#[32]⟩ = _
  rw [cat_as, cat_as, cat_as]
theorem all_size : (allB s g).size = (outB s g s.size).size + 1 := by unfold allB; rw [app_size]; rfl
def fB (i : Int) : Int := ((outB s g i.toNat).size : Int)
theorem all_bt {j : Nat} (h : j < s.size) : bt (allB s g) (fB s g j) = bt s j := by
  obtain ⟨r, hr⟩ := all_split s g h
  rw [hr]
  unfold fB
  have e1 := bt_right (a := outB s g j) (b := s.extract j (j + 1) ++ (gapB s g j ++ (r ++ ⟨#[32]⟩))) (j := 0) (by rw [app_size, cut1 s h]; omega)
  have e2 := bt_left (a := s.extract j (j + 1)) (b := gapB s g j ++ (r ++ ⟨#[32]⟩)) (j := 0) (by rw [cut1 s h]; decide)
  rw [show (((j : Int).toNat : Nat)) = j by omega]
  rw [show (((outB s g j).size + 0 : Nat) : Int) = (outB s g j).size by omega] at e1
  rw [e1]
  exact e2.trans (cut1_bt s h)
theorem f_next {j : Nat} (h : j < s.size) : fB s g ((j : Int) + 1) = fB s g j + 1 + (gapB s g j).size := by
  unfold fB
  rw [show ((j : Int) + 1).toNat = j + 1 by omega, show ((j : Int)).toNat = j by omega]
  show (((outB s g j ++ s.extract j (j + 1) ++ gapB s g j).size : Nat) : Int) = _
  rw [app_size, app_size, cut1 s h]
  omega
theorem gap_bt {j : Nat} (h : j < s.size) {k : Nat} (hk : k < (gapB s g j).size) : bt (allB s g) (fB s g j + 1 + k) = bt (gapB s g j) k := by
  obtain ⟨r, hr⟩ := all_split s g h
  rw [hr]
  unfold fB
  rw [show (((j : Int).toNat : Nat)) = j by omega]
  have e1 := bt_right (a := outB s g j) (b := s.extract j (j + 1) ++ (gapB s g j ++ (r ++ ⟨#[32]⟩))) (j := 1 + k) (by rw [app_size, cut1 s h, app_size]; omega)
  have e2 := bt_right (a := s.extract j (j + 1)) (b := gapB s g j ++ (r ++ ⟨#[32]⟩)) (j := k) (by rw [app_size]; omega)
  have e3 := bt_left (a := gapB s g j) (b := r ++ ⟨#[32]⟩) (j := k) hk
  rw [cut1 s h] at e2
  rw [show (((outB s g j).size : Int) + 1 + k) = (((outB s g j).size + (1 + k) : Nat) : Int) by omega, e1, e2, e3]
theorem f_lt {i : Int} (h0 : 0 ≤ i) (h1 : i ≤ s.size) : 0 ≤ fB s g i ∧ fB s g i < (allB s g).size := by
  obtain ⟨r, hr⟩ := out_pre s g i.toNat (s.size - i.toNat)
  rw [show i.toNat + (s.size - i.toNat) = s.size by omega] at hr
  have := congrArg ByteArray.size hr
  rw [app_size] at this
  rw [all_size]
  unfold fB
  omega
theorem end_bt : bt (allB s g) (fB s g s.size) = 32 := by
  unfold allB fB
  have e1 := bt_right (a := outB s g s.size) (b := (⟨#[32]⟩ : ByteArray)) (j := 0) (by decide)
  rw [show (((s.size : Int).toNat : Nat)) = s.size by omega]
  rw [show (((outB s g s.size).size + 0 : Nat) : Int) = (outB s g s.size).size by omega] at e1
  rw [e1]; rfl
end
end Go.Proofs.YtdlkdecigpaaaaaGreatDoor
