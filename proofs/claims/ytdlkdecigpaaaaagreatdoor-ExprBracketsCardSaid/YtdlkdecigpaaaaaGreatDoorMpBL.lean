/- ExprBrackets: the texts, and their trees: plain words. -/
import Derived.Test.YtdlkdecigpaaaaaGreatDoorMpBK
namespace Go.Proofs.YtdlkdecigpaaaaaGreatDoor
set_option linter.unusedVariables false
set_option linter.unusedSimpArgs false
open Go.RowKit

abbrev opB : ByteArray := ⟨#[40]⟩
abbrev clB : ByteArray := ⟨#[41]⟩
theorem open_at {u : ByteArray} {i : Int} (h0 : 0 ≤ i) (hl : i < u.size) (h : bt u i = 40) : blanks u i = i ∧ markAt u i ⟨#[45]⟩ < 0 ∧ wordAt u i ≠ notS := by
  have hb : blanks u i = i := blanks_at (blank_no (by omega))
  refine ⟨hb, Int.not_le.1 fun hx => ?_, ?_⟩
  · have := (mark_iff1 h0).1 hx
    rw [hb, at_byte hl h] at this
    exact absurd this (by decide)
  · have : letterAt u i = false := by unfold letterAt letterB; rw [h]; simp
    unfold wordAt
    rw [hb, this, if_neg Bool.false_ne_true]
    exact (by decide : (⟨#[]⟩ : ByteArray) ≠ notS)
theorem app_nl (a : ByteArray) : eS ++ a = a := by apply bytes_ext; rw [toList_data, toList_data]; simp [ByteArray.data_append]
theorem app_nr (a : ByteArray) : a ++ eS = a := by apply bytes_ext; rw [toList_data, toList_data]; simp [ByteArray.data_append]
theorem app_as (a b c : ByteArray) : a ++ b ++ c = a ++ (b ++ c) := by apply bytes_ext; rw [toList_data, toList_data]; simp [ByteArray.data_append]
theorem br_first (a b : ByteArray) : bt (opB ++ a ++ b) 0 = 40 := by
  have e1 : bt ((opB ++ a) ++ b) ((0 : Nat) : Int) = bt (opB ++ a) (0 : Nat) := bt_left (by rw [app_size]; show 0 < 1 + a.size; omega)
  have e2 : bt (opB ++ a) ((0 : Nat) : Int) = bt opB (0 : Nat) := bt_left (by decide)
  exact e1.trans (e2.trans (by decide))
/-- A text in brackets. -/
def brS (s : ByteArray) : ByteArray := opB ++ s ++ clB
theorem brS_size (s : ByteArray) : (brS s).size = s.size + 2 := by unfold brS; rw [app_size, app_size]; show 1 + s.size + 1 = _; omega
section
variable {s t : ByteArray} {p p2 : Int} {A B : XT}
theorem br_par (h : Par s (.lev 0) 0 (.ok A p)) (hp : blanks s p = s.size) : Par (brS s) (.lev 0) 0 (.ok A (brS s).size) := by
  have e : eS ++ opB ++ s ++ (clB ++ eS) = brS s := by rw [app_nl, app_nr]; rfl
  have hz := brS_size s
  have hf : bt (brS s) 0 = 40 := br_first _ _
  obtain ⟨o1, o2, o3⟩ := open_at (u := brS s) (Int.le_refl _) (by rw [hz]; omega) hf
  have := in_brackets eS s eS h hp (i := 0) (Int.le_refl _) (by rw [e, o1]; rfl)
  rw [e] at this
  have hs : ((eS.size : Int) + s.size + 2) = (brS s).size := by rw [hz]; show (0 : Int) + _ + 2 = _; omega
  rw [hs] at this
  exact par_alone this o2 o3
theorem whole_end (s : ByteArray) : blanks s s.size = s.size := blanks_end s
/-- A text in two pairs of brackets. -/
theorem br_two (h : Par s (.lev 0) 0 (.ok A p)) (hp : blanks s p = s.size) : Par ((⟨#[40, 40]⟩ : ByteArray) ++ s ++ (⟨#[41, 41]⟩ : ByteArray)) (.lev 0) 0 (.ok A ((⟨#[40, 40]⟩ : ByteArray) ++ s ++ (⟨#[41, 41]⟩ : ByteArray)).size) := by
  have e : brS (brS s) = (⟨#[40, 40]⟩ : ByteArray) ++ s ++ (⟨#[41, 41]⟩ : ByteArray) := by
    apply bytes_ext; rw [toList_data, toList_data]; simp [brS, ByteArray.data_append]
  rw [← e]
  exact br_par (br_par h hp) (whole_end _)
/-- Two in brackets, a sign between. -/
def biS (s op t : ByteArray) : ByteArray := opB ++ s ++ clB ++ op ++ opB ++ t ++ clB
theorem biS_size (s op t : ByteArray) : (biS s op t).size = s.size + op.size + t.size + 4 := by
  unfold biS; simp only [app_size]; show 1 + s.size + 1 + op.size + 1 + t.size + 1 = _; omega
theorem bi_par {op : ByteArray} (hop : op ∈ opsA) (h : Par s (.lev 0) 0 (.ok A p)) (hp : blanks s p = s.size) (h2 : Par t (.lev 0) 0 (.ok B p2)) (hp2 : blanks t p2 = t.size) :
    Par (biS s op t) (.lev 0) 0 (.ok (binT op A B) (biS s op t).size) := by
  have e1 : eS ++ opB ++ s ++ (clB ++ (op ++ brS t)) = biS s op t := by
    apply bytes_ext; rw [toList_data, toList_data]; simp [biS, brS, ByteArray.data_append]
  have e2 : (brS s ++ op) ++ opB ++ t ++ (clB ++ eS) = biS s op t := by
    apply bytes_ext; rw [toList_data, toList_data]; simp [biS, brS, ByteArray.data_append]
  have e3 : brS s ++ op ++ brS t = biS s op t := by
    apply bytes_ext; rw [toList_data, toList_data]; simp [biS, brS, ByteArray.data_append]
  have hz := biS_size s op t
  have z1 := brS_size s
  have z2 := brS_size t
  have hf : bt (biS s op t) 0 = 40 := by
    have := br_first s (clB ++ (op ++ brS t))
    rw [← e1, app_nl]; exact this
  obtain ⟨o1, o2, o3⟩ := open_at (u := biS s op t) (Int.le_refl _) (by omega) hf
  have hA := in_brackets eS s (op ++ brS t) h hp (i := 0) (Int.le_refl _) (by rw [e1, o1]; rfl)
  rw [e1, show ((eS.size : Int) + s.size + 2) = (brS s).size by rw [z1]; show (0 : Int) + _ + 2 = _; omega] at hA
  have hb : ∀ j : Nat, j < op.size → bt (biS s op t) (((brS s).size : Int) + j) = bt op j := fun j hj => by
    have := in_bt (brS s) op (brS t) (j := j) (by omega) (by omega)
    rw [e3, show (j : Int) + (brS s).size = (brS s).size + j by omega] at this
    exact this
  have hn : bt (biS s op t) (((brS s).size : Int) + op.size) = 40 := by
    have := in_bt2 (brS s) op (brS t) (j := 0) (Int.le_refl _) (by omega)
    rw [e3, show (0 : Int) + ((brS s).size + op.size) = (brS s).size + op.size by omega] at this
    rw [this]
    exact br_first t clB
  obtain ⟨m1, m2, m3, m4⟩ := op_at hop (by omega) hb hn (by omega)
  obtain ⟨q1, q2, q3⟩ := open_at (u := biS s op t) (i := ((brS s).size : Int) + op.size) (by omega) (by omega) hn
  have hB := in_brackets (brS s ++ op) t eS h2 hp2 (i := ((brS s).size : Int) + op.size) (by omega) (by rw [e2, q1, app_size]; omega)
  rw [e2, show (((brS s ++ op).size : Int) + t.size + 2) = (biS s op t).size by rw [app_size]; omega] at hB
  exact bin_par hop hA o2 o3 m1 m2 m3 m4 hB q2 q3
end
end Go.Proofs.YtdlkdecigpaaaaaGreatDoor
