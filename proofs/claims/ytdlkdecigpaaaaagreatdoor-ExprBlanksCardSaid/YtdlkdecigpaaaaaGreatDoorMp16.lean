/- The library's ParseInt, of a number's text, is the document's number. -/
import Derived.Lib.ParseIntBCases
import Derived.Test.YtdlkdecigpaaaaaGreatDoorMp15
namespace Go.Proofs.YtdlkdecigpaaaaaGreatDoor
set_option linter.unusedVariables false
set_option linter.unusedSimpArgs false
open Go.RowKit

def tenStep (a : Nat) (c : UInt8) : Nat := a * 10 + (c.toNat - 48)
def tenL (acc : Nat) (l : List UInt8) : Nat := l.foldl tenStep acc
theorem tenL_nil (acc : Nat) : tenL acc [] = acc := by unfold tenL; exact List.foldl_nil
theorem tenL_cons (acc : Nat) (c : UInt8) (r : List UInt8) : tenL acc (c :: r) = tenL (acc * 10 + (c.toNat - 48)) r := by unfold tenL; rw [List.foldl_cons]; rfl
theorem tenL_ge (l : List UInt8) : ∀ acc : Nat, acc ≤ tenL acc l := by
  induction l with
  | nil => intro acc; rw [tenL_nil]; exact Nat.le_refl _
  | cons c r ih => intro acc; rw [tenL_cons]; have := ih (acc * 10 + (c.toNat - 48)); omega
theorem tenL_snoc (l : List UInt8) (c : UInt8) (acc : Nat) : tenL acc (l ++ [c]) = tenL acc l * 10 + (c.toNat - 48) := by
  unfold tenL; rw [List.foldl_append, List.foldl_cons, List.foldl_nil]; rfl
def digL (l : List UInt8) : Prop := ∀ c ∈ l, 48 ≤ c.toNat ∧ c.toNat ≤ 57
theorem parse_dig (M : Nat) (hM : ∀ a, 1844674407370955162 ≤ a → M < a * 10) (l : List UInt8) : ∀ (acc : Nat), digL l → Lib.parseUintM M acc l = if tenL acc l ≤ M ∨ l = [] then .ok (tenL acc l) else .range := by
  induction l with
  | nil => intro acc _; simp [Lib.parseUintM, tenL_nil]
  | cons c r ih =>
    intro acc h
    have hc := h c (.head _)
    have hr : digL r := fun x hx => h x (.tail _ hx)
    have hg := tenL_ge r (acc * 10 + (c.toNat - 48))
    have hu : Lib.parseUintM M acc (c :: r) = if 1844674407370955162 ≤ acc then .range else if M < acc * 10 + (c.toNat - 48) then .range else Lib.parseUintM M (acc * 10 + (c.toNat - 48)) r := by
      conv => lhs; unfold Lib.parseUintM
      rw [if_pos hc]
    rw [hu, ih _ hr, tenL_cons]
    have hbig := hM acc
    by_cases h1 : 1844674407370955162 ≤ acc
    · have := hbig h1
      rw [if_pos h1, if_neg]
      rintro (h | h)
      · omega
      · simp at h
    · rw [if_neg h1]
      clear hu ih hbig hM h1
      generalize acc * 10 + (c.toNat - 48) = v at *
      by_cases h2 : M < v
      · rw [if_pos h2, if_neg]
        rintro (h | h)
        · omega
        · simp at h
      · rw [if_neg h2]
        by_cases h3 : tenL v r ≤ M
        · rw [if_pos (.inl h3), if_pos (.inl h3)]
        · have h4 : r ≠ [] := by rintro rfl; rw [tenL_nil] at h3; omega
          rw [if_neg (by simp [h3, h4]), if_neg (by simp [h3])]
theorem parse_digB {l : List UInt8} (hd : digL l) (hl : l ≠ []) : Lib.parseUintB 64 l = if tenL 0 l ≤ 18446744073709551615 then .ok (tenL 0 l) else .range := by
  unfold Lib.parseUintB
  rw [if_neg hl, show (2 ^ 64 - 1 : Nat) = 18446744073709551615 from rfl, parse_dig _ (fun a ha => by omega) l 0 hd]
  simp [hl]
theorem bt_data (s : ByteArray) (j : Nat) (h : j < s.size) : (s.data.toList[j]'(by rw [Array.length_toList]; exact h)).toNat = (bt s j).toNat ∧ 0 ≤ bt s j := by
  have := bt_nat s j h
  have e : s.data.toList[j]'(by rw [Array.length_toList]; exact h) = s[j]'h := by simp [ByteArray.getElem_eq_getElem_data]
  rw [e]; omega
theorem tenN_tenL (s : ByteArray) (hd : AllDig s) : ∀ i, i ≤ s.size → tenN s i = tenL 0 (s.data.toList.take i)
  | 0, _ => by simp [tenN, tenL_nil]
  | i + 1, h => by
    have ih := tenN_tenL s hd i (by omega)
    have hl : i < s.data.toList.length := by rw [Array.length_toList]; exact h
    have hb := bt_data s i h
    have hdd := hd i h
    rw [List.take_succ_eq_append_getElem hl, tenL_snoc, tenN, ih]
    omega
theorem digL_of {s : ByteArray} (hd : AllDig s) : digL s.data.toList := by
  intro c hc
  obtain ⟨j, hj, rfl⟩ := List.getElem_of_mem hc
  have h : j < s.size := by rw [Array.length_toList] at hj; exact hj
  have := bt_data s j h
  have := hd j h
  omega
theorem data_ne {s : ByteArray} (h : 1 ≤ s.size) : s.data.toList ≠ [] := by
  intro e
  have : s.data.toList.length = 0 := by rw [e]; rfl
  rw [Array.length_toList] at this
  have h2 : s.data.size = s.size := rfl
  omega
theorem tenN_all {s : ByteArray} (hd : AllDig s) : tenN s s.size = tenL 0 s.data.toList := by
  rw [tenN_tenL s hd s.size (Nat.le_refl _), List.take_of_length_le (by rw [Array.length_toList]; exact Nat.le_refl _)]
theorem parse_num {s : ByteArray} (h : formB s = true) : Lib.parseIntB 64 s.data.toList = if fitsB (numZ s) then .ok (numZ s) else .range := by
  rcases form_dig h with ⟨h45, h1, hd⟩ | ⟨h45, h1, hd⟩
  · have hl := digL_of hd
    have hne := data_ne h1
    have hz : numZ s = tenL 0 s.data.toList := by unfold numZ; rw [h45, ← tenN_all hd]; rfl
    rw [hz]
    generalize s.data.toList = l at *
    obtain ⟨c, r, rfl⟩ : ∃ c r, l = c :: r := by cases l with | nil => exact absurd rfl hne | cons c r => exact ⟨c, r, rfl⟩
    have hc := hl c (.head _)
    rw [Lib.parseIntB_plain 64 c r (by omega) (by omega), parse_digB hl hne]
    generalize tenL 0 (c :: r) = u
    by_cases h1 : u ≤ 18446744073709551615
    · rw [if_pos h1]
      show (if 9223372036854775808 ≤ u then Lib.NumEnd.range else .ok (u : Int)) = _
      by_cases h2 : 9223372036854775808 ≤ u
      · rw [if_pos h2, if_neg (by simp [fitsB]; omega)]
      · rw [if_neg h2, if_pos (by simp [fitsB]; omega)]
    · rw [if_neg h1, if_neg (by simp [fitsB]; omega)]; rfl
  · have h2 : 1 ≤ (s.extract 1 s.size).size := by rw [ByteArray.size_extract]; omega
    have hl := digL_of hd
    have hne := data_ne h2
    have hz : numZ s = -((tenL 0 (s.extract 1 s.size).data.toList : Nat) : Int) := by unfold numZ; rw [if_pos h45, tenN_all hd]
    have hcons : s.data.toList = 45 :: (s.extract 1 s.size).data.toList := by
      have h0 := bt_data s 0 (by omega)
      have h45' : bt s 0 = 45 := by simp only [isAt, Bool.and_eq_true, decide_eq_true_eq, beq_iff_eq] at h45; exact h45.2
      have e0 : s.data.toList[0]'(by rw [Array.length_toList]; show 0 < s.size; omega) = 45 := by
        apply UInt8.toNat_inj.1
        have := h0.1
        simp only [Int.natCast_zero, h45'] at this
        exact this
      have e1 : (s.extract 1 s.size).data.toList = s.data.toList.drop 1 := by
        rw [Lib.extract_data]
        rw [List.take_of_length_le]
        rw [List.length_drop, Array.length_toList]; show s.size - 1 ≤ _; omega
      rw [e1, ← e0]
      have hlen : 0 < s.data.toList.length := by rw [Array.length_toList]; show 0 < s.size; omega
      exact (List.drop_eq_getElem_cons hlen).symm ▸ rfl
    rw [hz, hcons, Lib.parseIntB_minus, parse_digB hl hne]
    generalize tenL 0 (s.extract 1 s.size).data.toList = u
    by_cases h1 : u ≤ 18446744073709551615
    · rw [if_pos h1]
      show (if 9223372036854775808 < u then Lib.NumEnd.range else .ok (-(u : Int))) = _
      by_cases h2 : 9223372036854775808 < u
      · rw [if_pos h2, if_neg (by simp [fitsB]; omega)]
      · rw [if_neg h2, if_pos (by simp [fitsB]; omega)]
    · rw [if_neg h1, if_neg (by simp [fitsB]; omega)]; rfl
end Go.Proofs.YtdlkdecigpaaaaaGreatDoor
