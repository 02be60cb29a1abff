/- What ends a text; an expression in brackets, inside of a text: plain words. -/
import Derived.Test.YtdlkdecigpaaaaaGreatDoorMpSJ
namespace Go.Proofs.YtdlkdecigpaaaaaGreatDoor
set_option linter.unusedVariables false
set_option linter.unusedSimpArgs false
open Go.RowKit

section
variable {s : ByteArray}
theorem blanks_end (s : ByteArray) : blanks s s.size = s.size := blanks_at (blank_end (Int.le_refl _))
theorem mark_endn {t : ByteArray} (ht : 0 < t.size) : markAt s s.size t < 0 := by
  unfold markAt
  rw [blanks_end, if_neg (by omega)]
  decide
theorem word_endn : wordAt s s.size = eS := by
  unfold wordAt
  rw [blanks_end]
  have : letterAt s s.size = false := by
    cases h : letterAt s s.size with
    | false => rfl
    | true => have := letterAt_lt h; omega
  rw [this]; rfl
theorem first_endn : ∀ (l : List ByteArray), (∀ t ∈ l, 0 < t.size) → firstMark s s.size l = none
  | [], _ => rfl
  | t :: l, h => by
    unfold firstMark
    have := mark_endn (s := s) (h t (.head _))
    rw [if_neg (by omega)]
    exact first_endn l fun t ht => h t (.tail _ ht)
theorem betw_endn (n : Nat) : betw s s.size n = none := by
  unfold betw
  rw [word_endn]
  split
  · rw [if_neg (by decide)]
  · split
    · rw [if_neg (by decide)]
    · exact first_endn _ fun t ht => (signs_size ht).1
/-- What one part alone is, which ends the text. -/
theorem par_alone {i : Int} {T : XT} (h : Par s .one i (.ok T s.size)) (hn : markAt s i ⟨#[45]⟩ < 0) (hw : wordAt s i ≠ notS) : Par s (.lev 0) i (.ok T s.size) :=
  .lev_ok (.inl rfl) (.lev_ok (.inr (.inl rfl)) (.not_no hw (.lev_ok (.inr (.inr (.inl rfl))) (.lev_ok (.inr (.inr (.inr (.inl rfl)))) (.lev_ok (.inr (.inr (.inr (.inr rfl)))) (.neg_no hn (.part_ok h (.parts_end (mark_endn (by decide)) (mark_endn (by decide)))))
    (.more_end (betw_endn _))) (.more_end (betw_endn _))) (.more_end (betw_endn _)))) (.more_end (betw_endn _))) (.more_end (betw_endn _))
end
theorem app_size (a b : ByteArray) : (a ++ b).size = a.size + b.size := ByteArray.size_append
/-- A text's bytes, inside of another one. -/
theorem in_bt (a s b : ByteArray) {j : Int} (h0 : 0 ≤ j) (h1 : j < s.size) : bt (a ++ s ++ b) (j + a.size) = bt s j := by
  have e : j + a.size = ((a.size + j.toNat : Nat) : Int) := by omega
  rw [e, bt_left (by rw [app_size]; omega), bt_right (by omega)]
  rw [show ((j.toNat : Nat) : Int) = j by omega]
theorem in_bt2 (a s b : ByteArray) {j : Int} (h0 : 0 ≤ j) (h1 : j < b.size) : bt (a ++ s ++ b) (j + (a.size + s.size)) = bt b j := by
  have e : j + (a.size + s.size) = (((a ++ s).size + j.toNat : Nat) : Int) := by rw [app_size]; omega
  rw [e, bt_right (by omega)]
  rw [show ((j.toNat : Nat) : Int) = j by omega]
theorem in_size (a s b : ByteArray) : (a ++ s ++ b).size = a.size + s.size + b.size := by rw [app_size, app_size]
theorem in_blank (a s b : ByteArray) {j : Int} (h0 : 0 ≤ j) (h1 : j < s.size) : isBlank (a ++ s ++ b) (j + a.size) = isBlank s j := by
  unfold isBlank isAt
  rw [in_bt a s b h0 h1, in_size, decide_eq_true h1, decide_eq_true (show j + (a.size : Int) < ((a.size + s.size + b.size : Nat) : Int) by omega)]
theorem no_blank41 {u : ByteArray} {j : Int} (h : bt u j = 41) : isBlank u j = false := blank_no (by omega)
/-- A text stands in another one; a bracket stands behind it. -/
theorem in_ali (a s b : ByteArray) (hb : 0 < b.size) (h41 : bt b 0 = 41) : Ali s (a ++ s ++ b) (· + a.size) (fun i => 0 ≤ i ∧ i ≤ s.size) := by
  have hsz := in_size a s b
  have he : bt (a ++ s ++ b) ((s.size : Int) + a.size) = 41 := by
    have := in_bt2 a s b (j := 0) (Int.le_refl _) (by omega)
    rw [show (0 : Int) + (a.size + s.size) = s.size + a.size by omega] at this
    rw [this]; exact h41
  have bl : ∀ {i : Int}, 0 ≤ i → i ≤ s.size → blanks (a ++ s ++ b) (i + a.size) = blanks s i + a.size := by
    intro i h0 h1
    have hle := blanks_le h0 h1
    have hge := blanks_ge s i
    refine upTo_is _ (by omega) (by omega) rfl (fun j k1 k2 => ?_) (by omega) ?_
    · have := in_blank a s b (j := j - a.size) (by omega) (by omega)
      rw [show j - (a.size : Int) + a.size = j by omega] at this
      rw [this]
      exact upTo_mem (n := s.size) (i := i) (by omega) (by show _ < blanks s i; omega)
    · by_cases hq : blanks s i < s.size
      · rw [in_blank a s b (by omega) hq]; exact blanks_stop h0
      · rw [show blanks s i = (s.size : Int) by omega]; exact no_blank41 he
  refine { lo := fun h => h, fu := fun h0 h1 => ⟨by omega, by rw [hsz]; omega⟩, by_ := fun h0 h1 => in_bt a s b h0 h1, en := .inl he, bl := fun {i} h hq => ⟨bl h.1 h.2, by have h2 := blanks_ge s i; have h3 := h.1; exact ⟨by omega, by omega⟩⟩, be := fun h hq => .inr (by rw [bl h.1 h.2, hq]; exact he), nx := fun h hl _ _ => ⟨by omega, by omega, by omega⟩, qt := fun {j} h hq hc => ?_ }
  have hp := str_pos h.1 hc
  exact ⟨fun k k1 k2 => by omega, by omega, hp.2⟩
theorem in_par (a s b : ByteArray) (hb : 0 < b.size) (h41 : bt b 0 = 41) {i p : Int} {T : XT} (h : Par s (.lev 0) i (.ok T p)) (h0 : 0 ≤ i) (h1 : i ≤ s.size) : Par (a ++ s ++ b) (.lev 0) (i + a.size) (.ok T (p + a.size)) :=
  (par_sim (in_ali a s b hb h41).sim h ⟨h0, h1⟩ _ _ rfl).1
/-- An expression that is a whole text, in brackets, somewhere. -/
theorem in_brackets (a s b : ByteArray) {p : Int} {T : XT} (h : Par s (.lev 0) 0 (.ok T p)) (hp : blanks s p = s.size) {i : Int} (h0 : 0 ≤ i) (hi : blanks (a ++ ⟨#[40]⟩ ++ s ++ (⟨#[41]⟩ ++ b)) i = a.size) :
    Par (a ++ ⟨#[40]⟩ ++ s ++ (⟨#[41]⟩ ++ b)) .one i (.ok T (a.size + s.size + 2)) := by
  have hpp := par_pos h (Int.le_refl _) (by omega)
  have hp1 : 0 ≤ p := hpp.1.1
  have hp2 : p ≤ s.size := hpp.1.2
  have hA : (a ++ (⟨#[40]⟩ : ByteArray)).size = a.size + 1 := by rw [app_size]; rfl
  have hB : 0 < ((⟨#[41]⟩ : ByteArray) ++ b).size := by rw [app_size]; show 0 < 1 + b.size; omega
  have hB41 : bt ((⟨#[41]⟩ : ByteArray) ++ b) 0 = 41 := by
    have := bt_left (a := (⟨#[41]⟩ : ByteArray)) (b := b) (j := 0) (by decide)
    exact this.trans rfl
  have hsz := in_size (a ++ (⟨#[40]⟩ : ByteArray)) s ((⟨#[41]⟩ : ByteArray) ++ b)
  have ali := in_ali (a ++ (⟨#[40]⟩ : ByteArray)) s ((⟨#[41]⟩ : ByteArray) ++ b) hB hB41
  have hin := in_par (a ++ (⟨#[40]⟩ : ByteArray)) s ((⟨#[41]⟩ : ByteArray) ++ b) hB hB41 h (Int.le_refl _) (by omega)
  have hop : isAt (a ++ ⟨#[40]⟩ ++ s ++ (⟨#[41]⟩ ++ b)) a.size (40 : UInt8).toNat = true := by
    unfold isAt
    have : bt (a ++ ⟨#[40]⟩ ++ s ++ (⟨#[41]⟩ ++ b)) a.size = 40 := by
      have e1 : bt ((a ++ (⟨#[40]⟩ : ByteArray) ++ s) ++ (⟨#[41]⟩ ++ b)) ((a.size : Nat) : Int) = bt (a ++ (⟨#[40]⟩ : ByteArray) ++ s) a.size := bt_left (by rw [app_size, app_size]; omega)
      have e2 : bt ((a ++ (⟨#[40]⟩ : ByteArray)) ++ s) ((a.size : Nat) : Int) = bt (a ++ (⟨#[40]⟩ : ByteArray)) a.size := bt_left (by rw [app_size]; show _ < _ + 1; omega)
      have e3 : bt (a ++ (⟨#[40]⟩ : ByteArray)) ((a.size + 0 : Nat) : Int) = bt (⟨#[40]⟩ : ByteArray) (0 : Nat) := bt_right (by decide)
      rw [e1, e2]; exact e3
    rw [this, hsz, hA, decide_eq_true (by omega)]
    rfl
  have hm : 0 ≤ markAt (a ++ ⟨#[40]⟩ ++ s ++ (⟨#[41]⟩ ++ b)) i ⟨#[40]⟩ := (mark_iff1 h0).2 (by rw [hi]; exact hop)
  have hmv : markAt (a ++ ⟨#[40]⟩ ++ s ++ (⟨#[41]⟩ ++ b)) i ⟨#[40]⟩ = a.size + 1 := by rw [mark_val hm, hi]; rfl
  have he : bt (a ++ ⟨#[40]⟩ ++ s ++ (⟨#[41]⟩ ++ b)) ((s.size : Int) + (a ++ (⟨#[40]⟩ : ByteArray)).size) = 41 := by
    have := in_bt2 (a ++ (⟨#[40]⟩ : ByteArray)) s ((⟨#[41]⟩ : ByteArray) ++ b) (j := 0) (Int.le_refl _) (by omega)
    rw [show (0 : Int) + ((a ++ (⟨#[40]⟩ : ByteArray)).size + s.size) = s.size + (a ++ (⟨#[40]⟩ : ByteArray)).size by omega] at this
    rw [this]; exact hB41
  have hbl : blanks (a ++ ⟨#[40]⟩ ++ s ++ (⟨#[41]⟩ ++ b)) (p + (a ++ (⟨#[40]⟩ : ByteArray)).size) = s.size + (a ++ (⟨#[40]⟩ : ByteArray)).size := by
    refine upTo_is _ (by omega) (by omega) rfl (fun j k1 k2 => ?_) (by rw [hsz]; omega) (no_blank41 he)
    have := in_blank (a ++ (⟨#[40]⟩ : ByteArray)) s ((⟨#[41]⟩ : ByteArray) ++ b) (j := j - (a ++ (⟨#[40]⟩ : ByteArray)).size) (by omega) (by omega)
    rw [show j - ((a ++ (⟨#[40]⟩ : ByteArray)).size : Int) + (a ++ (⟨#[40]⟩ : ByteArray)).size = j by omega] at this
    rw [this]
    exact upTo_mem (n := s.size) (i := p) (by omega) (by show _ < blanks s p; omega)
  have hc : 0 ≤ markAt (a ++ ⟨#[40]⟩ ++ s ++ (⟨#[41]⟩ ++ b)) (p + (a ++ (⟨#[40]⟩ : ByteArray)).size) ⟨#[41]⟩ := (mark_iff1 (by omega)).2 (by
    rw [hbl]
    unfold isAt
    rw [he, hsz, decide_eq_true (by omega)]
    rfl)
  have hcv : markAt (a ++ ⟨#[40]⟩ ++ s ++ (⟨#[41]⟩ ++ b)) (p + (a ++ (⟨#[40]⟩ : ByteArray)).size) ⟨#[41]⟩ = a.size + s.size + 2 := by
    rw [mark_val hc, hbl, hA]
    have : ((⟨#[41]⟩ : ByteArray).size : Int) = 1 := rfl
    omega
  have := Par.one_in hm (by rw [hmv]; rw [hA, show (0 : Int) + ((a.size + 1 : Nat) : Int) = a.size + 1 by omega] at hin; exact hin) (by rw [hA] at hc; exact hc)
  rw [hA] at hcv
  rw [hcv] at this
  exact this
end Go.Proofs.YtdlkdecigpaaaaaGreatDoor
