/- The program's form and Parse of layer 2. -/
import Derived.Test.YtdlkdecigpaaaaaGreatDoorShelfQ
import Derived.Test.YtdlkdecigpaaaaaGreatDoorMp16
namespace Go.Proofs.YtdlkdecigpaaaaaGreatDoor
set_option linter.unusedVariables false
set_option linter.unusedSimpArgs false
open Go.RowKit

/-- What a number's text is without its sign. -/
def bareS (s : ByteArray) : ByteArray := if isAt s 0 45 then s.extract 1 s.size else s
theorem bare_trim (s : ByteArray) : (⟨(Lib.trimPrefix s.data.toList [45]).toArray⟩ : ByteArray) = bareS s := by
  unfold bareS Lib.trimPrefix
  have hd : (bt s 0 = ((s.data.toList.getD 0 0).toNat : Int)) := by have := bt_getD s 0; simpa using this
  have hz : s.data.toList.length = s.size := by rw [Array.length_toList]; rfl
  cases hl : s.data.toList with
  | nil =>
    have h0 : s.size = 0 := by rw [← hz, hl]; rfl
    rw [show isAt s 0 45 = false from by simp [isAt, h0]]
    simp only [Lib.hasPrefix, Bool.false_eq_true, if_false]
    apply bytes_ext; rw [toList_data, toList_data, hl]; rfl
  | cons c r =>
    rw [hl] at hd hz
    simp only [List.getD_cons_zero] at hd
    simp only [List.length_cons] at hz
    by_cases h45 : c = 45
    · subst h45
      rw [show isAt s 0 45 = true from by simp [isAt, hd]; omega]
      simp only [Lib.hasPrefix, if_true]
      apply bytes_ext; rw [toList_data, toList_data, Lib.extract_data, hl]
      simp
      rw [List.take_of_length_le (by omega)]
    · have hne : ¬ bt s 0 = 45 := fun e => h45 (by apply UInt8.toNat_inj.1; show c.toNat = 45; omega)
      rw [show isAt s 0 45 = false from by simp [isAt, hne]]
      have hp : Lib.hasPrefix (c :: r) [45] = false := by
        unfold Lib.hasPrefix
        rw [List.isPrefixOf_cons_cons, show ((45 : UInt8) == c) = false from by simp; exact fun e => h45 e.symm]; rfl
      rw [hp]
      simp only [Bool.false_eq_true, if_false]
      apply bytes_ext; rw [toList_data, toList_data, hl]
theorem digitsEnd_iff {s : ByteArray} {f : Nat} (hf : f ≤ s.size) : digitsEnd s f = s.size ↔ ∀ j : Nat, f + j < s.size → 48 ≤ bt s ((f : Int) + j) ∧ bt s ((f : Int) + j) ≤ 57 := by
  constructor
  · intro h j hj
    have := upTo_mem (p := digitAt s) (n := s.size) (i := f) (j := (f : Int) + j) (by omega) (by rw [show upTo (digitAt s) s.size f = digitsEnd s f from rfl, h]; omega)
    simp only [digitAt, digitB, Bool.and_eq_true, decide_eq_true_eq] at this
    exact this.2
  · intro h
    have h1 : digitsEnd s f ≤ s.size := digitsEnd_le (by omega) (by omega)
    have h2 : (f : Int) ≤ digitsEnd s f := digitsEnd_ge
    have h3 : digitAt s (digitsEnd s f) = false := upTo_end (p := digitAt s) (n := s.size) (i := f) (by omega) (fun j hj => digitAt_lt hj)
    by_cases hlt : digitsEnd s f < s.size
    · exfalso
      have h4 := h ((digitsEnd s f).toNat - f) (by omega)
      rw [show (f : Int) + (((digitsEnd s f).toNat - f : Nat) : Int) = digitsEnd s f from by omega] at h4
      simp [digitAt, digitB, hlt] at h3
      omega
    · omega
theorem form_bare (s : ByteArray) : formB s = true ↔ ((bareS s).size ≠ 0 ∧ ¬ (bt (bareS s) 0 = 48 ∧ (bareS s).size ≠ 1) ∧ AllDig (bareS s)) := by
  unfold bareS
  cases h45 : isAt s 0 45 with
  | false =>
    have hd := digitsEnd_iff (s := s) (f := 0) (by omega)
    rw [form_pos h45]
    simp only [Bool.false_eq_true, if_false, Bool.and_eq_true, Bool.not_eq_true', decide_eq_true_eq]
    simp only [Int.natCast_zero, Nat.zero_add, Int.zero_add] at hd
    rw [hd]
    simp only [isAt, AllDig, Bool.and_eq_false_iff, decide_eq_false_iff_not, beq_eq_false_iff_ne]
    constructor
    · rintro ⟨⟨a, b⟩, c⟩
      exact ⟨by omega, by omega, c⟩
    · rintro ⟨a, b, c⟩
      exact ⟨⟨by omega, by omega⟩, c⟩
  | true =>
    have hlt := isAt_lt h45
    have hd := digitsEnd_iff (s := s) (f := 1) (by omega)
    have hz : (s.extract 1 s.size).size = s.size - 1 := by rw [ByteArray.size_extract]; omega
    have hb := bt_shift s 1
    rw [form_neg h45]
    simp only [if_true, Bool.and_eq_true, Bool.not_eq_true', decide_eq_true_eq]
    rw [show ((1 : Nat) : Int) = 1 from rfl] at hd hb
    rw [hd]
    have hb0 := hb 0
    simp only [Int.natCast_zero, Int.add_zero] at hb0
    rw [hb0, hz]
    simp only [isAt, AllDig, Bool.and_eq_false_iff, decide_eq_false_iff_not, beq_eq_false_iff_ne, hz, hb]
    constructor
    · rintro ⟨⟨a, b⟩, c⟩
      exact ⟨by omega, by omega, fun j hj => c j (by omega)⟩
    · rintro ⟨a, b, c⟩
      exact ⟨⟨by omega, by omega⟩, fun j hj => c j (by omega)⟩
theorem decode_high (s : ByteArray) (j : Nat) (h : j < s.size) (hb : 128 ≤ bt s j) : 128 ≤ (Utf8.decode s j).1 := by
  have e := get_bt s j h
  unfold Utf8.decode
  simp only [Nat.add_zero]
  have hb' : 128 ≤ (s.get! j).toNat := by omega
  rw [if_neg (by omega)]
  repeat' split
  all_goals first | (simp only [Utf8.runeError]; omega) | (simp only [Bool.and_eq_true, decide_eq_true_eq, beq_iff_eq] at *; omega)
theorem decode_low (s : ByteArray) (j : Nat) (h : j < s.size) (hb : bt s j < 128) : Utf8.decode s j = ((bt s j).toNat, 1) := by
  have e := get_bt s j h
  unfold Utf8.decode
  simp only [Nat.add_zero]
  rw [if_pos (by omega)]
  congr 1; omega
theorem one_zero {d : ByteArray} (h : 0 < d.size) : ((d.toList == [48]) = true → bt d 0 = 48 ∧ d.size = 1) ∧ (bt d 0 = 48 ∧ d.size = 1 → (d.toList == [48]) = true) := by
  have hb := bt_data d 0 h
  rw [toList_data]
  constructor
  · intro e
    have e1 : d.data.toList = [48] := by simpa using e
    have h1 : d.data.toList.length = 1 := by rw [e1]; rfl
    rw [Array.length_toList] at h1
    simp only [e1] at hb
    have h2 : ((48 : UInt8)).toNat = 48 := rfl
    exact ⟨by have := hb.1; simp at this; have := hb.2; simp at this; omega, h1⟩
  · rintro ⟨h1, h2⟩
    have hl : d.data.toList.length = 1 := by rw [Array.length_toList]; exact h2
    match hm : d.data.toList, hl with
    | [c], _ =>
      simp only [hm] at hb
      have h3 : c.toNat = 48 := by have := hb.1; simp [h1] at this; exact this
      have h4 : c = 48 := UInt8.toNat_inj.1 h3
      rw [h4]; rfl
set_option maxRecDepth 20000 in
set_option maxHeartbeats 2000000 in
theorem wform_any (s : ByteArray) (w : World) (hs : s.size ≤ 1000000) :
    Calls Tryz.prog 190 #[.string s] w fun e w' => e = .returned (.bool (formB s)) ∧ Below w.heap.size w w' := by
  have HF := Lib.hid (form_bare s)
  have hT := fun w => Tryz.strings_TrimPrefix s ⟨#[45]⟩ w
  rw [show (⟨#[45]⟩ : ByteArray).data.toList = [45] from rfl, bare_trim] at hT
  have HT := Lib.hid hT
  have hds : (bareS s).size ≤ s.size := by unfold bareS; split; (rw [ByteArray.size_extract]; omega); exact Nat.le_refl _
  clear hT
  generalize formB s = r at *
  generalize bareS s = d at *
  by_cases hz : d.size = 0
  · have hn := toList_nil hz
    have HR : Hid (r = false) := Lib.hid (by cases r with | false => rfl | true => exact absurd hz (HF.out.1 rfl).1)
    go_enter Tryz.func190, Tryz.ntmps190
    go_wp2_with (go_at_call 198; refine (HT.out _).mono ?_; rintro e w' ⟨rfl, rfl⟩)
    go_ret
    rw [HR.out]
    exact ⟨rfl, Below.refl _ _⟩
  · have hne := toList_ne hz
    have hb0 : ∀ h : 0 < d.size, ((d[0]'h).toNat : Int) = bt d 0 := fun h => by have := bt_nat d 0 h; simpa using this
    have hd0 : 0 < d.size := by omega
    have HNZ := Lib.hid hz
    have HB0 := Lib.hid (hb0 hd0)
    clear hz
    have HONE := Lib.hid (one_zero (d := d) hd0)
    go_enter Tryz.func190, Tryz.ntmps190
    go_wp2_with (go_at_call 198; refine (HT.out _).mono ?_; rintro e w' ⟨rfl, rfl⟩)
    · have h1 : bt d 0 = 48 := by assumption
      have h2 : (!d.toList == [48]) = true := by assumption
      have HR : Hid (r = false) := Lib.hid (by
        cases r with
        | false => rfl
        | true =>
          have h3 := (HF.out.1 rfl).2.1
          have h4 := HONE.out.2 ⟨h1, by omega⟩
          rw [h4] at h2; cases h2)
      go_ret
      rw [HR.out]
      exact ⟨rfl, Below.refl _ _⟩
    all_goals
      have HOK : Hid (¬ (bt d 0 = 48 ∧ d.size ≠ 1)) := Lib.hid (by
        first
        | (have h2 : (!d.toList == [48]) = false := by assumption
           have h4 := HONE.out.1 (by simpa using h2)
           exact fun h => h.2 h4.2)
        | (have h2 : ¬ bt d 0 = 48 := by assumption
           exact fun h => h2 h.1))
      clear hb0 hne
      (try (rename (!d.toList == [48]) = false => hx; clear hx))
      (try (rename ¬ bt d 0 = 48 => hx; clear hx))
      (try (rename bt d 0 = 48 => hx; clear hx))
      go_loopw [] (fun W => ∃ pos : Nat, pos ≤ d.size ∧ Hid (W.heap[w'.heap.size]? = some (.stringIter d pos) ∧ Below w'.heap.size w' W ∧ ∀ j : Nat, j < pos → 48 ≤ bt d j ∧ bt d j ≤ 57)) (fun W => d.size - W.iterPos w'.heap.size)
      case atStart => exact ⟨0, by omega, Lib.hid ⟨World.iter_heap w' d 0, bl_alloc (Below.refl _ _) _, fun j h => by omega⟩⟩
      case round =>
        obtain ⟨pos, hp, H⟩ := hrel
        by_cases hlt : pos < d.size
        · have hnx := fun ty => Lib.run_next_any_at (P := Tryz.prog) wr w'.heap.size d pos ty H.out.1 hlt
          have H2 := Lib.hid (And.intro (Lib.iterAt_heap wr w'.heap.size d pos (pos + (Utf8.decode d pos).2) H.out.1) (Lib.below_iterAt H.out.2.1 (Nat.le_refl _) d (pos + (Utf8.decode d pos).2)))
          by_cases hdig : 48 ≤ bt d pos ∧ bt d pos ≤ 57
          · have hdl := decode_low d pos hlt (by omega)
            rw [hdl] at hnx H2
            simp only at hnx H2
            have HD := Lib.hid hdig
            obtain ⟨c, hc⟩ : ∃ c : Nat, c = (bt d pos).toNat := ⟨_, rfl⟩
            have hc1 : 48 ≤ (c : Int) := by omega
            have hc2 : (c : Int) ≤ 57 := by omega
            rw [← hc] at hnx
            clear hdl hdig hc
            go_wp2
            go_roundw
            case rel => exact ⟨pos + 1, by omega, Lib.hid ⟨H2.out.1, H2.out.2, fun j hj => by
              by_cases e : j = pos
              · subst e; exact HD.out
              · exact H.out.2.2 j (by omega)⟩⟩
            case measure => simp only [World.iterPos, H2.out.1, H.out.1]; omega
          · have HR : Hid (r = false) := Lib.hid (by
              cases r with
              | false => rfl
              | true => exact absurd ((HF.out.1 rfl).2.2 pos hlt) hdig)
            have hcc : ((Utf8.decode d pos).1 : Int) < 48 ∨ 57 < ((Utf8.decode d pos).1 : Int) := by
              by_cases h : bt d pos < 128
              · rw [decode_low d pos hlt h]; have := bt_range d pos; simp only; omega
              · have := decode_high d pos hlt (by omega); omega
            generalize Utf8.decode d pos = q at *
            obtain ⟨c, m⟩ := q
            simp only at hcc hnx H2
            clear hdig
            rcases hcc with hc1 | hc1
            all_goals
              go_wp2
              go_ret
              rw [HR.out]
              exact ⟨rfl, H2.out.2⟩
        · have hnx := fun ty => Lib.run_next_end_at (P := Tryz.prog) wr w'.heap.size d pos ty H.out.1 hlt
          have HR : Hid (r = true) := Lib.hid (HF.out.2 ⟨HNZ.out, HOK.out, fun j hj => H.out.2.2 j (by omega)⟩)
          go_wp2
          go_ret
          rw [HR.out]
          exact ⟨rfl, H.out.2.1⟩
end Go.Proofs.YtdlkdecigpaaaaaGreatDoor
