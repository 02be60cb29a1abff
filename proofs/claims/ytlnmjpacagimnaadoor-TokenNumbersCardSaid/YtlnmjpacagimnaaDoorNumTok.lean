/- A number's text with blanks about it is one Num, in plain words. -/
import Derived.Test.YtlnmjpacagimnaaDoorTextW
namespace Go.Proofs.YtlnmjpacagimnaaDoor
set_option linter.unusedVariables false
set_option linter.unusedSimpArgs false
open Go.RowKit

theorem upTo_eq {p : Int → Bool} {n : Nat} {e : Int} (hp : p e = false) (hn : e ≤ n) : ∀ (k : Nat) (i : Int), 0 ≤ i → e - i = k → (∀ j, i ≤ j → j < e → p j = true) → upTo p n i = e := by
  intro k
  induction k with
  | zero => intro i _ hk _; obtain rfl : i = e := by omega
            exact upTo_stop hp
  | succ k ih =>
    intro i h0 hk h
    rw [upTo_step h0 (h i (Int.le_refl _) (by omega)) (by omega)]
    exact ih (i + 1) (by omega) (by omega) (fun j a b => h j (by omega) b)
def blankB (c : Int) : Bool := c == 32 || (c == 9 || (c == 10 || c == 13))
theorem isBlank_bt {s : ByteArray} {i : Int} (h : i < s.size) : isBlank s i = blankB (bt s i) := by
  unfold isBlank isAt blankB; simp [h]
def AllBlank (a : ByteArray) : Prop := ∀ j : Nat, j < a.size → blankB (bt a j) = true
section
variable {a s t : ByteArray} {z : Int}
theorem ctx_size : (a ++ s ++ t).size = a.size + s.size + t.size := by rw [ByteArray.size_append, ByteArray.size_append]
theorem ctx_a {j : Nat} (h : j < a.size) : bt (a ++ s ++ t) (j : Int) = bt a j := by
  rw [bt_left (by rw [ByteArray.size_append]; omega), bt_left h]
theorem ctx_s {j : Nat} (h : j < s.size) : bt (a ++ s ++ t) ((a.size : Int) + j) = bt s j := by
  have e := bt_left (b := t) (show a.size + j < (a ++ s).size by rw [ByteArray.size_append]; omega)
  rw [show (a.size : Int) + j = ((a.size + j : Nat) : Int) from by omega, e, bt_right h]
theorem ctx_t {j : Nat} (h : j < t.size) : bt (a ++ s ++ t) ((a.size : Int) + s.size + j) = bt t j := by
  have e := bt_right (a := a ++ s) h
  rw [ByteArray.size_append] at e
  rw [show (a.size : Int) + s.size + j = ((a.size + s.size + j : Nat) : Int) from by omega, e]
theorem ctx_cut : cutS (a ++ s ++ t) (a.size : Int) ((a.size : Int) + s.size) = s := by
  unfold cutS
  apply bytes_ext
  have h1 : a.data.toList.length = a.size := by rw [Array.length_toList]; rfl
  have h2 : s.data.toList.length = s.size := by rw [Array.length_toList]; rfl
  rw [toList_data, toList_data, Lib.extract_data, app_list, app_list, Int.toNat_natCast, show ((a.size : Int) + s.size).toNat = a.size + s.size from by omega, List.append_assoc]
  rw [← h1, List.drop_left, show a.data.toList.length + s.size - a.data.toList.length = s.size from by omega, ← h2, List.take_left]
/-- What a number's text has: where its digits begin, and what they are. -/
theorem text_parts (h : IsText s z) : ∃ (sg : Nat) (d : ByteArray), Dec d ∧ (decV d : Int) = z.natAbs ∧ 1 ≤ d.size ∧ (bt d 0 = 48 → d.size = 1) ∧ s.size = sg + d.size ∧ (∀ j : Nat, j < d.size → bt s ((sg : Int) + j) = bt d j ∧ 48 ≤ bt d j ∧ bt d j ≤ 57) ∧
    ((sg = 1 ∧ z < 0 ∧ bt s 0 = 45) ∨ (sg = 0 ∧ 0 ≤ z ∧ s = d)) ∧ bareS s = d ∧ s.size ≤ 401 := by
  obtain ⟨d, hd, hv, h1, h4, h48, hs⟩ := h
  have hdig : ∀ j : Nat, j < d.size → 48 ≤ bt d j ∧ bt d j ≤ 57 := fun j hj => by
    have hb := bt_data d j hj
    have := hd _ (List.getElem_mem (by rw [Array.length_toList]; exact hj : j < d.data.toList.length))
    omega
  by_cases hz : z < 0
  · rw [if_pos hz] at hs
    have hsz : s.size = 1 + d.size := by rw [hs, ByteArray.size_append]; rfl
    have h45 : bt s 0 = 45 := by
      rw [hs]
      have := bt_left (a := (⟨#[45]⟩ : ByteArray)) (b := d) (j := 0) (by decide)
      rw [Int.natCast_zero] at this
      rw [this]; decide +kernel
    have hbt : ∀ j : Nat, j < d.size → bt s ((1 : Int) + j) = bt d j := fun j hj => by
      have := bt_right (a := (⟨#[45]⟩ : ByteArray)) hj
      rw [hs, show (1 : Int) + j = (((⟨#[45]⟩ : ByteArray).size + j : Nat) : Int) from by show _ = ((1 + j : Nat) : Int); omega, this]
    refine ⟨1, d, hd, hv, h1, h48, hsz, fun j hj => ⟨hbt j hj, hdig j hj⟩, .inl ⟨rfl, hz, h45⟩, ?_, by omega⟩
    unfold bareS
    rw [show isAt s 0 45 = true from by simp [isAt, h45]; omega, if_pos rfl]
    apply bytes_ext
    rw [toList_data, toList_data, Lib.extract_data, hs, app_list]
    have h2 : d.data.toList.length = d.size := by rw [Array.length_toList]; rfl
    show List.take _ d.data.toList = _
    exact List.take_of_length_le (by rw [ByteArray.size_append]; show _ ≤ 1 + d.size - 1; omega)
  · rw [if_neg hz] at hs
    subst hs
    refine ⟨0, s, hd, hv, h1, h48, by omega, fun j hj => ⟨by congr 1; omega, hdig j hj⟩, .inr ⟨rfl, by omega, rfl⟩, ?_, by omega⟩
    unfold bareS
    have := hdig 0 h1
    rw [Int.natCast_zero] at this
    rw [show isAt s 0 45 = false from by simp [isAt]; omega]; rfl
theorem text_fits (h : IsText s z) (hz1 : -9223372036854775808 ≤ z) (hz2 : z ≤ 9223372036854775807) : fitsF s = true ∧ numZ s = z := by
  obtain ⟨sg, d, hd, hv, h1, h48, hsz, hdig, hsg, hbare, _⟩ := text_parts h
  have hall : AllDig d := fun j hj => (hdig j hj).2
  have hf : formB s = true := by
    rw [form_bare, hbare]
    exact ⟨by omega, fun ⟨e, k⟩ => k (h48 e), hall⟩
  have hn : numZ s = z := by
    have ht := tenN_all hall
    have hv2 : ((tenL 0 d.data.toList : Nat) : Int) = z.natAbs := hv
    unfold numZ
    rcases hsg with ⟨_, hz, h45⟩ | ⟨_, hz, rfl⟩
    · have hi : isAt s 0 45 = true := by simp [isAt, h45]; omega
      have hb2 : s.extract 1 s.size = d := by unfold bareS at hbare; rw [if_pos hi] at hbare; exact hbare
      rw [if_pos hi, hb2, ht, hv2]; omega
    · have := (hdig 0 h1).2
      rw [Int.natCast_zero] at this
      have hi : isAt s 0 45 = false := by simp [isAt]; omega
      rw [hi, if_neg (by simp), ht, hv2]; omega
  refine ⟨?_, hn⟩
  unfold fitsF
  rw [hf, hn]
  simp [fitsB]; omega
/-- Where the whole part ends. -/
theorem num_whole (h : IsText s z) (hx : digitAt (a ++ s ++ t) ((a.size : Int) + s.size) = false) : numberF (a ++ s ++ t) a.size = numberD (a ++ s ++ t) ((a.size : Int) + s.size) ∧ (bt (a ++ s ++ t) a.size = 45 ∨ 48 ≤ bt (a ++ s ++ t) a.size ∧ bt (a ++ s ++ t) a.size ≤ 57) := by
  obtain ⟨sg, d, hd, hv, h1, h48, hsz, hdig, hsg, _, _⟩ := text_parts h
  have hu := ctx_size (a := a) (s := s) (t := t)
  have hs0 := ctx_s (a := a) (s := s) (t := t) (j := 0) (by omega)
  simp only [Int.natCast_zero, Int.add_zero] at hs0
  have hd0 := hdig 0 h1
  simp only [Int.natCast_zero, Int.add_zero] at hd0
  have hsge : signEnd (a ++ s ++ t) a.size = (a.size : Int) + sg := by
    unfold signEnd
    rcases hsg with ⟨h2, _, h45⟩ | ⟨h2, _, rfl⟩
    · rw [show isAt (a ++ s ++ t) a.size 45 = true from by simp [isAt, hs0, h45, hu]; omega, if_pos rfl]; omega
    · subst h2
      have e := hd0.1; simp only [Int.natCast_zero] at e
      rw [show isAt (a ++ s ++ t) a.size 45 = false from by simp [isAt, hs0]; omega]; simp
  have hD : ∀ j : Nat, j < d.size → bt (a ++ s ++ t) ((a.size : Int) + sg + j) = bt d j := fun j hj => by
    have e := ctx_s (a := a) (s := s) (t := t) (j := sg + j) (by omega)
    rw [show (a.size : Int) + sg + j = (a.size : Int) + ((sg + j : Nat) : Int) from by omega, e, show ((sg + j : Nat) : Int) = (sg : Int) + j from by omega]
    exact (hdig j hj).1
  have hda : digitAt (a ++ s ++ t) ((a.size : Int) + sg) = true := by
    have e := hD 0 h1
    simp only [Int.natCast_zero, Int.add_zero] at e
    simp [digitAt, digitB, e, hu]; omega
  have hwe : wholeEnd (a ++ s ++ t) ((a.size : Int) + sg) = (a.size : Int) + s.size := by
    unfold wholeEnd
    have e := hD 0 h1
    simp only [Int.natCast_zero, Int.add_zero] at e
    by_cases hc : bt d 0 = 48
    · rw [if_pos (by rw [e]; exact hc)]; have := h48 hc; omega
    · rw [if_neg (by rw [e]; exact hc)]
      refine upTo_eq hx (by rw [hu]; omega) d.size _ (by omega) (by omega) ?_
      intro j h3 h4
      obtain ⟨k, rfl⟩ : ∃ k : Nat, j = (a.size : Int) + sg + k := ⟨(j - a.size - sg).toNat, by omega⟩
      have e2 := hD k (by omega)
      have e3 := (hdig k (by omega)).2
      simp [digitAt, digitB, e2, hu]; omega
  constructor
  · unfold numberF; rw [hsge, if_pos hda, hwe]
  · rcases hsg with ⟨h2, _, h45⟩ | ⟨h2, _, rfl⟩
    · exact .inl (by rw [hs0, h45])
    · subst h2
      refine .inr ?_
      rw [hs0]
      have e := hd0.1; simp only [Int.natCast_zero] at e
      omega
theorem num_next (ha : AllBlank a) (h : IsText s z) (hx : digitAt (a ++ s ++ t) ((a.size : Int) + s.size) = false) : nextF (a ++ s ++ t) 0 = numF (a ++ s ++ t) a.size ∧ blanks (a ++ s ++ t) 0 = a.size := by
  obtain ⟨_, hc⟩ := num_whole h hx
  have hsz : 1 ≤ s.size := by obtain ⟨sg, d, _, _, h1, _, h2, _⟩ := text_parts h; omega
  have hu := ctx_size (a := a) (s := s) (t := t)
  have hlt : (a.size : Int) < (a ++ s ++ t).size := by rw [hu]; omega
  have hb : blanks (a ++ s ++ t) 0 = a.size := by
    refine upTo_eq ?_ (by omega) a.size 0 (by omega) (by omega) ?_
    · rw [isBlank_bt hlt]
      generalize bt (a ++ s ++ t) a.size = c at *
      simp [blankB]; omega
    · intro j h3 h4
      rw [isBlank_bt (by omega)]
      have := ctx_a (s := s) (t := t) (j := j.toNat) (a := a) (by omega)
      rw [Int.toNat_of_nonneg h3] at this
      rw [this]
      have := ha j.toNat (by omega)
      rw [Int.toNat_of_nonneg h3] at this
      exact this
  refine ⟨?_, hb⟩
  unfold nextF
  rw [hb, if_pos hlt]
  unfold tokF
  generalize bt (a ++ s ++ t) a.size = c at *
  rw [if_neg (by simp [markB]; omega), if_neg (by omega), if_pos (by simp [digitB]; omega)]
/-- Nothing of a fraction follows, and no digit. -/
theorem num_plain (ha : AllBlank a) (h : IsText s z) (hz1 : -9223372036854775808 ≤ z) (hz2 : z ≤ 9223372036854775807) (ht : AllBlank t) : ∃ tk, allOf (a ++ s ++ t) = ([⟨3, ByteArray.empty, z, a.size, (a.size : Int) + s.size⟩, tk], 0, 0) := by
  have hu := ctx_size (a := a) (s := s) (t := t)
  have hsz : 1 ≤ s.size := by obtain ⟨sg, d, _, _, h1, _, h2, _⟩ := text_parts h; omega
  have hnot : ∀ c, blankB c = false → isAt (a ++ s ++ t) ((a.size : Int) + s.size) c = false := fun c hc => by
    by_cases ht0 : t.size = 0
    · simp [isAt, hu]; omega
    · have e := ctx_t (a := a) (s := s) (t := t) (j := 0) (by omega)
      have hb := ht 0 (by omega)
      simp only [Int.natCast_zero, Int.add_zero] at e hb
      simp only [isAt, Bool.and_eq_false_iff, beq_eq_false_iff_ne]
      refine .inr fun k => ?_
      rw [e] at k; rw [k, hc] at hb; cases hb
  have hx : digitAt (a ++ s ++ t) ((a.size : Int) + s.size) = false := by
    cases hd : digitAt (a ++ s ++ t) ((a.size : Int) + s.size) with
    | false => rfl
    | true =>
      simp only [digitAt, digitB, Bool.and_eq_true, decide_eq_true_eq] at hd
      have := hnot (bt (a ++ s ++ t) ((a.size : Int) + s.size)) (by generalize bt (a ++ s ++ t) ((a.size : Int) + s.size) = c at *; simp [blankB]; omega)
      have hd1 := hd.1
      rw [hu] at hd1
      simp [isAt, hu] at this
      omega
  obtain ⟨hw, _⟩ := num_whole h hx
  obtain ⟨hn, _⟩ := num_next ha h hx
  obtain ⟨hf, hz⟩ := text_fits h hz1 hz2
  have hnum : numberF (a ++ s ++ t) a.size = ((a.size : Int) + s.size, true, true) := by
    rw [hw]
    unfold numberD
    rw [hnot 46 (by decide), if_neg (by simp)]
    unfold numberE
    rw [hnot 101 (by decide), hnot 69 (by decide)]; rfl
  have h1 : nextF (a ++ s ++ t) 0 = (⟨3, ByteArray.empty, z, a.size, (a.size : Int) + s.size⟩, 0, 0) := by
    rw [hn]
    unfold numF
    rw [hnum, if_neg (by simp), if_neg (by simp), ctx_cut, if_pos hf, hz]
  have hb2 : blanks (a ++ s ++ t) ((a.size : Int) + s.size) = (a ++ s ++ t).size := by
    refine upTo_eq (blank_end (Int.le_refl _)) (Int.le_refl _) t.size _ (by omega) (by rw [hu]; omega) ?_
    intro j h3 h4
    rw [hu] at h4
    obtain ⟨k, rfl⟩ : ∃ k : Nat, j = (a.size : Int) + s.size + k := ⟨(j - a.size - s.size).toNat, by omega⟩
    rw [isBlank_bt (by rw [hu]; omega), ctx_t (by omega)]
    exact ht k (by omega)
  refine ⟨⟨0, ByteArray.empty, 0, (a ++ s ++ t).size, (a ++ s ++ t).size⟩, ?_⟩
  unfold allOf
  rw [allAt_step (by omega) (by omega), h1, if_neg (by simp), if_neg (by simp)]
  simp only
  rw [allAt_step (by omega) (by rw [hu]; omega)]
  have h2 : nextF (a ++ s ++ t) ((a.size : Int) + s.size) = (⟨0, ByteArray.empty, 0, (a ++ s ++ t).size, (a ++ s ++ t).size⟩, 0, 0) := by
    unfold nextF
    rw [hb2, if_neg (by omega)]
  rw [h2, if_neg (by simp), if_pos rfl]; rfl
theorem num_err (ha : AllBlank a) (h : IsText s z) (hx : digitAt (a ++ s ++ t) ((a.size : Int) + s.size) = false) {e : Int} (hn : numberD (a ++ s ++ t) ((a.size : Int) + s.size) = (e, false, true)) : allOf (a ++ s ++ t) = ([], (a.size : Int), 4) := by
  obtain ⟨hw, _⟩ := num_whole h hx
  obtain ⟨h1, _⟩ := num_next ha h hx
  have h2 : nextF (a ++ s ++ t) 0 = (Tk.zero, (a.size : Int), 4) := by
    rw [h1]; unfold numF; rw [hw, hn, if_neg (by simp), if_pos rfl]
  unfold allOf
  rw [allAt_step (by omega) (by omega), h2, if_pos (by simp)]
/-- Behind a point, or an exponent's letter and its sign, there are digits: it is none. -/
theorem num_frac (ha : AllBlank a) (h : IsText s z) (ht : t = ⟨#[46, 48]⟩) : allOf (a ++ s ++ t) = ([], (a.size : Int), 4) := by
  subst ht
  have hu := ctx_size (a := a) (s := s) (t := ⟨#[46, 48]⟩)
  have h2 : ((⟨#[46, 48]⟩ : ByteArray)).size = 2 := rfl
  have b0 := ctx_t (a := a) (s := s) (t := ⟨#[46, 48]⟩) (j := 0) (by decide)
  have b1 := ctx_t (a := a) (s := s) (t := ⟨#[46, 48]⟩) (j := 1) (by decide)
  have c0 : bt (⟨#[46, 48]⟩ : ByteArray) ((0 : Nat) : Int) = 46 := by decide +kernel
  have c1 : bt (⟨#[46, 48]⟩ : ByteArray) ((1 : Nat) : Int) = 48 := by decide +kernel
  rw [c0] at b0
  rw [c1] at b1
  simp only [Int.natCast_zero, Int.add_zero, Int.natCast_one] at b0 b1
  rw [h2] at hu
  have hd1 : digitAt (a ++ s ++ ⟨#[46, 48]⟩) ((a.size : Int) + s.size + 1) = true := by simp [digitAt, digitB, b1, hu]; try omega
  have hde : digitsEnd (a ++ s ++ ⟨#[46, 48]⟩) ((a.size : Int) + s.size + 1) = (a.size : Int) + s.size + 2 := by
    refine upTo_eq ?_ (by rw [hu]; omega) 1 _ (by omega) (by omega) ?_
    · simp [digitAt, hu]
    · intro j h3 h4
      obtain rfl : j = (a.size : Int) + s.size + 1 := by omega
      exact hd1
  refine num_err ha h (by simp [digitAt, digitB, b0]) (e := (a.size : Int) + s.size + 2) ?_
  unfold numberD
  rw [show isAt (a ++ s ++ ⟨#[46, 48]⟩) ((a.size : Int) + s.size) 46 = true from by (simp [isAt, b0, hu]; try omega), if_pos rfl, if_pos hd1, hde]
  unfold numberE
  have hno : ∀ c, isAt (a ++ s ++ ⟨#[46, 48]⟩) ((a.size : Int) + s.size + 2) c = false := fun c => by simp [isAt, hu]; try omega
  rw [hno, hno]; rfl
theorem num_expo (ha : AllBlank a) (h : IsText s z) (ht : t = ⟨#[69, 43, 48, 48]⟩) : allOf (a ++ s ++ t) = ([], (a.size : Int), 4) := by
  subst ht
  have hu := ctx_size (a := a) (s := s) (t := ⟨#[69, 43, 48, 48]⟩)
  have h2 : ((⟨#[69, 43, 48, 48]⟩ : ByteArray)).size = 4 := rfl
  have b0 := ctx_t (a := a) (s := s) (t := ⟨#[69, 43, 48, 48]⟩) (j := 0) (by decide)
  have b1 := ctx_t (a := a) (s := s) (t := ⟨#[69, 43, 48, 48]⟩) (j := 1) (by decide)
  have b2 := ctx_t (a := a) (s := s) (t := ⟨#[69, 43, 48, 48]⟩) (j := 2) (by decide)
  have c0 : bt (⟨#[69, 43, 48, 48]⟩ : ByteArray) ((0 : Nat) : Int) = 69 := by decide +kernel
  have c1 : bt (⟨#[69, 43, 48, 48]⟩ : ByteArray) ((1 : Nat) : Int) = 43 := by decide +kernel
  have c2 : bt (⟨#[69, 43, 48, 48]⟩ : ByteArray) ((2 : Nat) : Int) = 48 := by decide +kernel
  rw [c0] at b0
  rw [c1] at b1
  rw [c2] at b2
  simp only [Int.natCast_zero, Int.add_zero, Int.natCast_one, show ((2 : Nat) : Int) = 2 from rfl] at b0 b1 b2
  rw [h2] at hu
  refine num_err ha h (by simp [digitAt, digitB, b0]) (e := digitsEnd (a ++ s ++ ⟨#[69, 43, 48, 48]⟩) ((a.size : Int) + s.size + 2)) ?_
  unfold numberD
  rw [show isAt (a ++ s ++ ⟨#[69, 43, 48, 48]⟩) ((a.size : Int) + s.size) 46 = false from by simp [isAt, b0], if_neg (by simp)]
  unfold numberE
  rw [show isAt (a ++ s ++ ⟨#[69, 43, 48, 48]⟩) ((a.size : Int) + s.size) 69 = true from by (simp [isAt, b0, hu]; try omega), Bool.or_true, if_pos rfl]
  have hx : expSign (a ++ s ++ ⟨#[69, 43, 48, 48]⟩) ((a.size : Int) + s.size + 1) = (a.size : Int) + s.size + 2 := by
    unfold expSign
    rw [show isAt (a ++ s ++ ⟨#[69, 43, 48, 48]⟩) ((a.size : Int) + s.size + 1) 43 = true from by (simp [isAt, b1, hu]; try omega), Bool.true_or, if_pos rfl]; omega
  rw [hx, if_pos (by simp [digitAt, digitB, b2, hu]; try omega)]
end
end Go.Proofs.YtlnmjpacagimnaaDoor
