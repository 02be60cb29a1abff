/- A text's expressions: what is found stands behind; there is always an answer. Plain words. -/
import Derived.Test.YtdlkdecigpaaaaaGreatDoorMp18
import Derived.Test.YtdlkdecigpaaaaaGreatDoorMp24
namespace Go.Proofs.YtdlkdecigpaaaaaGreatDoor
set_option linter.unusedVariables false
set_option linter.unusedSimpArgs false
open Go.RowKit

theorem blanks_ge (s : ByteArray) (i : Int) : i ≤ blanks s i := upTo_ge
theorem blanks_le {s : ByteArray} {i : Int} (h0 : 0 ≤ i) (h1 : i ≤ s.size) : blanks s i ≤ s.size := upTo_le h0 h1
theorem mark_pos {s : ByteArray} {i : Int} {t : ByteArray} (h : 0 ≤ markAt s i t) (ht : 0 < t.size) : i < markAt s i t ∧ markAt s i t ≤ s.size := by
  unfold markAt at h ⊢
  have := blanks_ge s i
  split
  · rename_i hc; exact ⟨by omega, by omega⟩
  · rename_i hc; rw [if_neg hc] at h; omega
theorem word_pos {s : ByteArray} {i : Int} (h0 : 0 ≤ i) (h : wordAt s i ≠ eS) : i < wordAtEnd s i ∧ wordAtEnd s i ≤ s.size := by
  unfold wordAt at h
  unfold wordAtEnd
  have hb := blanks_ge s i
  cases hl : letterAt s (blanks s i) with
  | false => rw [hl] at h; simp at h
  | true =>
    rw [if_pos rfl]
    have h1 := letterAt_lt hl
    have hg : goesAt s (blanks s i) = true := by unfold goesAt; rw [hl]; rfl
    unfold wordEnd
    rw [upTo_step (by omega) hg h1]
    have h2 := upTo_ge (p := goesAt s) (n := s.size) (i := blanks s i + 1)
    have h3 := upTo_le (p := goesAt s) (n := s.size) (i := blanks s i + 1) (by omega) (by omega)
    exact ⟨by omega, h3⟩
theorem word_none {s : ByteArray} {i : Int} (h0 : 0 ≤ i) (h : wordAt s i = eS) : wordAtEnd s i = i := by
  unfold wordAtEnd
  cases hl : letterAt s (blanks s i) with
  | false => rfl
  | true =>
    exfalso
    unfold wordAt at h
    rw [hl, if_pos rfl] at h
    have h1 := letterAt_lt hl
    have hg : goesAt s (blanks s i) = true := by unfold goesAt; rw [hl]; rfl
    have h2 := upTo_ge (p := goesAt s) (n := s.size) (i := blanks s i + 1)
    have h4 : 0 ≤ blanks s i := by have := blanks_ge s i; omega
    have h3 := upTo_le (p := goesAt s) (n := s.size) (i := blanks s i + 1) (by omega) (by omega)
    have h5 := congrArg ByteArray.size h
    rw [ByteArray.size_extract] at h5
    unfold wordEnd at h5
    rw [upTo_step h4 hg h1] at h5
    have h6 : eS.size = 0 := rfl
    omega
theorem mark_first {s : ByteArray} {i : Int} : ∀ {l : List ByteArray} {op : ByteArray} {e : Int}, firstMark s i l = some (op, e) → op ∈ l ∧ 0 ≤ markAt s i op ∧ e = markAt s i op
  | [], _, _, h => by cases h
  | t :: l, op, e, h => by
    unfold firstMark at h
    split at h
    · rename_i hc; cases h; exact ⟨.head _, hc, rfl⟩
    · obtain ⟨h1, h2⟩ := mark_first h; exact ⟨.tail _ h1, h2⟩
theorem signs_size {n : Nat} {t : ByteArray} (h : t ∈ signsL n) : 0 < t.size ∧ t.size ≤ 3 := by
  match n, h with
  | 0, h => simp [signsL] at h; subst h; decide
  | 1, h => simp [signsL] at h; subst h; decide
  | 2, h => simp [signsL] at h
  | 3, h => simp [signsL] at h; rcases h with rfl | rfl | rfl | rfl | rfl | rfl <;> decide
  | 4, h => simp [signsL] at h; rcases h with rfl | rfl <;> decide
  | 5, h => simp [signsL] at h; rcases h with rfl | rfl | rfl <;> decide
  | n + 6, h => simp [signsL] at h
theorem betw_pos {s : ByteArray} {i : Int} {n : Nat} {op : ByteArray} {e : Int} (h0 : 0 ≤ i) (h : betw s i n = some (op, e)) : i < e ∧ e ≤ s.size := by
  unfold betw at h
  split at h
  · split at h
    · rename_i hw; cases h; exact word_pos h0 (by rw [hw]; decide)
    · cases h
  · split at h
    · split at h
      · rename_i hw; cases h; exact word_pos h0 (by rw [hw]; decide)
      · cases h
    · obtain ⟨h1, h2, rfl⟩ := mark_first h
      exact mark_pos h2 (signs_size h1).1
theorem digits_pos {s : ByteArray} {q : Int} (h0 : 0 ≤ q) (h : digitAt s q = true) : q < digitsEnd s q ∧ digitsEnd s q ≤ s.size := by
  have h1 := digitAt_lt h
  unfold digitsEnd
  rw [upTo_step h0 h h1]
  have h2 := upTo_ge (p := digitAt s) (n := s.size) (i := q + 1)
  have h3 := upTo_le (p := digitAt s) (n := s.size) (i := q + 1) (by omega) (by omega)
  exact ⟨by omega, h3⟩
theorem str_pos {s : ByteArray} {q : Int} (h0 : 0 ≤ q) (h : (strF s q).2.2 = 0) : q < (strF s q).1.stop ∧ (strF s q).1.stop ≤ s.size := by
  unfold strF at h ⊢
  split at h
  · rename_i hc
    rw [if_pos hc]
    have := textF_end s _ (q + 1) [] (by omega) hc
    exact ⟨Int.lt_trans (by omega) this.1, this.2⟩
  · exact absurd h (by assumption)
/-- Where an answer stands. -/
def PosOk (s : ByteArray) (g : G) (i : Int) : Res → Prop
  | .ok _ p => 0 ≤ i → i ≤ s.size → (i ≤ p ∧ p ≤ s.size) ∧ (match g with | .more _ _ => True | .parts _ => True | _ => i < p)
  | .err _ c => c ≠ 0
theorem numR_pos {s : ByteArray} {i : Int} (hd : digitAt s (blanks s i) = true) : PosOk s .one i (numR s (blanks s i)) := by
  unfold numR
  have hb := blanks_ge s i
  split
  · exact (by decide : (1 : Int) ≠ 0)
  · split
    · rename_i h; exact h
    · split
      · exact (by decide : (1 : Int) ≠ 0)
      · intro h0 h1
        have := digits_pos (by omega) hd
        exact ⟨⟨by omega, this.2⟩, by show i < _; omega⟩
theorem textR_pos {s : ByteArray} {i : Int} : PosOk s .one i (textR s (blanks s i)) := by
  unfold textR
  have hb := blanks_ge s i
  split
  · rename_i h
    intro h0 h1
    have := str_pos (by omega) h
    exact ⟨⟨by omega, this.2⟩, by show i < _; omega⟩
  · rename_i h; exact h
theorem wordR_pos {s : ByteArray} {i : Int} : PosOk s .one i (wordR s i) := by
  have hw : wordAt s i ≠ eS → 0 ≤ i → i ≤ s.size → (i ≤ wordAtEnd s i ∧ wordAtEnd s i ≤ s.size) ∧ i < wordAtEnd s i := fun h h0 _ => by
    have := word_pos h0 h; exact ⟨⟨by omega, this.2⟩, this.1⟩
  unfold wordR
  split
  · rename_i h; exact hw (by rw [h]; decide)
  · split
    · rename_i h; exact hw (by rw [h]; decide)
    · split
      · rename_i h; exact hw (by rw [h]; decide)
      · split
        · rename_i h; exact hw (by rw [h]; decide)
        · split
          · exact (by decide : (1 : Int) ≠ 0)
          · rename_i h; exact hw (fun e => h (.inl e))
theorem pos_trans {s : ByteArray} {g g' : G} {i e : Int} {r : Res} (h : PosOk s g' e r) (he : 0 ≤ i → i ≤ s.size → i < e ∧ e ≤ s.size) : PosOk s g i r := by
  cases r with
  | err p c => exact h
  | ok T p =>
    intro h0 h1
    obtain ⟨h2, h3⟩ := he h0 h1
    obtain ⟨⟨h4, h5⟩, _⟩ := h (by omega) h3
    refine ⟨⟨by omega, h5⟩, ?_⟩
    cases g <;> first | trivial | (show i < p; omega)
theorem pos_up {s : ByteArray} {g : G} {i : Int} {r : Res} {op : ByteArray} (h : PosOk s g i r) : PosOk s g i (r.up op) := by
  cases r with
  | err p c => exact h
  | ok T p => exact h
theorem par_pos {s : ByteArray} {g : G} {i : Int} {r : Res} (h : Par s g i r) : PosOk s g i r := by
  induction h with
  | lev_err _ _ ih => exact ih
  | lev_ok _ _ _ ih1 ih2 => exact pos_trans ih2 fun h0 h1 => ⟨(ih1 h0 h1).2, (ih1 h0 h1).1.2⟩
  | not_on hw _ ih => exact pos_up (pos_trans ih fun h0 h1 => word_pos h0 (by rw [hw]; decide))
  | not_no _ _ ih =>
    rename_i r _ _
    cases r with
    | err p c => exact ih
    | ok T p => exact fun h0 h1 => ⟨(ih h0 h1).1, (ih h0 h1).2⟩
  | neg_on hm _ ih => exact pos_up (pos_trans ih fun h0 h1 => mark_pos hm (by decide))
  | neg_no _ _ ih =>
    rename_i r _ _
    cases r with
    | err p c => exact ih
    | ok T p => exact fun h0 h1 => ⟨(ih h0 h1).1, (ih h0 h1).2⟩
  | more_end _ => exact fun h0 h1 => ⟨⟨Int.le_refl _, h1⟩, trivial⟩
  | more_err _ _ ih => exact ih
  | more_one hb _ ih => exact pos_trans (g' := .lev 4) (r := .ok _ _) (fun a b => ih a b) fun h0 h1 => betw_pos h0 hb
  | more_on _ hb _ _ ih1 ih2 => exact pos_trans (pos_trans (g := .lev 0) ih2 fun h0 h1 => ⟨(ih1 h0 h1).2, (ih1 h0 h1).1.2⟩) fun h0 h1 => betw_pos h0 hb
  | part_err _ ih => exact ih
  | part_ok _ _ ih1 ih2 => exact pos_trans ih2 fun h0 h1 => ⟨(ih1 h0 h1).2, (ih1 h0 h1).1.2⟩
  | parts_end _ _ => exact fun h0 h1 => ⟨⟨Int.le_refl _, h1⟩, trivial⟩
  | get_word hm hw _ ih =>
    exact pos_trans ih fun h0 h1 => by
      have h2 := mark_pos hm (by decide)
      have h3 := word_pos (by omega) hw
      exact ⟨by omega, h3.2⟩
  | get_form _ _ _ => exact (by decide : (1 : Int) ≠ 0)
  | get_err _ _ _ _ hc => exact hc
  | get_text hm _hw hq _hj hc _hp ih =>
    rename_i T i q r
    exact pos_trans ih fun h0 h1 => by
      have h2 := mark_pos hm (by decide)
      have h3 := blanks_ge s (markAt s i ⟨#[46]⟩)
      rw [← hq] at h3
      have h4 := str_pos (by omega) hc
      exact ⟨by omega, h4.2⟩
  | at_err _ _ _ ih => exact ih
  | at_form _ _ _ _ _ => exact (by decide : (1 : Int) ≠ 0)
  | at_on _ hm _ hk _ ih1 ih2 =>
    exact pos_trans ih2 fun h0 h1 => by
      have h2 := mark_pos hm (by decide)
      have h3 := ih1 (by omega) h2.2
      have h4 := mark_pos hk (by decide)
      exact ⟨by have := h3.1.1; omega, h4.2⟩
  | one_num hd => exact numR_pos hd
  | one_text _ => exact textR_pos
  | one_err _ _ ih => exact ih
  | one_form _ _ _ _ => exact (by decide : (1 : Int) ≠ 0)
  | one_in hm _ hk ih =>
    exact fun h0 h1 => by
      have h2 := mark_pos hm (by decide)
      have h3 := ih (by omega) h2.2
      have h4 := mark_pos hk (by decide)
      exact ⟨⟨by have := h3.1.1; omega, h4.2⟩, by show _ < _; have := h3.1.1; omega⟩
  | one_word _ _ _ _ => exact wordR_pos
  | one_open _ _ => exact (by decide : (1 : Int) ≠ 0)
  | one_call ha hm _ ih =>
    exact pos_trans ih fun h0 h1 => by
      have hw : wordAt s _ ≠ eS := fun e => by rw [e] at ha; exact absurd ha (by decide)
      have h2 := word_pos h0 hw
      have h3 := mark_pos hm (by decide)
      exact ⟨by omega, h3.2⟩
  | call_err _ ih => exact ih
  | call_few _ _ _ _ => exact (by decide : (12 : Int) ≠ 0)
  | call_end _ hm _ ih =>
    exact fun h0 h1 => by
      have h3 := ih h0 h1
      have h4 := mark_pos hm (by decide)
      exact ⟨⟨by have := h3.1.1; omega, h4.2⟩, by show _ < _; have := h3.1.1; omega⟩
  | call_form _ _ _ _ => exact (by decide : (1 : Int) ≠ 0)
  | call_many _ _ _ _ _ => exact (by decide : (12 : Int) ≠ 0)
  | call_on _ _ hm _ _ ih1 ih2 =>
    exact pos_trans ih2 fun h0 h1 => by
      have h3 := ih1 h0 h1
      have h4 := mark_pos hm (by decide)
      exact ⟨by have := h3.1.1; omega, h4.2⟩
/-- How much is left to look at. -/
def rank : G → Nat
  | .lev n => 9 - n
  | .part => 2
  | .one => 1
  | .more _ _ => 11
  | .parts _ => 11
  | .call _ _ => 10
def meas (s : ByteArray) (g : G) (i : Int) : Nat := (s.size - i.toNat) * 20 + rank g
def goodG : G → Prop
  | .lev n => n ≤ 6
  | .more n _ => lv n
  | _ => True
theorem par_all (s : ByteArray) : ∀ (k : Nat) (g : G) (i : Int), meas s g i ≤ k → 0 ≤ i → i ≤ s.size → goodG g → ∃ r, Par s g i r := by
  intro k
  induction k using Nat.strongRecOn with
  | _ k ih =>
    intro g i hk h0 h1 hg
    -- what stands further, or at the same place with a lower rank
    have far : ∀ (g' : G) (e : Int), i < e → e ≤ s.size → goodG g' → ∃ r, Par s g' e r := fun g' e he1 he2 hg' => by
      have hr : rank g' ≤ 11 := by cases g' <;> simp [rank] <;> omega
      exact ih (meas s g' e) (by unfold meas at hk ⊢; omega) g' e (Nat.le_refl _) (by omega) he2 hg'
    have near : ∀ (g' : G), rank g' < rank g → goodG g' → ∃ r, Par s g' i r := fun g' hr hg' =>
      ih (meas s g' i) (by unfold meas at hk ⊢; omega) g' i (Nat.le_refl _) h0 h1 hg'
    cases g with
    | lev n =>
      by_cases h2 : n = 2
      · subst h2
        by_cases hw : wordAt s i = notS
        · obtain ⟨h3, h4⟩ := word_pos h0 (by rw [hw]; decide)
          obtain ⟨r, hr⟩ := far (.lev 2) _ h3 h4 (by simp [goodG])
          exact ⟨_, .not_on hw hr⟩
        · obtain ⟨r, hr⟩ := near (.lev 3) (by simp [rank]) (by simp [goodG])
          exact ⟨_, .not_no hw hr⟩
      · by_cases h6 : n = 6
        · subst h6
          by_cases hm : 0 ≤ markAt s i ⟨#[45]⟩
          · obtain ⟨h3, h4⟩ := mark_pos hm (by decide)
            obtain ⟨r, hr⟩ := far (.lev 6) _ h3 h4 (by simp [goodG])
            exact ⟨_, .neg_on hm hr⟩
          · obtain ⟨r, hr⟩ := near .part (by simp [rank]) trivial
            exact ⟨_, .neg_no (by omega) hr⟩
        · have hn6 : n ≤ 6 := hg
          have hl : lv n := by unfold lv; omega
          obtain ⟨r, hr⟩ := near (.lev (n + 1)) (by simp [rank]; omega) (by simp [goodG]; omega)
          cases r with
          | err p c => exact ⟨_, .lev_err hl hr⟩
          | ok T p =>
            have hp := par_pos hr h0 h1
            obtain ⟨r', hr'⟩ := far (.more n T) p hp.2 hp.1.2 hl
            exact ⟨_, .lev_ok hl hr hr'⟩
    | more n T =>
      cases hb : betw s i n with
      | none => exact ⟨_, .more_end hb⟩
      | some oe =>
        obtain ⟨op, e⟩ := oe
        obtain ⟨h3, h4⟩ := betw_pos h0 hb
        have hn : n + 1 ≤ 6 := by have : lv n := hg; unfold lv at this; omega
        obtain ⟨r, hr⟩ := far (.lev (n + 1)) e h3 h4 hn
        cases r with
        | err p c => exact ⟨_, .more_err hb hr⟩
        | ok U p =>
          by_cases h33 : n = 3
          · subst h33; exact ⟨_, .more_one hb hr⟩
          · have hp := par_pos hr (by omega) h4
            have := hp.1.1
            obtain ⟨r', hr'⟩ := far (.more n (binT op T U)) p (by omega) hp.1.2 hg
            exact ⟨_, .more_on h33 hb hr hr'⟩
    | part =>
      obtain ⟨r, hr⟩ := near .one (by simp [rank]) trivial
      cases r with
      | err p c => exact ⟨_, .part_err hr⟩
      | ok T p =>
        have hp := par_pos hr h0 h1
        obtain ⟨r', hr'⟩ := far (.parts T) p hp.2 hp.1.2 trivial
        exact ⟨_, .part_ok hr hr'⟩
    | parts T =>
      by_cases hm : 0 ≤ markAt s i ⟨#[46]⟩
      · obtain ⟨h3, h4⟩ := mark_pos hm (by decide)
        by_cases hw : wordAt s (markAt s i ⟨#[46]⟩) = eS
        · cases hq : isAt s (blanks s (markAt s i ⟨#[46]⟩)) 34 with
          | false => exact ⟨_, .get_form hm hw hq⟩
          | true =>
            by_cases hc : (strF s (blanks s (markAt s i ⟨#[46]⟩))).2.2 = 0
            · have hb := blanks_ge s (markAt s i ⟨#[46]⟩)
              obtain ⟨h5, h6⟩ := str_pos (by omega) hc
              obtain ⟨r, hr⟩ := far (.parts (.mk getS (strF s (blanks s (markAt s i ⟨#[46]⟩))).1.text VT.zero [T])) _ (by omega) h6 trivial
              exact ⟨_, .get_text hm hw rfl hq hc hr⟩
            · exact ⟨_, .get_err hm hw rfl hq hc⟩
        · obtain ⟨h5, h6⟩ := word_pos (by omega) hw
          obtain ⟨r, hr⟩ := far (.parts (.mk getS (wordAt s (markAt s i ⟨#[46]⟩)) VT.zero [T])) _ (by omega) h6 trivial
          exact ⟨_, .get_word hm hw hr⟩
      · by_cases hk2 : 0 ≤ markAt s i ⟨#[91]⟩
        · obtain ⟨h3, h4⟩ := mark_pos hk2 (by decide)
          obtain ⟨r, hr⟩ := far (.lev 0) _ h3 h4 (by simp [goodG])
          cases r with
          | err p c => exact ⟨_, .at_err (by omega) hk2 hr⟩
          | ok U p =>
            have hp := par_pos hr (by omega) h4
            have := hp.1.1
            by_cases hj : 0 ≤ markAt s p ⟨#[93]⟩
            · obtain ⟨h5, h6⟩ := mark_pos hj (by decide)
              obtain ⟨r', hr'⟩ := far (.parts (binT atS T U)) _ (by omega) h6 trivial
              exact ⟨_, .at_on (by omega) hk2 hr hj hr'⟩
            · exact ⟨_, .at_form (by omega) hk2 hr (by omega)⟩
        · exact ⟨_, .parts_end (by omega) (by omega)⟩
    | one =>
      cases hd : digitAt s (blanks s i) with
      | true => exact ⟨_, .one_num hd⟩
      | false =>
        cases hq : isAt s (blanks s i) 34 with
        | true => exact ⟨_, .one_text hq⟩
        | false =>
          by_cases hm : 0 ≤ markAt s i ⟨#[40]⟩
          · obtain ⟨h3, h4⟩ := mark_pos hm (by decide)
            obtain ⟨r, hr⟩ := far (.lev 0) _ h3 h4 (by simp [goodG])
            cases r with
            | err p c => exact ⟨_, .one_err hm hr⟩
            | ok U p =>
              by_cases hj : 0 ≤ markAt s p ⟨#[41]⟩
              · exact ⟨_, .one_in hm hr hj⟩
              · exact ⟨_, .one_form hm hr (by omega)⟩
          · by_cases ha : argsN (wordAt s i) = 0
            · exact ⟨_, .one_word hd hq (by omega) ha⟩
            · have hw : wordAt s i ≠ eS := fun e => by rw [e] at ha; exact ha (by decide)
              obtain ⟨h3, h4⟩ := word_pos h0 hw
              by_cases hj : 0 ≤ markAt s (wordAtEnd s i) ⟨#[40]⟩
              · obtain ⟨h5, h6⟩ := mark_pos hj (by decide)
                obtain ⟨r, hr⟩ := far (.call (wordAt s i) []) _ (by omega) h6 trivial
                exact ⟨_, .one_call (by omega) hj hr⟩
              · exact ⟨_, .one_open (by omega) (by omega)⟩
    | call w l =>
      obtain ⟨r, hr⟩ := near (.lev 0) (by simp [rank]) (by simp [goodG])
      cases r with
      | err p c => exact ⟨_, .call_err hr⟩
      | ok U p =>
        have hp := par_pos hr h0 h1
        by_cases hm : 0 ≤ markAt s p ⟨#[41]⟩
        · by_cases hl : l.length + 1 < argsN w
          · exact ⟨_, .call_few hr hm hl⟩
          · exact ⟨_, .call_end hr hm (by omega)⟩
        · by_cases hc : 0 ≤ markAt s p ⟨#[44]⟩
          · by_cases hl : l.length + 1 = argsN w
            · exact ⟨_, .call_many hr (by omega) hc hl⟩
            · obtain ⟨h5, h6⟩ := mark_pos hc (by decide)
              obtain ⟨r', hr'⟩ := far (.call w (l ++ [U])) _ (by omega) h6 trivial
              exact ⟨_, .call_on hr (by omega) hc hl hr'⟩
          · exact ⟨_, .call_form hr (by omega) (by omega)⟩
end Go.Proofs.YtdlkdecigpaaaaaGreatDoor
