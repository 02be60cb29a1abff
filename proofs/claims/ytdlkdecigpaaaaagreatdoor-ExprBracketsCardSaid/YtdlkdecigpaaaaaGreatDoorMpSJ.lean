/- Texts that are alike but for their blanks have the same expressions: plain words. -/
import Derived.Test.YtdlkdecigpaaaaaGreatDoorMpSI
namespace Go.Proofs.YtdlkdecigpaaaaaGreatDoor
set_option linter.unusedVariables false
set_option linter.unusedSimpArgs false
open Go.RowKit

/-- u has s's bytes, at f's places; runs of blanks may differ; behind it stands a blank, or a bracket. I: the places between tokens. -/
structure Ali (s u : ByteArray) (f : Int → Int) (I : Int → Prop) : Prop where
  lo : ∀ {i}, I i → 0 ≤ i ∧ i ≤ s.size
  fu : ∀ {i : Int}, 0 ≤ i → i ≤ s.size → 0 ≤ f i ∧ f i < u.size
  by_ : ∀ {j : Int}, 0 ≤ j → j < s.size → bt u (f j) = bt s j
  en : bt u (f s.size) = 41 ∨ bt u (f s.size) = 32
  bl : ∀ {i}, I i → blanks s i < s.size → blanks u (f i) = f (blanks s i) ∧ I (blanks s i)
  be : ∀ {i}, I i → blanks s i = s.size → blanks u (f i) = u.size ∨ bt u (blanks u (f i)) = 41
  nx : ∀ {j}, I j → j < s.size → isBlank s j = false → bt s j ≠ 34 → f (j + 1) = f j + 1 ∧ I (j + 1)
  qt : ∀ {j}, I j → isAt s j 34 = true → (strF s j).2.2 = 0 → (∀ k : Int, j ≤ k → k ≤ (strF s j).1.stop → f k = f j + (k - j)) ∧ I (strF s j).1.stop
theorem mark_iff2 {s : ByteArray} {i : Int} {c d : UInt8} (h0 : 0 ≤ i) : 0 ≤ markAt s i ⟨#[c, d]⟩ ↔ isAt s (blanks s i) c.toNat = true ∧ isAt s (blanks s i + 1) d.toNat = true := by
  have hb := blanks_ge s i
  have hsz : (⟨#[c, d]⟩ : ByteArray).size = 2 := rfl
  have key : blanks s i + 2 ≤ s.size → ((s.extract (blanks s i).toNat ((blanks s i).toNat + 2) = ⟨#[c, d]⟩) ↔ (bt s (blanks s i) = c.toNat ∧ bt s (blanks s i + 1) = d.toNat)) := by
    intro hle
    have hl : s.data.toList.length = s.size := by rw [Array.length_toList]; rfl
    have e : (s.extract (blanks s i).toNat ((blanks s i).toNat + 2)).data.toList = [s[(blanks s i).toNat], s[(blanks s i).toNat + 1]] := by
      rw [ext_list, Nat.add_sub_cancel_left, List.drop_eq_getElem_cons (by rw [hl]; omega), List.take_succ_cons, List.drop_eq_getElem_cons (by rw [hl]; omega)]
      simp only [List.take_succ_cons, List.take_zero]
      rfl
    have b1 := bt_nat s (blanks s i).toNat (by omega)
    have b2 := bt_nat s ((blanks s i).toNat + 1) (by omega)
    rw [show (((blanks s i).toNat : Nat) : Int) = blanks s i by omega] at b1
    rw [show ((((blanks s i).toNat + 1 : Nat)) : Int) = blanks s i + 1 by omega] at b2
    constructor
    · intro h
      rw [h] at e
      simp only [List.cons.injEq, and_true] at e
      rw [← b1, ← b2, ← e.1, ← e.2]
      exact ⟨rfl, rfl⟩
    · rintro ⟨h1, h2⟩
      apply bytes_ext
      rw [toList_data, toList_data, e]
      have e1 : s[(blanks s i).toNat] = c := UInt8.toNat_inj.1 (by omega)
      have e2 : s[(blanks s i).toNat + 1] = d := UInt8.toNat_inj.1 (by omega)
      rw [e1, e2]
  unfold markAt isAt
  rw [hsz]
  simp only [Bool.and_eq_true, decide_eq_true_eq, beq_iff_eq]
  constructor
  · intro h
    split at h
    · rename_i hc
      have hc1 : blanks s i + 2 ≤ s.size := by omega
      have := (key hc1).1 hc.2
      exact ⟨⟨by omega, this.1⟩, by omega, this.2⟩
    · omega
  · rintro ⟨⟨h1, h2⟩, h3, h4⟩
    rw [if_pos ⟨by omega, (key (by omega)).2 ⟨h2, h4⟩⟩]
    omega
theorem blank_no {s : ByteArray} {j : Int} (h : bt s j ≠ 32 ∧ bt s j ≠ 9 ∧ bt s j ≠ 10 ∧ bt s j ≠ 13) : isBlank s j = false := by
  obtain ⟨h1, h2, h3, h4⟩ := h
  unfold isBlank isAt
  simp [h1, h2, h3, h4]
theorem blanks_stop {s : ByteArray} {i : Int} (h0 : 0 ≤ i) : isBlank s (blanks s i) = false := upTo_end h0 fun _ h => isBlank_lt h
theorem goes_byte {s : ByteArray} {i : Int} (h : i < s.size) : goesAt s i = (letterB (bt s i) || (digitB (bt s i) || (bt s i == 95))) := by simp [goesAt, letterAt, digitAt, isAt, h]
theorem goes_no {s : ByteArray} {j : Int} (h : goesAt s j = true) : isBlank s j = false ∧ bt s j ≠ 34 := by
  have h2 := goesAt_lt h
  rw [goes_byte h2] at h
  simp only [letterB, digitB, Bool.or_eq_true, decide_eq_true_eq, beq_iff_eq] at h
  exact ⟨blank_no (by omega), by omega⟩
theorem goes_digit {s : ByteArray} {j : Int} (h : digitAt s j = true) : goesAt s j = true := by simp [goesAt, h]
theorem goes_letter {s : ByteArray} {j : Int} (h : letterAt s j = true) : goesAt s j = true := by simp [goesAt, h]
section
variable {s u : ByteArray} {f : Int → Int} {I : Int → Prop}
/-- A test of one byte, which no bracket meets, at what stands behind blanks. -/
theorem Ali.one (h : Ali s u f I) {i : Int} (hi : I i) {c : Int} (hc : c ≠ 41) : isAt u (blanks u (f i)) c = isAt s (blanks s i) c := by
  obtain ⟨h0, h1⟩ := h.lo hi
  have hb := blanks_le h0 h1
  have hb2 := blanks_ge s i
  by_cases hq : blanks s i < s.size
  · obtain ⟨e, _⟩ := h.bl hi hq
    obtain ⟨f0, f1⟩ := h.fu (i := blanks s i) (by omega) hb
    unfold isAt
    rw [e, h.by_ (by omega) hq, decide_eq_true f1, decide_eq_true hq]
  · have e1 : isAt s (blanks s i) c = false := by
      unfold isAt; rw [decide_eq_false hq]; rfl
    rw [e1]
    unfold isAt
    rcases h.be hi (by omega) with e | e
    · rw [e]; simp
    · rw [e]
      have : ((41 : Int) == c) = false := by rw [beq_eq_false_iff_ne]; exact fun e => hc e.symm
      rw [this, Bool.and_false]
/-- A test of one byte that holds. -/
theorem Ali.yes (h : Ali s u f I) {i : Int} (hi : I i) {c : Int} (hc : isAt s (blanks s i) c = true) : isAt u (blanks u (f i)) c = true ∧ blanks u (f i) = f (blanks s i) ∧ I (blanks s i) := by
  obtain ⟨h0, h1⟩ := h.lo hi
  have hb2 := blanks_ge s i
  have hq := isAt_lt hc
  obtain ⟨e, e2⟩ := h.bl hi hq
  obtain ⟨f0, f1⟩ := h.fu (i := blanks s i) (by omega) (Int.le_of_lt hq)
  refine ⟨?_, e, e2⟩
  unfold isAt at hc ⊢
  rw [e, h.by_ (by omega) hq, decide_eq_true f1]
  rw [decide_eq_true hq] at hc
  exact hc
/-- A test of a byte's class, at what stands behind blanks. -/
theorem Ali.cls (h : Ali s u f I) {i : Int} (hi : I i) {p : Int → Bool} (hp : p 41 = false) : (decide (blanks u (f i) < u.size) && p (bt u (blanks u (f i)))) = (decide (blanks s i < s.size) && p (bt s (blanks s i))) := by
  obtain ⟨h0, h1⟩ := h.lo hi
  have hb := blanks_le h0 h1
  have hb2 := blanks_ge s i
  by_cases hq : blanks s i < s.size
  · obtain ⟨e, _⟩ := h.bl hi hq
    obtain ⟨f0, f1⟩ := h.fu (i := blanks s i) (by omega) hb
    rw [e, h.by_ (by omega) hq, decide_eq_true f1, decide_eq_true hq]
  · rw [decide_eq_false hq, Bool.false_and]
    rcases h.be hi (by omega) with e | e
    · rw [e]; simp
    · rw [e, hp, Bool.and_false]
/-- A run of bytes with which a word goes on. -/
theorem Ali.run (h : Ali s u f I) {p : ByteArray → Int → Bool} (hpg : ∀ {s : ByteArray} {j : Int}, p s j = true → goesAt s j = true) (hpb : ∀ {s u : ByteArray} {j k : Int}, j < s.size → k < u.size → bt s j = bt u k → p s j = p u k) (hpe : ∀ {s : ByteArray} {j : Int}, bt s j = 41 ∨ bt s j = 32 → p s j = false) :
    ∀ (k : Nat) {q : Int}, (s.size - q).toNat = k → I q → q ≤ upTo (p s) s.size q ∧ upTo (p s) s.size q ≤ s.size ∧ I (upTo (p s) s.size q) ∧ (∀ j : Int, q ≤ j → j ≤ upTo (p s) s.size q → f j = f q + (j - q)) ∧ upTo (p u) u.size (f q) = f (upTo (p s) s.size q)
  | 0, q, hk, hi => by
    obtain ⟨h0, h1⟩ := h.lo hi
    obtain rfl : q = s.size := by omega
    have hs : p s (s.size : Int) = false := by
      cases hc : p s (s.size : Int) with
      | false => rfl
      | true => have := goesAt_lt (hpg hc); omega
    have e : upTo (p s) s.size (s.size : Int) = s.size := upTo_stop hs
    rw [e]
    refine ⟨Int.le_refl _, Int.le_refl _, hi, fun j a b => ?_, upTo_stop (hpe h.en)⟩
    rw [show j = (s.size : Int) by omega]; omega
  | k + 1, q, hk, hi => by
    obtain ⟨h0, h1⟩ := h.lo hi
    obtain ⟨f0, f1⟩ := h.fu h0 h1
    cases hc : p s q with
    | false =>
      have e : upTo (p s) s.size q = q := upTo_stop hc
      rw [e]
      refine ⟨Int.le_refl _, h1, hi, fun j a b => by rw [show j = q by omega]; omega, upTo_stop ?_⟩
      rw [← hpb (s := s) (j := q) (by omega) f1 (h.by_ h0 (by omega)).symm]; exact hc
    | true =>
      have hg := hpg hc
      have hl := goesAt_lt hg
      obtain ⟨g1, g2⟩ := goes_no hg
      obtain ⟨n1, n2⟩ := h.nx hi hl g1 g2
      obtain ⟨r1, r2, r3, r4, r5⟩ := h.run (p := p) hpg hpb hpe k (q := q + 1) (by omega) n2
      rw [upTo_step h0 hc hl]
      have hu : p u (f q) = true := by rw [← hpb (s := s) (j := q) hl f1 (h.by_ h0 hl).symm]; exact hc
      refine ⟨by omega, r2, r3, fun j a b => ?_, ?_⟩
      · by_cases e : j = q
        · subst e; omega
        · rw [r4 j (by omega) b, n1]; omega
      · rw [upTo_step f0 hu f1, ← n1]; exact r5
theorem Ali.like (h : Ali s u f I) {q e : Int} (h0 : 0 ≤ q) (he : e ≤ s.size) (hf : ∀ j : Int, q ≤ j → j ≤ e → f j = f q + (j - q)) : Like s u (f q - q) q e := fun j a b => by
  have := h.by_ (j := j) (by omega) (by omega)
  rw [hf j a (by omega)] at this
  rw [show j + (f q - q) = f q + (j - q) by omega]; exact this
theorem goes_pb {s u : ByteArray} {j k : Int} (h1 : j < s.size) (h2 : k < u.size) (e : bt s j = bt u k) : goesAt s j = goesAt u k := by rw [goes_byte h1, goes_byte h2, e]
theorem digit_pb {s u : ByteArray} {j k : Int} (h1 : j < s.size) (h2 : k < u.size) (e : bt s j = bt u k) : digitAt s j = digitAt u k := by unfold digitAt; rw [decide_eq_true h1, decide_eq_true h2, e]
theorem goes_pe {s : ByteArray} {j : Int} (h : bt s j = 41 ∨ bt s j = 32) : goesAt s j = false := by
  unfold goesAt letterAt digitAt isAt letterB digitB
  rcases h with h | h <;> rw [h] <;> simp
theorem digit_pe {s : ByteArray} {j : Int} (h : bt s j = 41 ∨ bt s j = 32) : digitAt s j = false := by
  unfold digitAt digitB
  rcases h with h | h <;> rw [h] <;> simp
theorem Ali.letter (h : Ali s u f I) {i : Int} (hi : I i) : letterAt u (blanks u (f i)) = letterAt s (blanks s i) := h.cls hi (p := letterB) (by decide)
theorem Ali.digit (h : Ali s u f I) {i : Int} (hi : I i) : digitAt u (blanks u (f i)) = digitAt s (blanks s i) := h.cls hi (p := digitB) (by decide)
theorem Ali.word (h : Ali s u f I) {i : Int} (hi : I i) : wordAt u (f i) = wordAt s i ∧ (wordAt s i ≠ eS → wordAtEnd u (f i) = f (wordAtEnd s i) ∧ I (wordAtEnd s i)) := by
  obtain ⟨h0, h1⟩ := h.lo hi
  have hb2 := blanks_ge s i
  have hL := h.letter hi
  unfold wordAt wordAtEnd
  rw [hL]
  cases hl : letterAt s (blanks s i) with
  | false => exact ⟨rfl, fun h => absurd rfl h⟩
  | true =>
    simp only [if_true]
    have hq := letterAt_lt hl
    obtain ⟨e1, e2⟩ := h.bl hi hq
    obtain ⟨r1, r2, r3, r4, r5⟩ := h.run (p := goesAt) (fun h => h) goes_pb goes_pe _ rfl e2
    have hf := h.fu (i := upTo (goesAt s) s.size (blanks s i)) (by omega) r2
    have hq0 := h.fu (i := blanks s i) (by omega) (by omega)
    have hlk := h.like (by omega) r2 r4
    have hc := cut_like hlk (by omega) r1 r2 (by rw [show upTo (goesAt s) s.size (blanks s i) + (f (blanks s i) - blanks s i) = f (blanks s i) + (upTo (goesAt s) s.size (blanks s i) - blanks s i) by omega, ← r4 _ r1 (Int.le_refl _)]; omega) (by omega)
    rw [show upTo (goesAt s) s.size (blanks s i) + (f (blanks s i) - blanks s i) = f (blanks s i) + (upTo (goesAt s) s.size (blanks s i) - blanks s i) by omega, ← r4 _ r1 (Int.le_refl _), show blanks s i + (f (blanks s i) - blanks s i) = f (blanks s i) by omega] at hc
    unfold wordEnd
    rw [e1, r5]
    exact ⟨hc, fun _ => ⟨rfl, r3⟩⟩
theorem Ali.mark1 (h : Ali s u f I) {i : Int} (hi : I i) {c : UInt8} (hc : c.toNat ≠ 32 ∧ c.toNat ≠ 9 ∧ c.toNat ≠ 10 ∧ c.toNat ≠ 13 ∧ c.toNat ≠ 34) (hm : 0 ≤ markAt s i ⟨#[c]⟩) : markAt u (f i) ⟨#[c]⟩ = f (markAt s i ⟨#[c]⟩) ∧ I (markAt s i ⟨#[c]⟩) := by
  obtain ⟨h0, h1⟩ := h.lo hi
  have hb2 := blanks_ge s i
  have f0 := (h.fu h0 h1).1
  have hq := (mark_iff1 h0).1 hm
  obtain ⟨y1, y2, y3⟩ := h.yes hi hq
  have hm2 := (mark_iff1 f0).2 y1
  rw [mark_val hm, mark_val hm2, y2]
  have hbt : bt s (blanks s i) = c.toNat := by unfold isAt at hq; rw [Bool.and_eq_true] at hq; simpa using hq.2
  obtain ⟨n1, n2⟩ := h.nx y3 (isAt_lt hq) (blank_no (by omega)) (by omega)
  have : ((⟨#[c]⟩ : ByteArray).size : Int) = 1 := rfl
  rw [this, n1]
  exact ⟨rfl, n2⟩
theorem Ali.mark2 (h : Ali s u f I) {i : Int} (hi : I i) {c : UInt8} (hc : c.toNat ≠ 32 ∧ c.toNat ≠ 9 ∧ c.toNat ≠ 10 ∧ c.toNat ≠ 13 ∧ c.toNat ≠ 34 ∧ c.toNat ≠ 41) :
    (0 ≤ markAt s i ⟨#[c, 61]⟩ → markAt u (f i) ⟨#[c, 61]⟩ = f (markAt s i ⟨#[c, 61]⟩) ∧ I (markAt s i ⟨#[c, 61]⟩)) ∧ (markAt s i ⟨#[c, 61]⟩ < 0 → markAt u (f i) ⟨#[c, 61]⟩ < 0) := by
  obtain ⟨h0, h1⟩ := h.lo hi
  have hb2 := blanks_ge s i
  have f0 := (h.fu h0 h1).1
  have h61 : (61 : UInt8).toNat = 61 := rfl
  have nxt : isAt s (blanks s i) c.toNat = true → f (blanks s i + 1) = f (blanks s i) + 1 ∧ I (blanks s i + 1) ∧ blanks u (f i) = f (blanks s i) ∧ isAt u (blanks u (f i)) c.toNat = true := by
    intro hq
    obtain ⟨y1, y2, y3⟩ := h.yes hi hq
    have hbt : bt s (blanks s i) = c.toNat := by unfold isAt at hq; rw [Bool.and_eq_true] at hq; simpa using hq.2
    obtain ⟨n1, n2⟩ := h.nx y3 (isAt_lt hq) (blank_no (by omega)) (by omega)
    exact ⟨n1, n2, y2, y1⟩
  constructor
  · intro hm
    obtain ⟨q1, q2⟩ := (mark_iff2 h0).1 hm
    obtain ⟨n1, n2, y2, y1⟩ := nxt q1
    have hbt : bt s (blanks s i + 1) = 61 := by unfold isAt at q2; rw [Bool.and_eq_true] at q2; simpa using q2.2
    have hl2 := isAt_lt q2
    obtain ⟨k1, k2⟩ := h.nx n2 hl2 (blank_no (by omega)) (by omega)
    have g1 := h.fu (i := blanks s i + 1) (by omega) (by omega)
    have u2 : isAt u (blanks u (f i) + 1) (61 : UInt8).toNat = true := by
      rw [y2, ← n1]
      unfold isAt
      rw [decide_eq_true g1.2, h.by_ (by omega) hl2, hbt]
      rfl
    have hm2 := (mark_iff2 (d := 61) f0).2 ⟨y1, u2⟩
    rw [mark_val hm, mark_val hm2, y2]
    have e : ((⟨#[c, 61]⟩ : ByteArray).size : Int) = 2 := rfl
    rw [e, show blanks s i + 2 = blanks s i + 1 + 1 by omega, k1, n1]
    exact ⟨by omega, k2⟩
  · intro hm
    refine Int.not_le.1 fun hc2 => ?_
    obtain ⟨u1, u2⟩ := (mark_iff2 f0).1 hc2
    rw [h.one hi (by omega)] at u1
    obtain ⟨n1, n2, y2, _⟩ := nxt u1
    have hl := isAt_lt u1
    have ub : bt u (f (blanks s i + 1)) = 61 := by
      rw [y2, ← n1] at u2
      unfold isAt at u2; rw [Bool.and_eq_true] at u2; simpa using u2.2
    by_cases hlt : blanks s i + 1 < s.size
    · rw [h.by_ (by omega) hlt] at ub
      have : 0 ≤ markAt s i ⟨#[c, 61]⟩ := (mark_iff2 h0).2 ⟨u1, by unfold isAt; rw [decide_eq_true hlt, ub]; rfl⟩
      omega
    · rw [show blanks s i + 1 = (s.size : Int) by omega] at ub
      rcases h.en with e | e <;> omega
theorem Ali.num (h : Ali s u f I) {i : Int} (hi : I i) {T : XT} {p : Int} (hd : digitAt s (blanks s i) = true) (hr : numR s (blanks s i) = .ok T p) : numR u (blanks u (f i)) = .ok T (f p) ∧ I p := by
  obtain ⟨h0, h1⟩ := h.lo hi
  have hb2 := blanks_ge s i
  have hq := digitAt_lt hd
  obtain ⟨e1, e2⟩ := h.bl hi hq
  have q0 : 0 ≤ blanks s i := by omega
  rw [e1]
  generalize blanks s i = q at *
  obtain ⟨r1, r2, r3, r4, r5⟩ := h.run (p := digitAt) goes_digit digit_pb digit_pe _ rfl e2
  have hf := h.fu (i := upTo (digitAt s) s.size q) (by omega) r2
  have hq0 := h.fu (i := q) q0 (by omega)
  have hlk := h.like q0 r2 r4
  have ee : upTo (digitAt s) s.size q + (f q - q) = f (upTo (digitAt s) s.size q) := by rw [r4 _ r1 (Int.le_refl _)]; omega
  have hc := cut_like hlk q0 r1 r2 (by rw [ee]; omega) (by omega)
  rw [ee, show q + (f q - q) = f q by omega] at hc
  have hge := r4 _ r1 (Int.le_refl _)
  have hb := h.by_ q0 hq
  have hp := digits_pos q0 hd
  unfold numR digitsEnd at hr ⊢
  unfold digitsEnd at hp
  rw [r5, hb, hc]
  by_cases c1 : bt s q = 48 ∧ q + 1 < upTo (digitAt s) s.size q
  · rw [if_pos c1] at hr; cases hr
  · rw [if_neg c1] at hr
    rw [if_neg (by omega)]
    by_cases c2 : parseCode (cutS s q (upTo (digitAt s) s.size q)) ≠ 0
    · rw [if_pos c2] at hr; cases hr
    · rw [if_neg c2] at hr ⊢
      by_cases c3 : goesAt s (upTo (digitAt s) s.size q) = true
      · rw [if_pos c3] at hr; cases hr
      · rw [if_neg c3] at hr
        cases hr
        have c4 : ¬ goesAt u (f (upTo (digitAt s) s.size q)) = true := by
          by_cases hlt : upTo (digitAt s) s.size q < s.size
          · rw [← goes_pb (s := s) hlt hf.2 (h.by_ (by omega) hlt).symm]; exact c3
          · rw [show upTo (digitAt s) s.size q = (s.size : Int) by omega, goes_pe h.en]; exact Bool.false_ne_true
        rw [if_neg c4]
        exact ⟨rfl, r3⟩
theorem Ali.text (h : Ali s u f I) {i : Int} (hi : I i) (hq : isAt s (blanks s i) 34 = true) (hc : (strF s (blanks s i)).2.2 = 0) : (strF u (blanks u (f i))).2.2 = 0 ∧ (strF u (blanks u (f i))).1.text = (strF s (blanks s i)).1.text ∧ (strF u (blanks u (f i))).1.stop = f (strF s (blanks s i)).1.stop ∧ I (strF s (blanks s i)).1.stop := by
  obtain ⟨h0, h1⟩ := h.lo hi
  have hb2 := blanks_ge s i
  obtain ⟨y1, y2, y3⟩ := h.yes hi hq
  obtain ⟨t1, t2⟩ := h.qt y3 hq hc
  have hp := str_pos (by omega) hc
  have hf := h.fu (i := (strF s (blanks s i)).1.stop) (by omega) hp.2
  have hq0 := h.fu (i := blanks s i) (by omega) (by omega)
  have hlk := h.like (by omega) hp.2 t1
  have ee : (strF s (blanks s i)).1.stop + (f (blanks s i) - blanks s i) = f (strF s (blanks s i)).1.stop := by rw [t1 _ (by omega) (Int.le_refl _)]; omega
  obtain ⟨a1, a2, a3⟩ := strF_like (u := u) (by omega) (by omega) hc hlk (by rw [ee]; omega)
  rw [ee] at a3
  rw [show blanks s i + (f (blanks s i) - blanks s i) = f (blanks s i) by omega, ← y2] at a1 a2 a3
  exact ⟨a1, a2, a3, t2⟩
theorem Ali.sim (h : Ali s u f I) : Sim s u f I where
  lo := fun hi => ⟨(h.lo hi).1, (h.lo hi).2, (h.fu (h.lo hi).1 (h.lo hi).2).1⟩
  mk_ := fun {i t} hi ht hm => by
    simp only [marksA, List.mem_cons, List.not_mem_nil, or_false] at ht
    rcases ht with rfl | rfl | rfl | rfl | rfl | rfl | rfl | rfl | rfl | rfl | rfl | rfl | rfl | rfl | rfl | rfl | rfl
    · exact h.mark1 hi (by decide) hm
    · exact h.mark1 hi (by decide) hm
    · exact h.mark1 hi (by decide) hm
    · exact h.mark1 hi (by decide) hm
    · exact h.mark1 hi (by decide) hm
    · exact h.mark1 hi (by decide) hm
    · exact h.mark1 hi (by decide) hm
    · exact (h.mark2 hi (by decide)).1 hm
    · exact (h.mark2 hi (by decide)).1 hm
    · exact (h.mark2 hi (by decide)).1 hm
    · exact (h.mark2 hi (by decide)).1 hm
    · exact h.mark1 hi (by decide) hm
    · exact h.mark1 hi (by decide) hm
    · exact h.mark1 hi (by decide) hm
    · exact h.mark1 hi (by decide) hm
    · exact h.mark1 hi (by decide) hm
    · exact h.mark1 hi (by decide) hm
  mn := fun {i t} hi ht hn hm => by
    obtain ⟨h0, h1⟩ := h.lo hi
    have f0 := (h.fu h0 h1).1
    have one : ∀ c : UInt8, (c.toNat : Int) ≠ 41 → markAt s i ⟨#[c]⟩ < 0 → markAt u (f i) ⟨#[c]⟩ < 0 := fun c hc hm => Int.not_le.1 fun q => by
      have q1 := (mark_iff1 f0).1 q
      rw [h.one hi hc] at q1
      have := (mark_iff1 h0).2 q1
      omega
    simp only [marksA, List.mem_cons, List.not_mem_nil, or_false] at ht
    rcases ht with rfl | rfl | rfl | rfl | rfl | rfl | rfl | rfl | rfl | rfl | rfl | rfl | rfl | rfl | rfl | rfl | rfl
    · exact one _ (by decide) hm
    · exact one _ (by decide) hm
    · exact one _ (by decide) hm
    · exact one _ (by decide) hm
    · exact one _ (by decide) hm
    · exact absurd rfl hn
    · exact one _ (by decide) hm
    · exact (h.mark2 hi (by decide)).2 hm
    · exact (h.mark2 hi (by decide)).2 hm
    · exact (h.mark2 hi (by decide)).2 hm
    · exact (h.mark2 hi (by decide)).2 hm
    · exact one _ (by decide) hm
    · exact one _ (by decide) hm
    · exact one _ (by decide) hm
    · exact one _ (by decide) hm
    · exact one _ (by decide) hm
    · exact one _ (by decide) hm
  wd := fun hi => (h.word hi).1
  we := fun hi hw => (h.word hi).2 hw
  dg := fun hi => h.digit hi
  qt := fun hi => h.one hi (by decide)
  nm := fun hi hd hr => h.num hi hd hr
  tx := fun hi hq hc => h.text hi hq hc
end
end Go.Proofs.YtdlkdecigpaaaaaGreatDoor
