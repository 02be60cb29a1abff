/- A text that is read as another one: plain words. -/
import Derived.Test.YtdlkdecigpaaaaaGreatDoorMp25
import Derived.Test.YtdlkdecigpaaaaaGreatDoorMp8
import Derived.Test.YtdlkdecigpaaaaaGreatDoorMp26
namespace Go.Proofs.YtdlkdecigpaaaaaGreatDoor
set_option linter.unusedVariables false
set_option linter.unusedSimpArgs false
open Go.RowKit

theorem bt_left {a b : ByteArray} {j : Nat} (h : j < a.size) : bt (a ++ b) (j : Int) = bt a j := by
  have h2 : j < (a ++ b).size := by rw [ByteArray.size_append]; omega
  rw [← bt_nat (a ++ b) j h2, ← bt_nat a j h, ByteArray.getElem_append_left h]
theorem bt_right {a b : ByteArray} {j : Nat} (h : j < b.size) : bt (a ++ b) ((a.size + j : Nat) : Int) = bt b j := by
  have h2 : a.size + j < (a ++ b).size := by rw [ByteArray.size_append]; omega
  rw [← bt_nat (a ++ b) (a.size + j) h2, ← bt_nat b j h, ByteArray.getElem_append_right (by omega)]
  congr 3; omega
theorem first_ok {s : ByteArray} {i : Int} (h : (first s i).2 ≠ 0) : ∃ k : Nat, 1 ≤ k ∧ k ≤ 4 ∧ first s i = (cand s i k, (k : Int)) ∧ okAt s i k = true ∧ ∀ j, 1 ≤ j → j < k → okAt s i j = false := by
  unfold first at h ⊢
  by_cases c1 : okAt s i 1 = true
  · exact ⟨1, by omega, by omega, by rw [if_pos c1]; rfl, c1, fun j a b => by omega⟩
  · rw [if_neg c1] at h ⊢
    by_cases c2 : okAt s i 2 = true
    · exact ⟨2, by omega, by omega, by rw [if_pos c2]; rfl, c2, fun j a b => (show j = 1 by omega) ▸ (by simpa using c1)⟩
    · rw [if_neg c2] at h ⊢
      by_cases c3 : okAt s i 3 = true
      · refine ⟨3, by omega, by omega, by rw [if_pos c3]; rfl, c3, fun j a b => ?_⟩
        have : j = 1 ∨ j = 2 := by omega
        rcases this with rfl | rfl
        · simpa using c1
        · simpa using c2
      · rw [if_neg c3] at h ⊢
        by_cases c4 : okAt s i 4 = true
        · refine ⟨4, by omega, by omega, by rw [if_pos c4]; rfl, c4, fun j a b => ?_⟩
          have : j = 1 ∨ j = 2 ∨ j = 3 := by omega
          rcases this with rfl | rfl | rfl
          · simpa using c1
          · simpa using c2
          · simpa using c3
        · rw [if_neg c4] at h; simp at h
theorem ok_shift {s u : ByteArray} {i d : Int} {k : Nat} (h0 : 0 ≤ i) (hk1 : 1 ≤ k) (hk : k ≤ 4) (hi : i + k ≤ s.size) (hu : i + d + k ≤ u.size) (hb : ∀ j : Nat, j < k → bt u (i + d + j) = bt s (i + j)) : okAt u (i + d) k = okAt s i k ∧ cand u (i + d) k = cand s i k := by
  have b0 := hb 0 (by omega)
  simp only [Int.natCast_zero, Int.add_zero] at b0
  have h4 : k = 1 ∨ k = 2 ∨ k = 3 ∨ k = 4 := by omega
  rcases h4 with rfl | rfl | rfl | rfl
  · rw [ok1, ok1, cand1, cand1, b0]
    have e1 : (i + d + 1 ≤ u.size) = (i + 1 ≤ s.size) := propext (by constructor <;> intro <;> omega)
    simp only [e1]; exact ⟨trivial, trivial⟩
  · have b1 := hb 1 (by omega)
    simp only [Int.natCast_one] at b1
    rw [ok2, ok2, cand2, cand2, b0, b1]
    have e1 : (i + d + 2 ≤ u.size) = (i + 2 ≤ s.size) := propext (by constructor <;> intro <;> omega)
    simp only [e1]; exact ⟨trivial, trivial⟩
  · have b1 := hb 1 (by omega)
    have b2 := hb 2 (by omega)
    simp only [Int.natCast_one, show ((2 : Nat) : Int) = 2 from rfl] at b1 b2
    rw [ok3, ok3, cand3, cand3, b0, b1, b2]
    have e1 : (i + d + 3 ≤ u.size) = (i + 3 ≤ s.size) := propext (by constructor <;> intro <;> omega)
    simp only [e1]; exact ⟨trivial, trivial⟩
  · have b1 := hb 1 (by omega)
    have b2 := hb 2 (by omega)
    have b3 := hb 3 (by omega)
    simp only [Int.natCast_one, show ((2 : Nat) : Int) = 2 from rfl, show ((3 : Nat) : Int) = 3 from rfl] at b1 b2 b3
    rw [ok4, ok4, cand4, cand4, b0, b1, b2, b3]
    have e1 : (i + d + 4 ≤ u.size) = (i + 4 ≤ s.size) := propext (by constructor <;> intro <;> omega)
    simp only [e1]; exact ⟨trivial, trivial⟩
theorem blanks_at {s : ByteArray} {i : Int} (h : isBlank s i = false) : blanks s i = i := upTo_stop h
theorem blank_end {s : ByteArray} {i : Int} (h : (s.size : Int) ≤ i) : isBlank s i = false := by
  cases hb : isBlank s i with
  | false => rfl
  | true => have := isBlank_lt hb; omega
/-- All signs. -/
def marksA : List ByteArray := [⟨#[45]⟩, ⟨#[46]⟩, ⟨#[91]⟩, ⟨#[93]⟩, ⟨#[40]⟩, ⟨#[41]⟩, ⟨#[44]⟩, ⟨#[61, 61]⟩, ⟨#[33, 61]⟩, ⟨#[60, 61]⟩, ⟨#[62, 61]⟩, ⟨#[60]⟩, ⟨#[62]⟩, ⟨#[43]⟩, ⟨#[42]⟩, ⟨#[47]⟩, ⟨#[37]⟩]
/-- Text u is read from f i on as text s is from i on, at the places i of I. -/
structure Sim (s u : ByteArray) (f : Int → Int) (I : Int → Prop) : Prop where
  lo : ∀ {i}, I i → 0 ≤ i ∧ i ≤ s.size ∧ 0 ≤ f i
  mk_ : ∀ {i t}, I i → t ∈ marksA → 0 ≤ markAt s i t → markAt u (f i) t = f (markAt s i t) ∧ I (markAt s i t)
  mn : ∀ {i t}, I i → t ∈ marksA → t ≠ ⟨#[41]⟩ → markAt s i t < 0 → markAt u (f i) t < 0
  wd : ∀ {i}, I i → wordAt u (f i) = wordAt s i
  we : ∀ {i}, I i → wordAt s i ≠ eS → wordAtEnd u (f i) = f (wordAtEnd s i) ∧ I (wordAtEnd s i)
  dg : ∀ {i}, I i → digitAt u (blanks u (f i)) = digitAt s (blanks s i)
  qt : ∀ {i}, I i → isAt u (blanks u (f i)) 34 = isAt s (blanks s i) 34
  nm : ∀ {i T p}, I i → digitAt s (blanks s i) = true → numR s (blanks s i) = .ok T p → numR u (blanks u (f i)) = .ok T (f p) ∧ I p
  tx : ∀ {i}, I i → isAt s (blanks s i) 34 = true → (strF s (blanks s i)).2.2 = 0 → (strF u (blanks u (f i))).2.2 = 0 ∧ (strF u (blanks u (f i))).1.text = (strF s (blanks s i)).1.text ∧ (strF u (blanks u (f i))).1.stop = f (strF s (blanks s i)).1.stop ∧ I (strF s (blanks s i)).1.stop
theorem mark_iff1 {s : ByteArray} {i : Int} {c : UInt8} (h0 : 0 ≤ i) : 0 ≤ markAt s i ⟨#[c]⟩ ↔ isAt s (blanks s i) c.toNat = true := by
  have hb := blanks_ge s i
  have hsz : (⟨#[c]⟩ : ByteArray).size = 1 := rfl
  unfold markAt
  constructor
  · intro h
    split at h
    · rename_i hc
      rw [hsz] at hc
      have h1 : (blanks s i).toNat < s.size := by omega
      have h2 : bt (s.extract (blanks s i).toNat ((blanks s i).toNat + 1)) 0 = bt ⟨#[c]⟩ 0 := by rw [hc.2]
      unfold isAt
      rw [decide_eq_true (by omega), Bool.true_and, beq_iff_eq]
      have h3 : bt (⟨#[c]⟩ : ByteArray) 0 = c.toNat := rfl
      rw [← h3, ← h2]
      unfold bt
      have hs2 : (s.extract (blanks s i).toNat ((blanks s i).toNat + 1)).size = 1 := by rw [ByteArray.size_extract]; omega
      rw [dif_pos h1, dif_pos (by rw [hs2]; decide)]
      rw [ByteArray.getElem_extract]
      simp
    · omega
  · intro h
    have h1 := isAt_lt h
    have h2 : bt s (blanks s i) = c.toNat := by unfold isAt at h; rw [Bool.and_eq_true] at h; simpa using h.2
    have hlt : (blanks s i).toNat < s.size := by omega
    rw [if_pos]
    · omega
    · refine ⟨by rw [hsz]; omega, ?_⟩
      rw [hsz]
      apply bytes_ext
      rw [toList_data, toList_data, ext_list]
      have hl : s.data.toList.length = s.size := by rw [Array.length_toList]; rfl
      rw [Nat.add_sub_cancel_left, List.drop_eq_getElem_cons (by rw [hl]; exact hlt)]
      simp only [List.take_succ_cons, List.take_zero, List.cons.injEq, and_true]
      have h3 := bt_at s (blanks s i) hlt
      rw [h2] at h3
      have h4 : s[(blanks s i).toNat].toNat = c.toNat := by omega
      have h5 : s[(blanks s i).toNat] = c := UInt8.toNat_inj.1 h4
      rw [← h5]
      rfl
section
variable {s u : ByteArray} {f : Int → Int} {I : Int → Prop}
theorem Sim.first (h : Sim s u f I) {i : Int} (hi : I i) : ∀ (l : List ByteArray), (∀ t ∈ l, t ∈ marksA ∧ t ≠ ⟨#[41]⟩) →
    (firstMark s i l = none → firstMark u (f i) l = none) ∧ (∀ op e, firstMark s i l = some (op, e) → firstMark u (f i) l = some (op, f e) ∧ I e)
  | [], _ => ⟨fun _ => rfl, fun _ _ h => by cases h⟩
  | t :: l, hl => by
    obtain ⟨h1, h2⟩ := h.first hi l (fun v hv => hl v (.tail _ hv))
    obtain ⟨m1, m2⟩ := hl t (.head _)
    unfold firstMark
    by_cases hm : 0 ≤ markAt s i t
    · obtain ⟨k1, k3⟩ := h.mk_ hi m1 hm
      have k2 := (h.lo k3).2.2
      rw [if_pos hm, if_pos (by rw [k1]; exact k2), k1]
      refine ⟨fun h => (by cases h), fun op e h => ?_⟩
      cases h
      exact ⟨rfl, k3⟩
    · have := h.mn hi m1 m2 (by omega)
      rw [if_neg hm, if_neg (by omega)]
      exact ⟨h1, h2⟩
theorem signs_in {n : Nat} (hn : n ≠ 0) (h1 : n ≠ 1) : ∀ t ∈ signsL n, t ∈ marksA ∧ t ≠ ⟨#[41]⟩ := by
  match n, hn, h1 with
  | 2, _, _ => intro t h; simp [signsL] at h
  | 3, _, _ => intro t h; simp only [signsL, List.mem_cons, List.not_mem_nil, or_false] at h; rcases h with rfl | rfl | rfl | rfl | rfl | rfl <;> exact ⟨by simp [marksA], by decide⟩
  | 4, _, _ => intro t h; simp only [signsL, List.mem_cons, List.not_mem_nil, or_false] at h; rcases h with rfl | rfl <;> exact ⟨by simp [marksA], by decide⟩
  | 5, _, _ => intro t h; simp only [signsL, List.mem_cons, List.not_mem_nil, or_false] at h; rcases h with rfl | rfl | rfl <;> exact ⟨by simp [marksA], by decide⟩
  | n + 6, _, _ => intro t h; simp [signsL] at h
theorem Sim.btw (h : Sim s u f I) {i : Int} (hi : I i) (n : Nat) : (betw s i n = none → betw u (f i) n = none) ∧ (∀ op e, betw s i n = some (op, e) → betw u (f i) n = some (op, f e) ∧ I e) := by
  unfold betw
  rw [h.wd hi]
  by_cases h0 : n = 0
  · rw [if_pos h0, if_pos h0]
    by_cases hw : wordAt s i = orS
    · rw [if_pos hw, if_pos hw]
      obtain ⟨e1, e2⟩ := h.we hi (by rw [hw]; decide)
      refine ⟨fun h => (by cases h), fun op e h => ?_⟩; cases h; rw [e1]; exact ⟨rfl, e2⟩
    · rw [if_neg hw, if_neg hw]
      exact ⟨fun _ => rfl, fun op e h => by cases h⟩
  · rw [if_neg h0, if_neg h0]
    by_cases h1 : n = 1
    · rw [if_pos h1, if_pos h1]
      by_cases hw : wordAt s i = andS
      · rw [if_pos hw, if_pos hw]
        obtain ⟨e1, e2⟩ := h.we hi (by rw [hw]; decide)
        refine ⟨fun h => (by cases h), fun op e h => ?_⟩; cases h; rw [e1]; exact ⟨rfl, e2⟩
      · rw [if_neg hw, if_neg hw]
        exact ⟨fun _ => rfl, fun op e h => by cases h⟩
    · rw [if_neg h1, if_neg h1]
      exact h.first hi _ (signs_in h0 h1)
theorem Sim.wordR (h : Sim s u f I) {i : Int} (hi : I i) {T : XT} {p : Int} (hr : wordR s i = .ok T p) : wordR u (f i) = .ok T (f p) ∧ I p := by
  have key : wordAt s i ≠ eS → wordAtEnd u (f i) = f (wordAtEnd s i) ∧ I (wordAtEnd s i) := h.we hi
  unfold Go.Proofs.YtdlkdecigpaaaaaGreatDoor.wordR at hr ⊢
  rw [h.wd hi]
  by_cases c1 : wordAt s i = trueS
  · rw [if_pos c1] at hr ⊢; cases hr; obtain ⟨e1, e2⟩ := key (by rw [c1]; decide); rw [e1]; exact ⟨rfl, e2⟩
  · rw [if_neg c1] at hr ⊢
    by_cases c2 : wordAt s i = falseS
    · rw [if_pos c2] at hr ⊢; cases hr; obtain ⟨e1, e2⟩ := key (by rw [c2]; decide); rw [e1]; exact ⟨rfl, e2⟩
    · rw [if_neg c2] at hr ⊢
      by_cases c3 : wordAt s i = nullS
      · rw [if_pos c3] at hr ⊢; cases hr; obtain ⟨e1, e2⟩ := key (by rw [c3]; decide); rw [e1]; exact ⟨rfl, e2⟩
      · rw [if_neg c3] at hr ⊢
        by_cases c4 : wordAt s i = thisS
        · rw [if_pos c4] at hr ⊢; cases hr; obtain ⟨e1, e2⟩ := key (by rw [c4]; decide); rw [e1]; exact ⟨rfl, e2⟩
        · rw [if_neg c4] at hr ⊢
          by_cases c5 : wordAt s i = eS ∨ memL (wordAt s i) resL = true
          · rw [if_pos c5] at hr; cases hr
          · rw [if_neg c5] at hr ⊢; cases hr; obtain ⟨e1, e2⟩ := key (fun e => c5 (.inl e)); rw [e1]; exact ⟨rfl, e2⟩
theorem arg_word {w : ByteArray} (h : 0 < argsN w) : w ≠ eS := by
  rintro rfl
  exact absurd h (by decide)
/-- What a text's answer is, where there is a tree, is the other one's. -/
theorem par_sim (h : Sim s u f I) {g : G} {i : Int} {r : Res} (hp : Par s g i r) : I i → ∀ T p, r = .ok T p → Par u g (f i) (.ok T (f p)) ∧ I p := by
  have mk := fun {i : Int} (t : ByteArray) (ht : t ∈ marksA) (hi : I i) (hm : 0 ≤ markAt s i t) => show 0 ≤ markAt u (f i) t ∧ markAt u (f i) t = f (markAt s i t) ∧ I (markAt s i t) from by
    obtain ⟨a, b⟩ := h.mk_ hi ht hm
    exact ⟨by rw [a]; exact (h.lo b).2.2, a, b⟩
  induction hp with
  | lev_err _ _ _ => intro _ _ _ e; cases e
  | lev_ok hl _ _ ih1 ih2 =>
    intro hi T p e
    obtain ⟨a1, a2⟩ := ih1 hi _ _ rfl
    obtain ⟨b1, b2⟩ := ih2 a2 _ _ e
    exact ⟨.lev_ok hl a1 b1, b2⟩
  | @not_on i r hw _ ih =>
    intro hi T p e
    cases r with
    | err p c => simp [Res.up] at e
    | ok U q =>
      simp only [Res.up, Res.ok.injEq] at e
      obtain ⟨rfl, rfl⟩ := e
      obtain ⟨e1, e2⟩ := h.we hi (by rw [hw]; decide)
      obtain ⟨a1, a2⟩ := ih e2 _ _ rfl
      exact ⟨.not_on (r := .ok U (f q)) (by rw [h.wd hi, hw]) (by rw [e1]; exact a1), a2⟩
  | not_no hw _ ih =>
    intro hi T p e
    obtain ⟨a1, a2⟩ := ih hi _ _ e
    exact ⟨.not_no (by rw [h.wd hi]; exact hw) a1, a2⟩
  | @neg_on i r hm _ ih =>
    intro hi T p e
    cases r with
    | err p c => simp [Res.up] at e
    | ok U q =>
      simp only [Res.up, Res.ok.injEq] at e
      obtain ⟨rfl, rfl⟩ := e
      obtain ⟨e0, e1, e2⟩ := mk _ (by simp [marksA]) hi hm
      obtain ⟨a1, a2⟩ := ih e2 _ _ rfl
      exact ⟨.neg_on (r := .ok U (f q)) e0 (by rw [e1]; exact a1), a2⟩
  | neg_no hm _ ih =>
    intro hi T p e
    obtain ⟨a1, a2⟩ := ih hi _ _ e
    exact ⟨.neg_no (h.mn hi (by simp [marksA]) (by decide) hm) a1, a2⟩
  | @more_end n T i hb =>
    intro hi T p e
    cases e
    exact ⟨.more_end ((h.btw hi n).1 hb), hi⟩
  | more_err _ _ _ => intro _ _ _ e; cases e
  | @more_one T i op e U p hb _ ih =>
    intro hi T p e
    cases e
    obtain ⟨e1, e2⟩ := (h.btw hi 3).2 _ _ hb
    obtain ⟨a1, a2⟩ := ih e2 _ _ rfl
    exact ⟨.more_one e1 a1, a2⟩
  | @more_on n T i op e U p r hn hb _ _ ih1 ih2 =>
    intro hi T p e
    obtain ⟨e1, e2⟩ := (h.btw hi n).2 _ _ hb
    obtain ⟨a1, a2⟩ := ih1 e2 _ _ rfl
    obtain ⟨b1, b2⟩ := ih2 a2 _ _ e
    exact ⟨.more_on hn e1 a1 b1, b2⟩
  | part_err _ _ => intro _ _ _ e; cases e
  | part_ok _ _ ih1 ih2 =>
    intro hi T p e
    obtain ⟨a1, a2⟩ := ih1 hi _ _ rfl
    obtain ⟨b1, b2⟩ := ih2 a2 _ _ e
    exact ⟨.part_ok a1 b1, b2⟩
  | parts_end h1 h2 =>
    intro hi T p e
    cases e
    exact ⟨.parts_end (h.mn hi (by simp [marksA]) (by decide) h1) (h.mn hi (by simp [marksA]) (by decide) h2), hi⟩
  | get_word hm hw _ ih =>
    intro hi T p e
    obtain ⟨e0, e1, e2⟩ := mk _ (by simp [marksA]) hi hm
    obtain ⟨w1, w2⟩ := h.we e2 hw
    obtain ⟨a1, a2⟩ := ih w2 _ _ e
    have hw2 := h.wd e2
    exact ⟨.get_word e0 (by rw [e1, hw2]; exact hw) (by rw [e1, hw2, w1]; exact a1), a2⟩
  | get_form _ _ _ => intro _ _ _ e; cases e
  | get_err _ _ _ _ _ => intro _ _ _ e; cases e
  | get_text hm hw hq hqt hc _ ih =>
    intro hi T p e
    subst hq
    obtain ⟨e0, e1, e2⟩ := mk _ (by simp [marksA]) hi hm
    obtain ⟨t1, t2, t3, t4⟩ := h.tx e2 hqt hc
    obtain ⟨a1, a2⟩ := ih t4 _ _ e
    have hw2 := h.wd e2
    refine ⟨.get_text e0 (by rw [e1, hw2]; exact hw) rfl (by rw [e1, h.qt e2]; exact hqt) (by rw [e1]; exact t1) (by rw [e1, t2, t3]; exact a1), a2⟩
  | at_err _ _ _ _ => intro _ _ _ e; cases e
  | at_form _ _ _ _ _ => intro _ _ _ e; cases e
  | at_on h1 h2 _ h3 _ ih1 ih2 =>
    intro hi T p e
    obtain ⟨e0, e1, e2⟩ := mk _ (by simp [marksA]) hi h2
    obtain ⟨a1, a2⟩ := ih1 e2 _ _ rfl
    obtain ⟨c0, c1, c2⟩ := mk _ (by simp [marksA]) a2 h3
    obtain ⟨b1, b2⟩ := ih2 c2 _ _ e
    exact ⟨.at_on (h.mn hi (by simp [marksA]) (by decide) h1) e0 (by rw [e1]; exact a1) c0 (by rw [c1]; exact b1), b2⟩
  | one_num hd =>
    intro hi T p e
    obtain ⟨a1, a2⟩ := h.nm hi hd e
    exact ⟨a1 ▸ .one_num (by rw [h.dg hi]; exact hd), a2⟩
  | @one_text i hq =>
    intro hi T p e
    unfold textR at e
    split at e
    · rename_i hc
      cases e
      obtain ⟨t1, t2, t3, t4⟩ := h.tx hi hq hc
      have := Par.one_text (s := u) (i := f i) (by rw [h.qt hi]; exact hq)
      unfold textR at this
      rw [if_pos t1, t2, t3] at this
      exact ⟨this, t4⟩
    · cases e
  | one_err _ _ _ => intro _ _ _ e; cases e
  | one_form _ _ _ _ => intro _ _ _ e; cases e
  | one_in hm _ hc ih =>
    intro hi T p e
    cases e
    obtain ⟨e0, e1, e2⟩ := mk _ (by simp [marksA]) hi hm
    obtain ⟨a1, a2⟩ := ih e2 _ _ rfl
    obtain ⟨c0, c1, c2⟩ := mk _ (by simp [marksA]) a2 hc
    exact ⟨c1 ▸ .one_in e0 (by rw [e1]; exact a1) c0, c2⟩
  | one_word h1 h2 h3 h4 =>
    intro hi T p e
    obtain ⟨a1, a2⟩ := h.wordR hi e
    exact ⟨a1 ▸ .one_word (by rw [h.dg hi]; exact h1) (by rw [h.qt hi]; exact h2) (h.mn hi (by simp [marksA]) (by decide) h3) (by rw [h.wd hi]; exact h4), a2⟩
  | one_open _ _ => intro _ _ _ e; cases e
  | one_call h1 h2 _ ih =>
    intro hi T p e
    obtain ⟨w1, w2⟩ := h.we hi (arg_word h1)
    obtain ⟨e0, e1, e2⟩ := mk _ (by simp [marksA]) w2 h2
    obtain ⟨a1, a2⟩ := ih e2 _ _ e
    have hw := h.wd hi
    exact ⟨.one_call (by rw [hw]; exact h1) (by rw [w1]; exact e0) (by rw [hw, w1, e1]; exact a1), a2⟩
  | call_err _ _ => intro _ _ _ e; cases e
  | call_few _ _ _ _ => intro _ _ _ e; cases e
  | call_end _ h2 h3 ih =>
    intro hi T p e
    cases e
    obtain ⟨a1, a2⟩ := ih hi _ _ rfl
    obtain ⟨c0, c1, c2⟩ := mk _ (by simp [marksA]) a2 h2
    exact ⟨c1 ▸ .call_end a1 c0 h3, c2⟩
  | call_form _ _ _ _ => intro _ _ _ e; cases e
  | call_many _ _ _ _ _ => intro _ _ _ e; cases e
  | call_on _ h1 h2 h3 _ ih1 ih2 =>
    intro hi T p e
    obtain ⟨a1, a2⟩ := ih1 hi _ _ rfl
    obtain ⟨c0, c1, c2⟩ := mk _ (by simp [marksA]) a2 h2
    obtain ⟨b1, b2⟩ := ih2 c2 _ _ e
    refine ⟨.call_on a1 ?_ c0 h3 (by rw [c1]; exact b1), b2⟩
    have q1 := (mark_iff1 (h.lo a2).2.2).1 c0
    refine Int.not_le.1 fun q => ?_
    have q2 := (mark_iff1 (h.lo a2).2.2).1 q
    unfold isAt at q1 q2
    rw [Bool.and_eq_true, beq_iff_eq] at q1 q2
    have := q1.2.symm.trans q2.2
    exact absurd this (by decide)
end
end Go.Proofs.YtdlkdecigpaaaaaGreatDoor
