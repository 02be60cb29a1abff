/- Texts that are alike, byte by byte, but for their blanks: plain words. -/
import Derived.Test.YtdlkdecigpaaaaaGreatDoorMpSM
import Derived.Test.YtdlkdecigpaaaaaGreatDoorMp24
namespace Go.Proofs.YtdlkdecigpaaaaaGreatDoor
set_option linter.unusedVariables false
set_option linter.unusedSimpArgs false
open Go.RowKit

theorem upTo_is {p : Int → Bool} {n : Nat} : ∀ (k : Nat) {i e : Int}, 0 ≤ i → i ≤ e → (e - i).toNat = k → (∀ j : Int, i ≤ j → j < e → p j = true) → e ≤ n → p e = false → upTo p n i = e
  | 0, i, e, _, h1, hk, _, _, he => by
    obtain rfl : i = e := by omega
    exact upTo_stop he
  | k + 1, i, e, h0, h1, hk, hp, hn, he => by
    rw [upTo_step h0 (hp i (Int.le_refl _) (by omega)) (by omega)]
    exact upTo_is k (by omega) (by omega) (by omega) (fun j a b => hp j (by omega) b) hn he
/-- u bears s's bytes from a to b, further on by d. -/
def Like (s u : ByteArray) (d a b : Int) : Prop := ∀ j : Int, a ≤ j → j < b → bt u (j + d) = bt s j
theorem Like.sub {s u : ByteArray} {d a b a' b' : Int} (h : Like s u d a b) (h1 : a ≤ a') (h2 : b' ≤ b) : Like s u d a' b' := fun j k1 k2 => h j (by omega) (by omega)
theorem bt_list {s : ByteArray} {j : Nat} (h : j < s.size) : s.data.toList[j]? = some (bt s j).toNat.toUInt8 := by
  have h2 := bt_nat s j h
  have hl : s.data.toList.length = s.size := by rw [Array.length_toList]; rfl
  rw [List.getElem?_eq_getElem (by rw [hl]; exact h)]
  have e : s.data.toList[j]'(by rw [hl]; exact h) = s[j] := rfl
  rw [e, ← h2]
  simp
theorem cut_like {s u : ByteArray} {d a b : Int} (h : Like s u d a b) (h0 : 0 ≤ a) (hab : a ≤ b) (hs : b ≤ s.size) (hu : b + d ≤ u.size) (hd : 0 ≤ a + d) : cutS u (a + d) (b + d) = cutS s a b := by
  apply bytes_ext
  rw [toList_data, toList_data, ext_list, ext_list]
  apply List.ext_getElem?
  intro k
  rw [List.getElem?_take, List.getElem?_take, List.getElem?_drop, List.getElem?_drop]
  have e : (b + d).toNat - (a + d).toNat = b.toNat - a.toNat := by omega
  rw [e]
  by_cases hk : k < b.toNat - a.toNat
  · rw [if_pos hk, if_pos hk, bt_list (by omega), bt_list (by omega)]
    have := h (a.toNat + k : Nat) (by omega) (by omega)
    rw [show (((a.toNat + k : Nat) : Int) + d) = (((a + d).toNat + k : Nat) : Int) by omega] at this
    rw [this]
  · rw [if_neg hk, if_neg hk]
theorem at_like {s u : ByteArray} {d i : Int} (hb : bt u (i + d) = bt s i) (h1 : i < s.size) (h2 : i + d < u.size) (c : Int) : isAt u (i + d) c = isAt s i c := by
  unfold isAt; rw [hb, decide_eq_true h1, decide_eq_true h2]
theorem fourF_like {s u : ByteArray} {d : Int} : ∀ (k : Nat) (n i : Int), 0 ≤ n → 0 ≤ i → 0 ≤ (fourF s k n i).1 → Like s u d i (fourF s k n i).2 → (fourF s k n i).2 + d ≤ u.size → fourF u k n (i + d) = ((fourF s k n i).1, (fourF s k n i).2 + d)
  | 0, n, i, _, _, _, _, _ => rfl
  | k + 1, n, i, hn, h0, hp, hl, hu => by
    unfold fourF at hp hl hu ⊢
    by_cases hx : hexAt s i < 0
    · rw [if_pos hx] at hp; simp at hp
    · rw [if_neg hx] at hp hl hu ⊢
      have h1 := hexAt_lt (s := s) (i := i) (by omega)
      have hr := fourF_range s k (n * 16 + hexAt s i) (i + 1) (by omega)
      have e : hexAt u (i + d) = hexAt s i := by
        unfold hexAt; rw [if_pos h1, if_pos (by omega), hl i (Int.le_refl _) (by omega)]
      rw [e, if_neg hx, show i + d + 1 = i + 1 + d by omega]
      exact fourF_like k _ _ (by omega) (by omega) hp (hl.sub (by omega) (Int.le_refl _)) hu
theorem four_like {s u : ByteArray} {d i : Int} (h0 : 0 ≤ i) (hp : 0 ≤ (four s i).1) (hl : Like s u d i (four s i).2) (hu : (four s i).2 + d ≤ u.size) : four u (i + d) = ((four s i).1, (four s i).2 + d) :=
  fourF_like 4 0 i (Int.le_refl _) h0 hp hl hu
theorem escape_like {s u : ByteArray} {d i : Int} (h0 : 0 ≤ i) (hi : i < s.size) (h : (escape s i).2.2 = 0) (hl : Like s u d i (escape s i).2.1) (hu : (escape s i).2.1 + d ≤ u.size) : escape u (i + d) = ((escape s i).1, (escape s i).2.1 + d, 0) := by
  have hok := escape_ok h0 h hi
  have e1 : escAt u (i + d + 1) = escAt s (i + 1) := by
    unfold escAt; rw [if_pos (by omega), if_pos (by omega), show i + d + 1 = i + 1 + d by omega, hl (i + 1) (by omega) (by omega)]
  have e2 : isAt u (i + d + 1) 117 = isAt s (i + 1) 117 := by
    rw [show i + d + 1 = i + 1 + d by omega]; exact at_like (hl (i + 1) (by omega) (by omega)) (by omega) (by omega) _
  unfold escape at h hl hu ⊢
  rw [e1, e2]
  have f := four_range s (i + 2)
  have g := four_range s ((four s (i + 2)).2 + 2)
  by_cases c1 : 0 ≤ escAt s (i + 1)
  · simp only [if_pos c1]
    rw [show i + d + 2 = i + 2 + d by omega]
  · simp only [if_neg c1] at h hl hu ⊢
    by_cases c2 : isAt s (i + 1) 117 = false
    · simp [if_pos c2] at h
    · simp only [if_neg c2] at h hl hu ⊢
      by_cases c3 : (four s (i + 2)).1 < 0
      · simp [if_pos c3] at h
      · simp only [if_neg c3] at h hl hu ⊢
        by_cases c4 : pointB (four s (i + 2)).1 = true
        · simp only [if_pos c4] at h hl hu ⊢
          have e := four_like (u := u) (d := d) (i := i + 2) (by omega) (by omega) (hl.sub (by omega) (Int.le_refl _)) hu
          rw [show i + d + 2 = i + 2 + d by omega, e]
          simp only [if_neg c3, if_pos c4]
        · simp only [if_neg c4] at h hl hu ⊢
          by_cases c5 : (four s (i + 2)).1 < 56320 ∧ isAt s (four s (i + 2)).2 92 = true ∧ isAt s ((four s (i + 2)).2 + 1) 117 = true ∧ 56320 ≤ (four s ((four s (i + 2)).2 + 2)).1 ∧ (four s ((four s (i + 2)).2 + 2)).1 ≤ 57343
          · simp only [if_pos c5] at h hl hu ⊢
            have hin2 := isAt_lt c5.2.2.1
            have e := four_like (u := u) (d := d) (i := i + 2) (by omega) (by omega) (hl.sub (by omega) (by omega)) (by omega)
            have e' := four_like (u := u) (d := d) (i := (four s (i + 2)).2 + 2) (by omega) (by omega) (hl.sub (by omega) (Int.le_refl _)) hu
            have a1 : isAt u ((four s (i + 2)).2 + d) 92 = isAt s (four s (i + 2)).2 92 := at_like (hl _ (by omega) (by omega)) (by omega) (by omega) _
            have a2 : isAt u ((four s (i + 2)).2 + 1 + d) 117 = isAt s ((four s (i + 2)).2 + 1) 117 := at_like (hl _ (by omega) (by omega)) (by omega) (by omega) _
            rw [show i + d + 2 = i + 2 + d by omega, e]
            simp only [if_neg c3, if_neg c4]
            rw [show (four s (i + 2)).2 + d + 2 = (four s (i + 2)).2 + 2 + d by omega, show (four s (i + 2)).2 + d + 1 = (four s (i + 2)).2 + 1 + d by omega, e', a1, a2]
            simp only [if_pos c5]
          · simp [if_neg c5] at h
theorem first_like {s u : ByteArray} {d i : Int} (h0 : 0 ≤ i) (h : (first s i).2 ≠ 0) (hl : Like s u d i (i + (first s i).2)) (hu : i + (first s i).2 + d ≤ u.size) : first u (i + d) = first s i := by
  obtain ⟨k, hk1, hk, he, hok, hno⟩ := first_ok h
  have hin : i + k ≤ s.size := by
    have := first_range (s := s) (i := i)
    rw [he] at this; simp only at this; omega
  rw [he] at hl hu
  simp only at hl hu
  have hsame : ∀ j, 1 ≤ j → j ≤ k → okAt u (i + d) j = okAt s i j ∧ cand u (i + d) j = cand s i j := fun j a b => ok_shift h0 a (by omega) (by omega) (by omega) (fun q hq => by have := hl (i + q) (by omega) (by omega); rw [show i + d + (q : Int) = i + q + d by omega]; exact this)
  rw [he]
  rw [first_some hk1 hk (fun j a b => by rw [(hsame j a (by omega)).1]; exact hno j a b) (by rw [(hsame k hk1 (Nat.le_refl _)).1]; exact hok), (hsame k hk1 (Nat.le_refl _)).2]
theorem textF_like {s u : ByteArray} {d : Int} : ∀ (k : Nat) (i : Int) (acc : List Int), 0 ≤ i → 0 ≤ i + d → (textF s k i acc).2.2 = 0 → Like s u d i (textF s k i acc).2.1 → (textF s k i acc).2.1 + d ≤ u.size → ∀ m : Nat, u.size + 1 - (i + d).toNat ≤ m → textF u m (i + d) acc = ((textF s k i acc).1, (textF s k i acc).2.1 + d, 0)
  | 0, i, acc, _, _, h, _, _, _, _ => by simp [textF] at h
  | k + 1, i, acc, h0, hd, h, hl, hu, m, hm => by
    have hend := textF_end s (k + 1) i acc h0 h
    cases m with
    | zero => omega
    | succ m =>
    unfold textF at h hl hu hend ⊢
    by_cases c1 : ¬ i < s.size ∨ bt s i < 32
    · rw [if_pos c1] at h; simp at h
    · rw [if_neg c1] at h hl hu hend ⊢
      have eb : bt u (i + d) = bt s i := by
        by_cases c2 : bt s i = 34
        · rw [if_pos c2] at hl; exact hl i (Int.le_refl _) (by simp; omega)
        · rw [if_neg c2] at hl h hend
          by_cases c3 : bt s i = 92
          · rw [if_pos c3] at hl h hend
            by_cases c4 : (escape s i).2.2 = 0
            · rw [if_pos c4] at hl h hend; exact hl i (Int.le_refl _) hend.1
            · rw [if_neg c4] at h; exact absurd h c4
          · rw [if_neg c3] at hl h hend
            by_cases c4 : (first s i).2 = 0
            · rw [if_pos c4] at h; simp at h
            · rw [if_neg c4] at hl h hend; exact hl i (Int.le_refl _) hend.1
      have hlt : i + d < u.size := by omega
      have c1' : ¬ (¬ i + d < u.size ∨ bt s i < 32) := by omega
      rw [eb, if_neg c1']
      by_cases c2 : bt s i = 34
      · rw [if_pos c2, if_pos c2]; simp only; rw [show i + d + 1 = i + 1 + d by omega]
      · rw [if_neg c2] at h hl hu hend ⊢
        rw [if_neg c2]
        by_cases c3 : bt s i = 92
        · rw [if_pos c3] at h hl hu hend ⊢
          rw [if_pos c3]
          by_cases c4 : (escape s i).2.2 = 0
          · rw [if_pos c4] at h hl hu hend ⊢
            have hok := escape_ok h0 c4 (by omega)
            have hend2 := textF_end s k _ _ (by omega) h
            have e := escape_like (u := u) (d := d) h0 (by omega) c4 (hl.sub (Int.le_refl _) (by omega)) (by omega)
            rw [e]
            simp only [if_true]
            exact textF_like k _ _ (by omega) (by omega) h (hl.sub (by omega) (Int.le_refl _)) hu m (by omega)
          · rw [if_neg c4] at h; exact absurd h c4
        · rw [if_neg c3] at h hl hu hend ⊢
          rw [if_neg c3]
          by_cases c4 : (first s i).2 = 0
          · rw [if_pos c4] at h; simp at h
          · rw [if_neg c4] at h hl hu hend ⊢
            have hr := first_range (s := s) (i := i)
            have hend2 := textF_end s k _ _ (by omega) h
            have e := first_like (u := u) (d := d) h0 c4 (hl.sub (Int.le_refl _) (by omega)) (by omega)
            rw [e, if_neg c4, show i + d + (first s i).2 = i + (first s i).2 + d by omega]
            exact textF_like k _ _ (by omega) (by omega) h (hl.sub (by omega) (Int.le_refl _)) hu m (by omega)
theorem strF_like {s u : ByteArray} {d q : Int} (h0 : 0 ≤ q) (hd : 0 ≤ q + d) (h : (strF s q).2.2 = 0) (hl : Like s u d q (strF s q).1.stop) (hu : (strF s q).1.stop + d ≤ u.size) : (strF u (q + d)).2.2 = 0 ∧ (strF u (q + d)).1.text = (strF s q).1.text ∧ (strF u (q + d)).1.stop = (strF s q).1.stop + d := by
  have hc : (textOf s q).2.2 = 0 := by
    unfold strF at h
    split at h
    · assumption
    · exact h
  have e : strF s q = (⟨2, textS (textOf s q).1, 0, q, (textOf s q).2.1⟩, 0, 0) := by unfold strF; rw [if_pos hc]
  rw [e] at hl hu ⊢
  simp only at hl hu ⊢
  have ht : textOf u (q + d) = ((textOf s q).1, (textOf s q).2.1 + d, 0) := by
    unfold textOf textAt at hc hl hu ⊢
    rw [show q + d + 1 = q + 1 + d by omega]
    exact textF_like _ _ _ (by omega) (by omega) hc (hl.sub (by omega) (Int.le_refl _)) hu _ (Nat.le_refl _)
  have e2 : strF u (q + d) = (⟨2, textS (textOf s q).1, 0, q + d, (textOf s q).2.1 + d⟩, 0, 0) := by unfold strF; rw [ht]; simp
  rw [e2]
  exact ⟨rfl, rfl, rfl⟩
end Go.Proofs.YtdlkdecigpaaaaaGreatDoor
