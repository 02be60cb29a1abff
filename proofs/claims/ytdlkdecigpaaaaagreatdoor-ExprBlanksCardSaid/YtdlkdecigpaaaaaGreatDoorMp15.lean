/- Put together: A point's bytes as a text; bytes behind a place; a builder of the call's own under writes elsewhere; A text's end, read by itself: the same Str. -/
import Derived.Test.YtdlkdecigpaaaaaGreatDoorMp14
import Derived.Test.YtdlkdecigpaaaaaGreatDoorMp2
import Derived.Test.YtdlkdecigpaaaaaGreatDoorMp8
namespace Go.Proofs.YtdlkdecigpaaaaaGreatDoor
set_option linter.unusedVariables false
set_option linter.unusedSimpArgs false
open Go.RowKit

theorem enc_str {n : Int} (h : pointB n = true) : encS n = strOfNums (bytesL n) := by
  have hv : Utf8.valid n = true := by
    simp only [pointB, decide_eq_true_eq] at h
    simp only [Utf8.valid, Bool.or_eq_true, Bool.and_eq_true, decide_eq_true_eq]
    omega
  have h0 : 0 ≤ n := by simp only [pointB, decide_eq_true_eq] at h; omega
  obtain ⟨m, rfl⟩ := Int.eq_ofNat_of_zero_le h0
  unfold encS Utf8.encode
  rw [if_pos h, if_pos hv]
  simp only [Int.toNat_natCast]
  unfold strOfNums bytesL
  by_cases c1 : m < 128
  · rw [if_pos c1, if_pos (show (m : Int) < 128 by omega)]; simp
  · rw [if_neg c1, if_neg (show ¬ (m : Int) < 128 by omega)]
    by_cases c2 : m < 2048
    · rw [if_pos c2, if_pos (show (m : Int) < 2048 by omega)]
      simp only [List.map_cons, List.map_nil]
      rw [show (192 + (m : Int) / 64).toNat = 192 + m / 64 from by omega, show (128 + (m : Int) % 64).toNat = 128 + m % 64 from by omega]
    · rw [if_neg c2, if_neg (show ¬ (m : Int) < 2048 by omega)]
      by_cases c3 : m < 65536
      · rw [if_pos c3, if_pos (show (m : Int) < 65536 by omega)]
        simp only [List.map_cons, List.map_nil]
        rw [show (224 + (m : Int) / 4096).toNat = 224 + m / 4096 from by omega, show (128 + (m : Int) / 64 % 64).toNat = 128 + m / 64 % 64 from by omega, show (128 + (m : Int) % 64).toNat = 128 + m % 64 from by omega]
      · rw [if_neg c3, if_neg (show ¬ (m : Int) < 65536 by omega)]
        simp only [List.map_cons, List.map_nil]
        rw [show (240 + (m : Int) / 262144).toNat = 240 + m / 262144 from by omega, show (128 + (m : Int) / 4096 % 64).toNat = 128 + m / 4096 % 64 from by omega, show (128 + (m : Int) / 64 % 64).toNat = 128 + m / 64 % 64 from by omega, show (128 + (m : Int) % 64).toNat = 128 + m % 64 from by omega]
/-- Bytes, as bytes. -/
def rawL (l : List Int) : List UInt8 := l.map fun n => UInt8.ofNat n.toNat
theorem strCells_of (l : List Int) : Lib.strCells (strOfNums l) = Lib.byteCells (rawL l) := rfl
theorem rawL_app (a b : List Int) : rawL (a ++ b) = rawL a ++ rawL b := by simp [rawL]
theorem byteCells_app (a b : List UInt8) : Lib.byteCells (a ++ b) = Lib.byteCells a ++ Lib.byteCells b := by simp [Lib.byteCells]
theorem textS_raw (l : List Int) : (⟨(rawL (bytesOfL l)).toArray⟩ : ByteArray) = textS l := rfl
theorem bytesOf_snoc (l : List Int) (n : Int) : bytesOfL (l ++ [n]) = bytesOfL l ++ bytesL n := by simp [bytesOfL]
theorem bt_shift (s : ByteArray) (a j : Nat) : bt (s.extract a s.size) (j : Int) = bt s ((a : Int) + (j : Int)) := by
  by_cases h : a + j < s.size
  · have := bt_extract s a j h; rw [this]; congr 1
  · have h1 : ¬ j < (s.extract a s.size).size := by rw [ByteArray.size_extract]; omega
    unfold bt
    rw [dif_neg (by omega), dif_neg (by omega)]
theorem first_shift (s : ByteArray) (a : Nat) (h : a ≤ s.size) : first (s.extract a s.size) 0 = first s a := by
  have b0 := bt_shift s a 0
  have b1 := bt_shift s a 1
  have b2 := bt_shift s a 2
  have b3 := bt_shift s a 3
  have hs : (s.extract a s.size).size = s.size - a := by rw [ByteArray.size_extract]; omega
  simp only [Int.natCast_zero, Int.natCast_one, Int.add_zero, show ((2 : Nat) : Int) = 2 from rfl, show ((3 : Nat) : Int) = 3 from rfl] at b0 b1 b2 b3
  unfold first
  rw [ok1, ok2, ok3, ok4, ok1, ok2, ok3, ok4, cand1, cand2, cand3, cand4, cand1, cand2, cand3, cand4, hs]
  simp only [Int.zero_add, b0, b1, b2, b3]
  simp only [show ∀ k : Int, (k ≤ ((s.size - a : Nat) : Int)) = ((a : Int) + k ≤ (s.size : Int)) from fun k => propext (by omega)]
theorem isb_keeps {S : List Nat} {T e : TypeId} {B b : Nat} {bs : List Value} {w w1 : World} (h : Lib.IsBuilderF T e B b bs w) (hk : Keeps S w w1) (hS : ∀ k, k ∈ S → k < B) : Lib.IsBuilderF T e B b bs w1 := by
  have key : ∀ p, Lib.BuilderAtF T e B b p bs w → Lib.BuilderAtF T e B b p bs w1 := by
    rintro p ⟨hB, v, hb, hown, hne⟩
    refine ⟨hB, v, hk.heap hb (fun hm => by have := hS _ hm; omega), ?_, hne⟩
    refine ⟨hown.1, ?_⟩
    rcases hown.2 with hn | ⟨g, cap, cur, fz, rfl, hg, hgg, rest⟩
    · exact .inl hn
    · exact .inr ⟨g, cap, cur, fz, rfl, hg, hk.heap hgg (fun hm => by have := hS _ hm; omega), rest⟩
  exact h.imp (key _) (key _)
end Go.Proofs.YtdlkdecigpaaaaaGreatDoor
namespace Go.Proofs.YtdlkdecigpaaaaaGreatDoor
set_option linter.unusedVariables false
set_option linter.unusedSimpArgs false
open Go.RowKit

/-- A text is the end of another, from a place on. -/
structure Sh (u s : ByteArray) (k : Int) : Prop where
  k0 : 0 ≤ k
  sz : (s.size : Int) = k + u.size
  b : ∀ i, 0 ≤ i → bt u i = bt s (k + i)
theorem sh_extract {s : ByteArray} {k : Int} (h0 : 0 ≤ k) (h1 : k ≤ s.size) : Sh (s.extract k.toNat s.size) s k := by
  refine ⟨h0, by simp only [ByteArray.size_extract]; omega, fun i hi => ?_⟩
  have := bt_shift s k.toNat i.toNat
  rwa [Int.toNat_of_nonneg h0, Int.toNat_of_nonneg hi] at this
section
variable {u s : ByteArray} {k : Int}
theorem Sh.lt (h : Sh u s k) (i : Int) : (i < u.size) = (k + i < s.size) := by have := h.sz; exact propext (by omega)
theorem Sh.isAt (h : Sh u s k) {i : Int} (hi : 0 ≤ i) (c : Int) : isAt s (k + i) c = isAt u i c := by
  unfold Go.Proofs.YtdlkdecigpaaaaaGreatDoor.isAt; rw [h.b i hi]; simp only [h.lt i]
theorem Sh.hexAt (h : Sh u s k) {i : Int} (hi : 0 ≤ i) : hexAt s (k + i) = hexAt u i := by
  unfold Go.Proofs.YtdlkdecigpaaaaaGreatDoor.hexAt; rw [h.b i hi]; simp only [h.lt i]
theorem Sh.escAt (h : Sh u s k) {i : Int} (hi : 0 ≤ i) : escAt s (k + i) = escAt u i := by
  unfold Go.Proofs.YtdlkdecigpaaaaaGreatDoor.escAt; rw [h.b i hi]; simp only [h.lt i]
theorem Sh.fourF (h : Sh u s k) : ∀ (j : Nat) (n i : Int), 0 ≤ i → fourF s j n (k + i) = ((fourF u j n i).1, k + (fourF u j n i).2)
  | 0, _, _, _ => rfl
  | j + 1, n, i, hi => by
    have e := Sh.fourF h j (n * 16 + Go.Proofs.YtdlkdecigpaaaaaGreatDoor.hexAt u i) (i + 1) (by omega)
    unfold Go.Proofs.YtdlkdecigpaaaaaGreatDoor.fourF
    rw [h.hexAt hi]
    split
    · rfl
    · rw [← e, Int.add_assoc]
theorem Sh.four (h : Sh u s k) {i : Int} (hi : 0 ≤ i) : four s (k + i) = ((four u i).1, k + (four u i).2) := h.fourF 4 0 i hi
theorem Sh.escape (h : Sh u s k) {i : Int} (hi : 0 ≤ i) : escape s (k + i) = ((escape u i).1, k + (escape u i).2.1, (escape u i).2.2) := by
  have f := four_range u (i + 2)
  have e1 := h.escAt (i := i + 1) (by omega)
  have e2 := h.isAt (i := i + 1) (by omega) 117
  have e3 := h.four (i := i + 2) (by omega)
  have e4 := h.isAt (i := (Go.Proofs.YtdlkdecigpaaaaaGreatDoor.four u (i + 2)).2) (by omega) 92
  have e5 := h.isAt (i := (Go.Proofs.YtdlkdecigpaaaaaGreatDoor.four u (i + 2)).2 + 1) (by omega) 117
  have e6 := h.four (i := (Go.Proofs.YtdlkdecigpaaaaaGreatDoor.four u (i + 2)).2 + 2) (by omega)
  rw [← Int.add_assoc] at e1 e2 e3 e5 e6
  unfold Go.Proofs.YtdlkdecigpaaaaaGreatDoor.escape
  simp only [e1, e2, e3, e4, e5, e6]
  repeat' split
  all_goals first | rfl | (simp only [Int.add_assoc])
theorem Sh.candF (h : Sh u s k) {i : Int} (hi : 0 ≤ i) (n : Nat) : ∀ j : Nat, candF s (k + i) n j = candF u i n j
  | 0 => by unfold Go.Proofs.YtdlkdecigpaaaaaGreatDoor.candF; rw [h.b i hi]
  | j + 1 => by unfold Go.Proofs.YtdlkdecigpaaaaaGreatDoor.candF; rw [Sh.candF h hi n j, h.b (i + (j + 1 : Nat)) (by omega), Int.add_assoc]
theorem Sh.atL (h : Sh u s k) : ∀ (l : List Int) {i : Int}, 0 ≤ i → atL s (k + i) l = atL u i l
  | [], _, _ => rfl
  | c :: l, i, hi => by unfold Go.Proofs.YtdlkdecigpaaaaaGreatDoor.atL; rw [h.b i hi, Int.add_assoc, Sh.atL h l (by omega)]
theorem Sh.okAt (h : Sh u s k) {i : Int} (hi : 0 ≤ i) (n : Nat) : okAt s (k + i) n = okAt u i n := by
  have hc : cand s (k + i) n = cand u i n := h.candF hi n _
  unfold Go.Proofs.YtdlkdecigpaaaaaGreatDoor.okAt
  rw [hc, h.atL _ hi]
  have : (k + i + n ≤ s.size) = (i + n ≤ u.size) := propext (by have := h.sz; omega)
  simp only [this]
theorem Sh.first (h : Sh u s k) {i : Int} (hi : 0 ≤ i) : first s (k + i) = first u i := by
  have hc : ∀ n, cand s (k + i) n = cand u i n := fun n => h.candF hi n _
  unfold Go.Proofs.YtdlkdecigpaaaaaGreatDoor.first
  simp only [h.okAt hi, hc]
theorem Sh.textF (h : Sh u s k) : ∀ (m : Nat) (i : Int) (acc : List Int), 0 ≤ i → textF s m (k + i) acc = ((textF u m i acc).1, k + (textF u m i acc).2.1, (textF u m i acc).2.2)
  | 0, _, _, _ => rfl
  | m + 1, i, acc, hi => by
    unfold Go.Proofs.YtdlkdecigpaaaaaGreatDoor.textF
    rw [← h.b i hi, h.escape hi, h.first hi]
    simp only [← h.lt i]
    by_cases c1 : ¬ i < u.size ∨ bt u i < 32
    · rw [if_pos c1, if_pos c1]
    · rw [if_neg c1, if_neg c1]
      by_cases c2 : bt u i = 34
      · rw [if_pos c2, if_pos c2]; simp only [Int.add_assoc]
      · rw [if_neg c2, if_neg c2]
        by_cases c3 : bt u i = 92
        · rw [if_pos c3, if_pos c3]
          by_cases c4 : (Go.Proofs.YtdlkdecigpaaaaaGreatDoor.escape u i).2.2 = 0
          · have hp := (escape_place (s := u) (i := i) hi (by omega)).1
            rw [if_pos c4, if_pos c4, Sh.textF h m _ _ (by omega)]
          · rw [if_neg c4, if_neg c4]
        · rw [if_neg c3, if_neg c3]
          by_cases c4 : (Go.Proofs.YtdlkdecigpaaaaaGreatDoor.first u i).2 = 0
          · rw [if_pos c4, if_pos c4]
          · rw [if_neg c4, if_neg c4, Int.add_assoc, Sh.textF h m _ _ (by have := first_range (s := u) (i := i); omega)]
theorem Sh.textAt (h : Sh u s k) {i : Int} (hi : 0 ≤ i) (acc : List Int) : textAt s (k + i) acc = ((textAt u i acc).1, k + (textAt u i acc).2.1, (textAt u i acc).2.2) := by
  unfold Go.Proofs.YtdlkdecigpaaaaaGreatDoor.textAt
  rw [show s.size + 1 - (k + i).toNat = u.size + 1 - i.toNat from by have := h.sz; have := h.k0; omega]
  exact h.textF _ i acc hi
theorem Sh.textOf (h : Sh u s k) {i : Int} (hi : 0 ≤ i) : textOf s (k + i) = ((textOf u i).1, k + (textOf u i).2.1, (textOf u i).2.2) := by
  have := h.textAt (i := i + 1) (by omega) []
  rwa [← Int.add_assoc] at this
/-- A Str at a place, as it is at the head of the text's end. -/
theorem Sh.str (h : Sh u s k) : (strF s k).1.text = (strF u 0).1.text ∧ ((strF s k).2.2 = (strF u 0).2.2) ∧ ((strF u 0).2.2 = 0 → (strF s k).1.stop = k + (strF u 0).1.stop) ∧ ((strF u 0).2.2 ≠ 0 → (strF s k).2.1 = k + (strF u 0).2.1) := by
  have e := h.textOf (i := 0) (by omega)
  rw [Int.add_zero] at e
  unfold strF
  rw [e]
  by_cases c : (Go.Proofs.YtdlkdecigpaaaaaGreatDoor.textOf u 0).2.2 = 0
  · rw [if_pos c, if_pos c]; exact ⟨rfl, rfl, fun _ => rfl, fun h => absurd rfl h⟩
  · rw [if_neg c, if_neg c]; exact ⟨rfl, rfl, fun h => absurd h c, fun _ => rfl⟩
theorem textF_bound (s : ByteArray) : ∀ (m : Nat) (i : Int) (acc : List Int), 0 ≤ i → i ≤ s.size → i ≤ (textF s m i acc).2.1 ∧ (textF s m i acc).2.1 ≤ s.size + 12
  | 0, i, acc, _, h1 => by unfold Go.Proofs.YtdlkdecigpaaaaaGreatDoor.textF; simp only; omega
  | m + 1, i, acc, h0, h1 => by
    unfold Go.Proofs.YtdlkdecigpaaaaaGreatDoor.textF
    by_cases c1 : ¬ i < s.size ∨ bt s i < 32
    · rw [if_pos c1]; simp only; omega
    · rw [if_neg c1]
      by_cases c2 : bt s i = 34
      · rw [if_pos c2]; simp only; omega
      · rw [if_neg c2]
        by_cases c3 : bt s i = 92
        · rw [if_pos c3]
          have hp := escape_place (s := s) (i := i) h0 (by omega)
          by_cases c4 : (Go.Proofs.YtdlkdecigpaaaaaGreatDoor.escape s i).2.2 = 0
          · rw [if_pos c4]
            have he := escape_ok h0 c4 (by omega)
            have := textF_bound s m (Go.Proofs.YtdlkdecigpaaaaaGreatDoor.escape s i).2.1 (acc ++ [(Go.Proofs.YtdlkdecigpaaaaaGreatDoor.escape s i).1]) (by omega) he.2.1
            exact ⟨Int.le_trans hp.1 this.1, this.2⟩
          · rw [if_neg c4]; exact ⟨hp.1, Int.le_trans hp.2 (by omega)⟩
        · rw [if_neg c3]
          by_cases c4 : (Go.Proofs.YtdlkdecigpaaaaaGreatDoor.first s i).2 = 0
          · rw [if_pos c4]; simp only; omega
          · rw [if_neg c4]
            have hf := first_range (s := s) (i := i)
            have := textF_bound s m (i + (Go.Proofs.YtdlkdecigpaaaaaGreatDoor.first s i).2) (acc ++ [(Go.Proofs.YtdlkdecigpaaaaaGreatDoor.first s i).1]) (by omega) (by omega)
            exact ⟨Int.le_trans (by omega) this.1, this.2⟩
theorem str_bound {s : ByteArray} {q : Int} (h0 : 0 ≤ q) (h1 : q < s.size) : ((strF s q).2.2 ≠ 0 → q ≤ (strF s q).2.1 ∧ (strF s q).2.1 ≤ s.size + 12) ∧ ((strF s q).2.2 = 0 → q ≤ (strF s q).1.stop ∧ (strF s q).1.stop ≤ s.size + 12) := by
  have h : q + 1 ≤ (Go.Proofs.YtdlkdecigpaaaaaGreatDoor.textOf s q).2.1 ∧ (Go.Proofs.YtdlkdecigpaaaaaGreatDoor.textOf s q).2.1 ≤ s.size + 12 := textF_bound s _ (q + 1) [] (by omega) (by omega)
  unfold strF
  by_cases c : (Go.Proofs.YtdlkdecigpaaaaaGreatDoor.textOf s q).2.2 = 0
  · rw [if_pos c]; exact ⟨fun h => absurd rfl h, fun _ => ⟨Int.le_trans (by omega) h.1, h.2⟩⟩
  · rw [if_neg c]; exact ⟨fun _ => ⟨Int.le_trans (by omega) h.1, h.2⟩, fun h => absurd h c⟩
theorem next_str {u : ByteArray} (h : isAt u 0 34 = true) : nextF u 0 = strF u 0 := by
  have hl := isAt_lt h
  have hb : bt u 0 = 34 := by
    have h2 := h
    simp only [Go.Proofs.YtdlkdecigpaaaaaGreatDoor.isAt, Bool.and_eq_true, beq_iff_eq] at h2
    exact h2.2
  have hq : blanks u 0 = 0 := by
    have hn : isBlank u 0 = false := by simp [isBlank, Go.Proofs.YtdlkdecigpaaaaaGreatDoor.isAt, hb]
    exact upTo_stop hn
  unfold nextF
  rw [hq, if_pos hl]
  unfold tokF
  rw [hb]
  rfl
end
end Go.Proofs.YtdlkdecigpaaaaaGreatDoor
