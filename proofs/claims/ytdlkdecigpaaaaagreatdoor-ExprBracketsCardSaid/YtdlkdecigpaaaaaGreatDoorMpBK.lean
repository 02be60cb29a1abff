/- Two expressions in brackets, a sign between: plain words. -/
import Derived.Test.YtdlkdecigpaaaaaGreatDoorMpSK
namespace Go.Proofs.YtdlkdecigpaaaaaGreatDoor
set_option linter.unusedVariables false
set_option linter.unusedSimpArgs false
open Go.RowKit

/-- The signs and words that stand between. -/
def opsA : List ByteArray := [orS, andS, ⟨#[61, 61]⟩, ⟨#[33, 61]⟩, ⟨#[60]⟩, ⟨#[60, 61]⟩, ⟨#[62]⟩, ⟨#[62, 61]⟩, ⟨#[43]⟩, ⟨#[45]⟩, ⟨#[42]⟩, ⟨#[47]⟩, ⟨#[37]⟩]
def lvOf (op : ByteArray) : Nat := if op = orS then 0 else if op = andS then 1 else if memL op (signsL 3) then 3 else if memL op (signsL 4) then 4 else 5
theorem lv_0 : lv 0 := .inl rfl
theorem lv_1 : lv 1 := .inr (.inl rfl)
theorem lv_3 : lv 3 := .inr (.inr (.inl rfl))
theorem lv_4 : lv 4 := .inr (.inr (.inr (.inl rfl)))
theorem lv_5 : lv 5 := .inr (.inr (.inr (.inr rfl)))
section
variable {u : ByteArray} {k : Int}
theorem at_byte {c : Int} (hl : k < u.size) (h : bt u k = c) (d : Int) : isAt u k d = (c == d) := by unfold isAt; rw [decide_eq_true hl, h]; rfl
/-- A word at a place, an open bracket behind it. -/
theorem word_is {op : ByteArray} (hne : 0 < op.size) (hlt : letterB (bt op 0) = true) (hgo : ∀ j : Nat, j < op.size → goesAt op j = true) (h0 : 0 ≤ k) (hb : ∀ j : Nat, j < op.size → bt u (k + j) = bt op j) (hn : bt u (k + op.size) = 40) (hl : k + op.size < u.size) :
    wordAt u k = op ∧ wordAtEnd u k = k + op.size ∧ blanks u k = k := by
  have b0 : bt u k = bt op 0 := by have := hb 0 hne; simpa using this
  have hc := hlt
  simp only [letterB, decide_eq_true_eq] at hc
  have hbl : blanks u k = k := blanks_at (blank_no (by omega))
  have hla : letterAt u k = true := by unfold letterAt; rw [decide_eq_true (by omega), b0, hlt]; rfl
  have hwe : wordEnd u k = k + op.size := by
    refine upTo_is _ h0 (by omega) rfl (fun j k1 k2 => ?_) (by omega) ?_
    · have e := hb (j - k).toNat (by omega)
      rw [show k + ((j - k).toNat : Int) = j by omega] at e
      rw [← goes_pb (s := op) (j := ((j - k).toNat : Int)) (by omega) (by omega) e.symm]
      exact hgo _ (by omega)
    · unfold goesAt letterAt digitAt isAt letterB digitB; rw [hn]; simp
  have hcut := cut_like (s := op) (u := u) (d := k) (a := 0) (b := op.size) (fun j k1 k2 => by
    have e := hb j.toNat (by omega)
    rw [show k + (j.toNat : Int) = j + k by omega, show ((j.toNat : Nat) : Int) = j by omega] at e
    exact e) (Int.le_refl _) (by omega) (Int.le_refl _) (by omega) (by omega)
  have hself : cutS op 0 op.size = op := by
    apply bytes_ext
    rw [toList_data, toList_data, ext_list]
    have hl : op.data.toList.length = op.size := by rw [Array.length_toList]; rfl
    simp only [Int.toNat_natCast, Int.toNat_zero, List.drop_zero, Nat.sub_zero]
    rw [← hl, List.take_length]
  rw [hself, show (0 : Int) + k = k by omega, show (op.size : Int) + k = k + op.size by omega] at hcut
  unfold wordAt wordAtEnd
  rw [hbl, hla, hwe]
  exact ⟨hcut, rfl, rfl⟩
/-- A sign at a place, an open bracket behind it. -/
theorem op_at {op : ByteArray} (hop : op ∈ opsA) (h0 : 0 ≤ k) (hb : ∀ j : Nat, j < op.size → bt u (k + j) = bt op j) (hn : bt u (k + op.size) = 40) (hl : k + op.size < u.size) :
    markAt u k ⟨#[46]⟩ < 0 ∧ markAt u k ⟨#[91]⟩ < 0 ∧ (∀ m : Nat, m ≤ 5 → lvOf op < m → betw u k m = none) ∧ betw u k (lvOf op) = some (op, k + op.size) := by
  -- what stands at the place
  have key : ∀ (c d : Int), (c ≠ 32 ∧ c ≠ 9 ∧ c ≠ 10 ∧ c ≠ 13) → bt u k = c → k < u.size → bt u (k + 1) = d → k + 1 < u.size →
      (blanks u k = k ∧ (∀ e : UInt8, 0 ≤ markAt u k ⟨#[e]⟩ ↔ c = e.toNat) ∧ ∀ e : UInt8, 0 ≤ markAt u k ⟨#[e, 61]⟩ ↔ (c = e.toNat ∧ d = 61)) := by
    intro c d hc h1 l1 h2 l2
    have hbl : blanks u k = k := blanks_at (blank_no (by omega))
    refine ⟨hbl, fun e => ?_, fun e => ?_⟩
    · rw [mark_iff1 h0, hbl, at_byte l1 h1]; simp
    · rw [mark_iff2 h0, hbl, at_byte l1 h1, at_byte l2 h2]; simp
  have nolet : ∀ c : Int, bt u k = c → letterB c = false → blanks u k = k → wordAt u k = eS := by
    intro c h1 h2 h3
    unfold wordAt
    rw [h3]
    have : letterAt u k = false := by unfold letterAt; rw [h1, h2, Bool.and_false]
    rw [this]; rfl
  have val : ∀ t : ByteArray, blanks u k = k → 0 ≤ markAt u k t → markAt u k t = k + t.size := fun t e h => by rw [mark_val h, e]
  have no1 : ∀ {c : Int} (e : UInt8), (∀ e : UInt8, 0 ≤ markAt u k ⟨#[e]⟩ ↔ c = e.toNat) → ¬ c = e.toNat → markAt u k ⟨#[e]⟩ < 0 := fun e h hc => Int.not_le.1 fun hx => hc ((h e).1 hx)
  simp only [opsA, List.mem_cons, List.not_mem_nil, or_false] at hop
  rcases hop with rfl | rfl | rfl | rfl | rfl | rfl | rfl | rfl | rfl | rfl | rfl | rfl | rfl
  · obtain ⟨w1, w2, w3⟩ := word_is (op := orS) (by decide) (by decide) (by decide) h0 hb hn hl
    have b0 : bt u k = 111 := by exact (show bt u k = bt (orS : ByteArray) 0 by simpa using hb 0 (by decide)).trans (by decide)
    have b1 : bt u (k + 1) = 114 := by exact (show bt u (k + 1) = bt (orS : ByteArray) 1 by simpa using hb 1 (by decide)).trans (by decide)
    have hs : ((orS : ByteArray).size : Int) = 2 := rfl
    obtain ⟨_, m1, m2⟩ := key 111 114 (by decide) b0 (by omega) b1 (by omega)
    refine ⟨no1 46 m1 (by decide), no1 91 m1 (by decide), fun m hm hlv => ?_, ?_⟩
    · have hlv2 : 0 < m := hlv
      rcases (by omega : m = 1 ∨ m = 2 ∨ m = 3 ∨ m = 4 ∨ m = 5) with rfl | rfl | rfl | rfl | rfl
      · simp [betw, w1]
      · rfl
      · simp [betw, signsL, firstMark, m1, m2]
      · simp [betw, signsL, firstMark, m1, m2]
      · simp [betw, signsL, firstMark, m1, m2]
    · show betw u k 0 = _
      simp [betw, w1, w2]
  · obtain ⟨w1, w2, w3⟩ := word_is (op := andS) (by decide) (by decide) (by decide) h0 hb hn hl
    have b0 : bt u k = 97 := by exact (show bt u k = bt (andS : ByteArray) 0 by simpa using hb 0 (by decide)).trans (by decide)
    have b1 : bt u (k + 1) = 110 := by exact (show bt u (k + 1) = bt (andS : ByteArray) 1 by simpa using hb 1 (by decide)).trans (by decide)
    have hs : ((andS : ByteArray).size : Int) = 3 := rfl
    obtain ⟨_, m1, m2⟩ := key 97 110 (by decide) b0 (by omega) b1 (by omega)
    refine ⟨no1 46 m1 (by decide), no1 91 m1 (by decide), fun m hm hlv => ?_, ?_⟩
    · have hlv2 : 1 < m := hlv
      rcases (by omega : m = 2 ∨ m = 3 ∨ m = 4 ∨ m = 5) with rfl | rfl | rfl | rfl
      · rfl
      · simp [betw, signsL, firstMark, m1, m2]
      · simp [betw, signsL, firstMark, m1, m2]
      · simp [betw, signsL, firstMark, m1, m2]
    · show betw u k 1 = _
      simp [betw, w1, w2]
  · have b0 : bt u k = 61 := by exact (show bt u k = bt (⟨#[61, 61]⟩ : ByteArray) 0 by simpa using hb 0 (by decide)).trans (by decide)
    have b1 : bt u (k + 1) = 61 := by exact (show bt u (k + 1) = bt (⟨#[61, 61]⟩ : ByteArray) 1 by simpa using hb 1 (by decide)).trans (by decide)
    have hs : ((⟨#[61, 61]⟩ : ByteArray).size : Int) = 2 := rfl
    obtain ⟨w3, m1, m2⟩ := key 61 61 (by decide) b0 (by omega) b1 (by omega)
    have w1 := nolet 61 b0 (by decide) w3
    refine ⟨no1 46 m1 (by decide), no1 91 m1 (by decide), fun m hm hlv => ?_, ?_⟩
    · have hlv2 : 3 < m := hlv
      rcases (by omega : m = 4 ∨ m = 5) with rfl | rfl
      · simp [betw, signsL, firstMark, m1, m2]
      · simp [betw, signsL, firstMark, m1, m2]
    · show betw u k 3 = _
      have hv := val ⟨#[61, 61]⟩ w3 ((m2 61).2 ⟨rfl, rfl⟩)
      rw [← hv]
      simp [betw, signsL, firstMark, m1, m2]
  · have b0 : bt u k = 33 := by exact (show bt u k = bt (⟨#[33, 61]⟩ : ByteArray) 0 by simpa using hb 0 (by decide)).trans (by decide)
    have b1 : bt u (k + 1) = 61 := by exact (show bt u (k + 1) = bt (⟨#[33, 61]⟩ : ByteArray) 1 by simpa using hb 1 (by decide)).trans (by decide)
    have hs : ((⟨#[33, 61]⟩ : ByteArray).size : Int) = 2 := rfl
    obtain ⟨w3, m1, m2⟩ := key 33 61 (by decide) b0 (by omega) b1 (by omega)
    have w1 := nolet 33 b0 (by decide) w3
    refine ⟨no1 46 m1 (by decide), no1 91 m1 (by decide), fun m hm hlv => ?_, ?_⟩
    · have hlv2 : 3 < m := hlv
      rcases (by omega : m = 4 ∨ m = 5) with rfl | rfl
      · simp [betw, signsL, firstMark, m1, m2]
      · simp [betw, signsL, firstMark, m1, m2]
    · show betw u k 3 = _
      have hv := val ⟨#[33, 61]⟩ w3 ((m2 33).2 ⟨rfl, rfl⟩)
      rw [← hv]
      simp [betw, signsL, firstMark, m1, m2]
  · have b0 : bt u k = 60 := by exact (show bt u k = bt (⟨#[60]⟩ : ByteArray) 0 by simpa using hb 0 (by decide)).trans (by decide)
    have b1 : bt u (k + 1) = 40 := by exact hn
    have hs : ((⟨#[60]⟩ : ByteArray).size : Int) = 1 := rfl
    obtain ⟨w3, m1, m2⟩ := key 60 40 (by decide) b0 (by omega) b1 (by omega)
    have w1 := nolet 60 b0 (by decide) w3
    refine ⟨no1 46 m1 (by decide), no1 91 m1 (by decide), fun m hm hlv => ?_, ?_⟩
    · have hlv2 : 3 < m := hlv
      rcases (by omega : m = 4 ∨ m = 5) with rfl | rfl
      · simp [betw, signsL, firstMark, m1, m2]
      · simp [betw, signsL, firstMark, m1, m2]
    · show betw u k 3 = _
      have hv := val ⟨#[60]⟩ w3 ((m1 60).2 rfl)
      rw [← hv]
      simp [betw, signsL, firstMark, m1, m2]
  · have b0 : bt u k = 60 := by exact (show bt u k = bt (⟨#[60, 61]⟩ : ByteArray) 0 by simpa using hb 0 (by decide)).trans (by decide)
    have b1 : bt u (k + 1) = 61 := by exact (show bt u (k + 1) = bt (⟨#[60, 61]⟩ : ByteArray) 1 by simpa using hb 1 (by decide)).trans (by decide)
    have hs : ((⟨#[60, 61]⟩ : ByteArray).size : Int) = 2 := rfl
    obtain ⟨w3, m1, m2⟩ := key 60 61 (by decide) b0 (by omega) b1 (by omega)
    have w1 := nolet 60 b0 (by decide) w3
    refine ⟨no1 46 m1 (by decide), no1 91 m1 (by decide), fun m hm hlv => ?_, ?_⟩
    · have hlv2 : 3 < m := hlv
      rcases (by omega : m = 4 ∨ m = 5) with rfl | rfl
      · simp [betw, signsL, firstMark, m1, m2]
      · simp [betw, signsL, firstMark, m1, m2]
    · show betw u k 3 = _
      have hv := val ⟨#[60, 61]⟩ w3 ((m2 60).2 ⟨rfl, rfl⟩)
      rw [← hv]
      simp [betw, signsL, firstMark, m1, m2]
  · have b0 : bt u k = 62 := by exact (show bt u k = bt (⟨#[62]⟩ : ByteArray) 0 by simpa using hb 0 (by decide)).trans (by decide)
    have b1 : bt u (k + 1) = 40 := by exact hn
    have hs : ((⟨#[62]⟩ : ByteArray).size : Int) = 1 := rfl
    obtain ⟨w3, m1, m2⟩ := key 62 40 (by decide) b0 (by omega) b1 (by omega)
    have w1 := nolet 62 b0 (by decide) w3
    refine ⟨no1 46 m1 (by decide), no1 91 m1 (by decide), fun m hm hlv => ?_, ?_⟩
    · have hlv2 : 3 < m := hlv
      rcases (by omega : m = 4 ∨ m = 5) with rfl | rfl
      · simp [betw, signsL, firstMark, m1, m2]
      · simp [betw, signsL, firstMark, m1, m2]
    · show betw u k 3 = _
      have hv := val ⟨#[62]⟩ w3 ((m1 62).2 rfl)
      rw [← hv]
      simp [betw, signsL, firstMark, m1, m2]
  · have b0 : bt u k = 62 := by exact (show bt u k = bt (⟨#[62, 61]⟩ : ByteArray) 0 by simpa using hb 0 (by decide)).trans (by decide)
    have b1 : bt u (k + 1) = 61 := by exact (show bt u (k + 1) = bt (⟨#[62, 61]⟩ : ByteArray) 1 by simpa using hb 1 (by decide)).trans (by decide)
    have hs : ((⟨#[62, 61]⟩ : ByteArray).size : Int) = 2 := rfl
    obtain ⟨w3, m1, m2⟩ := key 62 61 (by decide) b0 (by omega) b1 (by omega)
    have w1 := nolet 62 b0 (by decide) w3
    refine ⟨no1 46 m1 (by decide), no1 91 m1 (by decide), fun m hm hlv => ?_, ?_⟩
    · have hlv2 : 3 < m := hlv
      rcases (by omega : m = 4 ∨ m = 5) with rfl | rfl
      · simp [betw, signsL, firstMark, m1, m2]
      · simp [betw, signsL, firstMark, m1, m2]
    · show betw u k 3 = _
      have hv := val ⟨#[62, 61]⟩ w3 ((m2 62).2 ⟨rfl, rfl⟩)
      rw [← hv]
      simp [betw, signsL, firstMark, m1, m2]
  · have b0 : bt u k = 43 := by exact (show bt u k = bt (⟨#[43]⟩ : ByteArray) 0 by simpa using hb 0 (by decide)).trans (by decide)
    have b1 : bt u (k + 1) = 40 := by exact hn
    have hs : ((⟨#[43]⟩ : ByteArray).size : Int) = 1 := rfl
    obtain ⟨w3, m1, m2⟩ := key 43 40 (by decide) b0 (by omega) b1 (by omega)
    have w1 := nolet 43 b0 (by decide) w3
    refine ⟨no1 46 m1 (by decide), no1 91 m1 (by decide), fun m hm hlv => ?_, ?_⟩
    · have hlv2 : 4 < m := hlv
      obtain rfl : m = 5 := by omega
      simp [betw, signsL, firstMark, m1, m2]
    · show betw u k 4 = _
      have hv := val ⟨#[43]⟩ w3 ((m1 43).2 rfl)
      rw [← hv]
      simp [betw, signsL, firstMark, m1, m2]
  · have b0 : bt u k = 45 := by exact (show bt u k = bt (⟨#[45]⟩ : ByteArray) 0 by simpa using hb 0 (by decide)).trans (by decide)
    have b1 : bt u (k + 1) = 40 := by exact hn
    have hs : ((⟨#[45]⟩ : ByteArray).size : Int) = 1 := rfl
    obtain ⟨w3, m1, m2⟩ := key 45 40 (by decide) b0 (by omega) b1 (by omega)
    have w1 := nolet 45 b0 (by decide) w3
    refine ⟨no1 46 m1 (by decide), no1 91 m1 (by decide), fun m hm hlv => ?_, ?_⟩
    · have hlv2 : 4 < m := hlv
      obtain rfl : m = 5 := by omega
      simp [betw, signsL, firstMark, m1, m2]
    · show betw u k 4 = _
      have hv := val ⟨#[45]⟩ w3 ((m1 45).2 rfl)
      rw [← hv]
      simp [betw, signsL, firstMark, m1, m2]
  · have b0 : bt u k = 42 := by exact (show bt u k = bt (⟨#[42]⟩ : ByteArray) 0 by simpa using hb 0 (by decide)).trans (by decide)
    have b1 : bt u (k + 1) = 40 := by exact hn
    have hs : ((⟨#[42]⟩ : ByteArray).size : Int) = 1 := rfl
    obtain ⟨w3, m1, m2⟩ := key 42 40 (by decide) b0 (by omega) b1 (by omega)
    have w1 := nolet 42 b0 (by decide) w3
    refine ⟨no1 46 m1 (by decide), no1 91 m1 (by decide), fun m hm hlv => ?_, ?_⟩
    · have hlv2 : 5 < m := hlv
      omega
    · show betw u k 5 = _
      have hv := val ⟨#[42]⟩ w3 ((m1 42).2 rfl)
      rw [← hv]
      simp [betw, signsL, firstMark, m1, m2]
  · have b0 : bt u k = 47 := by exact (show bt u k = bt (⟨#[47]⟩ : ByteArray) 0 by simpa using hb 0 (by decide)).trans (by decide)
    have b1 : bt u (k + 1) = 40 := by exact hn
    have hs : ((⟨#[47]⟩ : ByteArray).size : Int) = 1 := rfl
    obtain ⟨w3, m1, m2⟩ := key 47 40 (by decide) b0 (by omega) b1 (by omega)
    have w1 := nolet 47 b0 (by decide) w3
    refine ⟨no1 46 m1 (by decide), no1 91 m1 (by decide), fun m hm hlv => ?_, ?_⟩
    · have hlv2 : 5 < m := hlv
      omega
    · show betw u k 5 = _
      have hv := val ⟨#[47]⟩ w3 ((m1 47).2 rfl)
      rw [← hv]
      simp [betw, signsL, firstMark, m1, m2]
  · have b0 : bt u k = 37 := by exact (show bt u k = bt (⟨#[37]⟩ : ByteArray) 0 by simpa using hb 0 (by decide)).trans (by decide)
    have b1 : bt u (k + 1) = 40 := by exact hn
    have hs : ((⟨#[37]⟩ : ByteArray).size : Int) = 1 := rfl
    obtain ⟨w3, m1, m2⟩ := key 37 40 (by decide) b0 (by omega) b1 (by omega)
    have w1 := nolet 37 b0 (by decide) w3
    refine ⟨no1 46 m1 (by decide), no1 91 m1 (by decide), fun m hm hlv => ?_, ?_⟩
    · have hlv2 : 5 < m := hlv
      omega
    · show betw u k 5 = _
      have hv := val ⟨#[37]⟩ w3 ((m1 37).2 rfl)
      rw [← hv]
      simp [betw, signsL, firstMark, m1, m2]
end
section
variable {u : ByteArray} {i p : Int} {T : XT}
/-- One part, at all levels above one. -/
theorem climb (h : Par u .one i (.ok T p)) (hn : markAt u i ⟨#[45]⟩ < 0) (hw : wordAt u i ≠ notS) (hd : markAt u p ⟨#[46]⟩ < 0) (hq : markAt u p ⟨#[91]⟩ < 0) (n : Nat) (hb : ∀ m : Nat, m ≤ 5 → n < m → betw u p m = none) : ∀ m : Nat, m ≤ 6 → n < m → Par u (.lev m) i (.ok T p) := by
  have l6 : Par u (.lev 6) i (.ok T p) := .neg_no hn (.part_ok h (.parts_end hd hq))
  have go : ∀ m : Nat, lv m → n < m → Par u (.lev (m + 1)) i (.ok T p) → Par u (.lev m) i (.ok T p) := fun m hm hnm h => .lev_ok hm h (.more_end (hb m (by unfold lv at hm; omega) hnm))
  intro m hm hnm
  rcases (by omega : m = 6 ∨ m = 5 ∨ m = 4 ∨ m = 3 ∨ m = 2 ∨ m = 1) with rfl | rfl | rfl | rfl | rfl | rfl
  · exact l6
  · exact go 5 lv_5 (by omega) l6
  · exact go 4 lv_4 (by omega) (go 5 lv_5 (by omega) l6)
  · exact go 3 lv_3 (by omega) (go 4 lv_4 (by omega) (go 5 lv_5 (by omega) l6))
  · exact .not_no hw (go 3 lv_3 (by omega) (go 4 lv_4 (by omega) (go 5 lv_5 (by omega) l6)))
  · exact go 1 lv_1 (by omega) (.not_no hw (go 3 lv_3 (by omega) (go 4 lv_4 (by omega) (go 5 lv_5 (by omega) l6))))
end
/-- Two with a sign between. -/
theorem bin_par {u op : ByteArray} {k q : Int} {A B : XT} (hop : op ∈ opsA) (hA : Par u .one 0 (.ok A k)) (hn : markAt u 0 ⟨#[45]⟩ < 0) (hw : wordAt u 0 ≠ notS) (hd : markAt u k ⟨#[46]⟩ < 0) (hq : markAt u k ⟨#[91]⟩ < 0) (hno : ∀ m : Nat, m ≤ 5 → lvOf op < m → betw u k m = none) (hyes : betw u k (lvOf op) = some (op, q))
    (hB : Par u .one q (.ok B u.size)) (hn2 : markAt u q ⟨#[45]⟩ < 0) (hw2 : wordAt u q ≠ notS) : Par u (.lev 0) 0 (.ok (binT op A B) u.size) := by
  have e := fun m => betw_endn (s := u) m
  have lA := climb hA hn hw hd hq (lvOf op) hno
  have l6 : Par u (.lev 6) q (.ok B u.size) := .neg_no hn2 (.part_ok hB (.parts_end (mark_endn (by decide)) (mark_endn (by decide))))
  have go : ∀ {i : Int} {T : XT} (m : Nat), lv m → Par u (.lev (m + 1)) i (.ok T u.size) → Par u (.lev m) i (.ok T u.size) := fun m hm h => .lev_ok hm h (.more_end (e m))
  have l5 := go 5 lv_5 l6
  have l4 := go 4 lv_4 l5
  have l3 := go 3 lv_3 l4
  have l2 : Par u (.lev 2) q (.ok B u.size) := .not_no hw2 l3
  have l1 := go 1 lv_1 l2
  have two : ∀ {n : Nat}, lv n → n ≠ 3 → betw u k n = some (op, q) → Par u (.lev (n + 1)) 0 (.ok A k) → Par u (.lev (n + 1)) q (.ok B u.size) → Par u (.lev n) 0 (.ok (binT op A B) u.size) := fun hn h3 hy a b => .lev_ok hn a (.more_on h3 hy b (.more_end (e _)))
  have hl : lvOf op = 0 ∨ lvOf op = 1 ∨ lvOf op = 3 ∨ lvOf op = 4 ∨ lvOf op = 5 := by
    unfold lvOf; repeat' split
    all_goals omega
  rcases hl with h | h | h | h | h
  · rw [h] at hyes lA
    exact two lv_0 (by decide) hyes (lA 1 (by omega) (by omega)) l1
  · rw [h] at hyes lA
    exact go 0 lv_0 (two lv_1 (by decide) hyes (lA 2 (by omega) (by omega)) l2)
  · rw [h] at hyes lA
    have x3 : Par u (.lev 3) 0 (.ok (binT op A B) u.size) := .lev_ok lv_3 (lA 4 (by omega) (by omega)) (.more_one hyes l4)
    exact go 0 lv_0 (go 1 lv_1 (.not_no hw x3))
  · rw [h] at hyes lA
    exact go 0 lv_0 (go 1 lv_1 (.not_no hw (go 3 lv_3 (two lv_4 (by decide) hyes (lA 5 (by omega) (by omega)) l5))))
  · rw [h] at hyes lA
    exact go 0 lv_0 (go 1 lv_1 (.not_no hw (go 3 lv_3 (go 4 lv_4 (two lv_5 (by decide) hyes (lA 6 (by omega) (by omega)) l6)))))
end Go.Proofs.YtdlkdecigpaaaaaGreatDoor
