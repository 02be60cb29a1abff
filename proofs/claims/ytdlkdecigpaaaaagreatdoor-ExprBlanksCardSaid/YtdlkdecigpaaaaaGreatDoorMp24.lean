/- Put together: The document's Blanks; The document's Next; All tokens of a text, in plain words. -/
import Derived.Test.YtdlkdecigpaaaaaGreatDoorMp8
import Derived.Test.YtdlkdecigpaaaaaGreatDoorMp20
import Derived.Test.YtdlkdecigpaaaaaGreatDoorMp14
import Derived.Test.YtdlkdecigpaaaaaGreatDoorMp23
namespace Go.Proofs.YtdlkdecigpaaaaaGreatDoor
set_option linter.unusedVariables false
set_option linter.unusedSimpArgs false
open Go.RowKit

set_option maxRecDepth 20000 in
set_option maxHeartbeats 2000000 in
theorem blanks5_any (s : ByteArray) (i : Int) (w : World) (h0 : 0 ≤ i) (hi : i ≤ s.size) (hs : s.size ≤ 1000000) :
    Calls Tryz.prog 30 #[.string s, .int .i64 i] w fun e w' => e = .returned (.int .i64 (blanks s i)) ∧ w = w' := by
  go_enter Tryz.func30, Tryz.ntmps30
  go_wp2
  go_loop [1] (fun t => ∃ j : Int, 0 ≤ j ∧ j ≤ s.size ∧ t = .int .i64 j ∧ Hid (blanks s i = blanks s j)) (fun t => s.size - (intOf t).toNat)
  case atStart => exact ⟨i, h0, hi, rfl, Lib.hid rfl⟩
  case round =>
    obtain ⟨j, hj, hjs, rfl, H⟩ := hrel
    have HI := Lib.hid (fun c => is5_any s j c w hj)
    have HB : Hid (isBlank s j = (isAt s j 32 || (isAt s j 9 || (isAt s j 10 || isAt s j 13)))) := Lib.hid rfl
    have HS := Lib.hid (fun (h : isBlank s j = true) (hl : j < s.size) => H.out.trans (upTo_step hj h hl))
    have HL := Lib.hid (fun c (h : isAt s j c = true) => isAt_lt h)
    cases c1 : isAt s j 32 with
    | true =>
      have HE := Lib.hid (HS.out (by rw [HB.out, c1]; rfl) (HL.out _ c1))
      have hl := HL.out _ c1
      go_wp2_with (go_at_call 56; refine (HI.out _).mono ?_; rintro e w' ⟨rfl, rfl⟩)
      go_round
      case rel => exact ⟨j + 1, by omega, by omega, rfl, HE⟩
      case measure => simp [intOf]; omega
    | false =>
      cases c2 : isAt s j 9 with
      | true =>
        have HE := Lib.hid (HS.out (by rw [HB.out, c1, c2]; rfl) (HL.out _ c2))
        have hl := HL.out _ c2
        go_wp2_with (go_at_call 56; refine (HI.out _).mono ?_; rintro e w' ⟨rfl, rfl⟩)
        go_round
        case rel => exact ⟨j + 1, by omega, by omega, rfl, HE⟩
        case measure => simp [intOf]; omega
      | false =>
        cases c3 : isAt s j 10 with
        | true =>
          have HE := Lib.hid (HS.out (by rw [HB.out, c1, c2, c3]; rfl) (HL.out _ c3))
          have hl := HL.out _ c3
          go_wp2_with (go_at_call 56; refine (HI.out _).mono ?_; rintro e w' ⟨rfl, rfl⟩)
          go_round
          case rel => exact ⟨j + 1, by omega, by omega, rfl, HE⟩
          case measure => simp [intOf]; omega
        | false =>
          cases c4 : isAt s j 13 with
          | true =>
            have HE := Lib.hid (HS.out (by rw [HB.out, c1, c2, c3, c4]; rfl) (HL.out _ c4))
            have hl := HL.out _ c4
            go_wp2_with (go_at_call 56; refine (HI.out _).mono ?_; rintro e w' ⟨rfl, rfl⟩)
            go_round
            case rel => exact ⟨j + 1, by omega, by omega, rfl, HE⟩
            case measure => simp [intOf]; omega
          | false =>
            have HE := Lib.hid (H.out.trans (upTo_stop (p := isBlank s) (by rw [HB.out, c1, c2, c3, c4]; rfl)))
            go_wp2_with (go_at_call 56; refine (HI.out _).mono ?_; rintro e w' ⟨rfl, rfl⟩)
            go_ret
            exact ⟨ret_i64 HE.out.symm, rfl⟩
end Go.Proofs.YtdlkdecigpaaaaaGreatDoor
namespace Go.Proofs.YtdlkdecigpaaaaaGreatDoor
set_option linter.unusedVariables false
set_option linter.unusedSimpArgs false
open Go.RowKit

theorem textF_ok (s : ByteArray) : ∀ (k : Nat) (i : Int) (acc : List Int), 0 ≤ i → (∀ x ∈ acc, pointB x = true) → (∀ x ∈ (textF s k i acc).1, pointB x = true) ∧ (textF s k i acc).1.length ≤ acc.length + k
  | 0, i, acc, _, h => by simp [textF]
  | k + 1, i, acc, h0, h => by
    unfold textF
    by_cases c1 : ¬ i < s.size ∨ bt s i < 32
    · rw [if_pos c1]; simp
    · rw [if_neg c1]
      by_cases c2 : bt s i = 34
      · rw [if_pos c2]; exact ⟨h, by simp⟩
      · rw [if_neg c2]
        by_cases c3 : bt s i = 92
        · rw [if_pos c3]
          by_cases c4 : (escape s i).2.2 = 0
          · rw [if_pos c4]
            have ho := escape_ok h0 c4 (by omega)
            obtain ⟨a, b⟩ := textF_ok s k (escape s i).2.1 (acc ++ [(escape s i).1]) (by omega) (fun x hx => by
              rcases List.mem_append.1 hx with hx | hx
              · exact h x hx
              · simp at hx; subst hx; exact ho.2.2)
            exact ⟨a, by rw [List.length_append] at b; simp at b; omega⟩
          · rw [if_neg c4]; simp
        · rw [if_neg c3]
          by_cases c4 : (first s i).2 = 0
          · rw [if_pos c4]; simp
          · rw [if_neg c4]
            have ho := first_range (s := s) (i := i)
            obtain ⟨a, b⟩ := textF_ok s k (i + (first s i).2) (acc ++ [(first s i).1]) (by omega) (fun x hx => by
              rcases List.mem_append.1 hx with hx | hx
              · exact h x hx
              · simp at hx; subst hx
                rcases ho with ho | ho
                · exact absurd ho.1 c4
                · exact ho.2.2.2)
            exact ⟨a, by rw [List.length_append] at b; simp at b; omega⟩
theorem textOf_ok (s : ByteArray) (p : Int) (h0 : 0 ≤ p) : (∀ x ∈ (textOf s p).1, pointB x = true) ∧ (textOf s p).1.length ≤ s.size + 1 := by
  obtain ⟨a, b⟩ := textF_ok s (s.size + 1 - (p + 1).toNat) (p + 1) [] (by omega) (by simp)
  exact ⟨a, Nat.le_trans b (by simp)⟩
theorem numberE_range {s : ByteArray} {c : Int} {pl : Bool} (h0 : 0 ≤ c) (h1 : c ≤ s.size) : c ≤ (numberE s c pl).1 ∧ (numberE s c pl).1 ≤ s.size := by
  unfold numberE
  split
  · rename_i h
    have hl : c < s.size := by rw [Bool.or_eq_true] at h; rcases h with h | h <;> exact isAt_lt h
    have hx : c + 1 ≤ expSign s (c + 1) ∧ expSign s (c + 1) ≤ s.size := by
      unfold expSign; split
      · rename_i h2
        have : c + 1 < s.size := by rw [Bool.or_eq_true] at h2; rcases h2 with h2 | h2 <;> exact isAt_lt h2
        omega
      · omega
    split
    · rename_i h2; have := digitsEnd_yes (by omega) h2; simp only; omega
    · simp only; omega
  · simp only; omega
theorem numberF_range {s : ByteArray} {p : Int} (h0 : 0 ≤ p) (h1 : p ≤ s.size) : p ≤ (numberF s p).1 ∧ (numberF s p).1 ≤ s.size := by
  have ha : p ≤ signEnd s p ∧ signEnd s p ≤ s.size := by
    unfold signEnd; split
    · rename_i h; have := isAt_lt h; omega
    · omega
  unfold numberF
  split
  · rename_i hd
    have hy := digitsEnd_yes (by omega) hd
    have hdl := digitAt_lt hd
    have hb : signEnd s p ≤ wholeEnd s (signEnd s p) ∧ wholeEnd s (signEnd s p) ≤ s.size := by unfold wholeEnd; split <;> omega
    generalize wholeEnd s (signEnd s p) = b at *
    unfold numberD
    split
    · rename_i hdot
      have := isAt_lt hdot
      split
      · rename_i h2
        have h3 := digitsEnd_yes (by omega) h2
        have h4 := numberE_range (s := s) (c := digitsEnd s (b + 1)) (pl := false) (by omega) h3.2
        omega
      · simp only; omega
    · have h4 := numberE_range (s := s) (c := b) (pl := true) (by omega) hb.2
      omega
  · simp only; omega
theorem mark_is : ∀ k : Nat, k < 6 → markB (bt marksS k) = true := by decide +kernel
theorem mark_not {c : Int} (h : ∀ k : Nat, k < 6 → ¬ bt marksS k = c) : markB c = false := by
  have h0 := h 0 (by omega); have h1 := h 1 (by omega); have h2 := h 2 (by omega); have h3 := h 3 (by omega); have h4 := h 4 (by omega); have h5 := h 5 (by omega)
  have e0 : bt marksS (0 : Nat) = 123 := by decide +kernel
  have e1 : bt marksS (1 : Nat) = 125 := by decide +kernel
  have e2 : bt marksS (2 : Nat) = 91 := by decide +kernel
  have e3 : bt marksS (3 : Nat) = 93 := by decide +kernel
  have e4 : bt marksS (4 : Nat) = 58 := by decide +kernel
  have e5 : bt marksS (5 : Nat) = 44 := by decide +kernel
  rw [e0] at h0; rw [e1] at h1; rw [e2] at h2; rw [e3] at h3; rw [e4] at h4; rw [e5] at h5
  unfold markB
  simp
  omega
theorem mark_text {k : Nat} (h : k < 6) : marksS.extract k (k + 1) = byteS (bt marksS k) := by
  have hk : k < marksS.size := h
  rw [byte_cut hk]
  unfold byteS
  have := bt_nat marksS k hk
  rw [show (bt marksS k).toNat.toUInt8 = marksS[k]'hk from by rw [← this]; simp]
/-- What the document's Next answers. -/
def Next5Says (r : Tk × Int × Int) (w : World) (e' : Ending) (w' : World) : Prop :=
  e' = .returned (.tuple #[.agg r.1.cells, .int .i64 r.2.1, .int .i64 r.2.2]) ∧ Below w.heap.size w w'
/-- The result's block is as it was made. -/
def ResAt (w W : World) : Prop := W.heap[w.heap.size]? = some (.cells Tk.zero.cells 143 (0, 0)) ∧ Below w.heap.size w W
theorem ResAt.step {w W W1 : World} (h : ResAt w W) (hb : Below W.heap.size W W1) : ResAt w W1 := ⟨hk_below h.1 hb, bl_step h.2 hb⟩
theorem ResAt.drewN {w W : World} (h : ResAt w W) (n : Nat) : ResAt w (W.drewN n) := ⟨h.1, bl_drewN h.2 n⟩
theorem bl_set5 {w W : World} {a b c d e : Value} (h : Below w.heap.size w W) : Below w.heap.size w (((((W.setCell ⟨w.heap.size, 0, none⟩ a).setCell ⟨w.heap.size, 1, none⟩ b).setCell ⟨w.heap.size, 2, none⟩ c).setCell ⟨w.heap.size, 3, none⟩ d).setCell ⟨w.heap.size, 4, none⟩ e) :=
  bl_set (bl_set (bl_set (bl_set (bl_set h (Nat.le_refl _) _) (Nat.le_refl _) _) (Nat.le_refl _) _) (Nat.le_refl _) _) (Nat.le_refl _) _
/-- The result's block, and the words'. -/
structure WAt (w : World) (b : Nat) (W : World) : Prop where
  res : ResAt w W
  arr : W.heap[b]? = some (.cells #[.string ⟨#[116, 114, 117, 101]⟩, .string ⟨#[102, 97, 108, 115, 101]⟩, .string ⟨#[110, 117, 108, 108]⟩] 185 (0, 0))
theorem WAt.drewN {w W : World} {b : Nat} (h : WAt w b W) (n : Nat) : WAt w b (W.drewN n) := ⟨h.res.drewN n, h.arr⟩
set_option maxRecDepth 100000 in
set_option maxHeartbeats 8000000 in
theorem next5_any (s : ByteArray) (i : Int) (w : World) (h0 : 0 ≤ i) (h1 : i ≤ s.size) (hs : s.size ≤ 4000) :
    Calls Tryz.prog 89 #[.string s, .int .i64 i] w (Next5Says (nextF s i) w) := by
  have HBL := Lib.hid (fun W => blanks5_any s i W h0 h1 (by omega))
  have hq0 : i ≤ blanks s i ∧ blanks s i ≤ s.size := ⟨upTo_ge, upTo_le h0 h1⟩
  obtain ⟨hq0, hq1⟩ := hq0
  have HN : Hid (nextF s i = if blanks s i < s.size then tokF s (blanks s i) else (⟨0, ByteArray.empty, 0, blanks s i, blanks s i⟩, 0, 0)) := Lib.hid rfl
  have hq00 : 0 ≤ blanks s i := by omega
  generalize nextF s i = r at *
  generalize blanks s i = q at *
  have H0 : Hid (ResAt w (w.alloc (.cells Tk.zero.cells 143))) := Lib.hid ⟨new_blk _ _, bl_alloc (Below.refl _ _) _⟩
  by_cases hq : q < s.size
  · have HT : Hid (r = if markB (bt s q) = true then markF s q else if bt s q = 34 then strF s q else if (bt s q == 45 || digitB (bt s q)) = true then numF s q else wordF s q) := Lib.hid (by rw [HN.out, if_pos hq]; rfl)
    have hbq := bt_at s q
    clear HN
    go_enter Tryz.func89, Tryz.ntmps89
    go_wp2_with (go_at_call 30; refine (HBL.out _).mono ?_; rintro e' W ⟨rfl, rfl⟩)
    go_loopw [8] (fun t W => ∃ k : Nat, k ≤ 6 ∧ t = .int .i64 k ∧ Hid (ResAt w W ∧ ∀ j : Nat, j < k → ¬ bt marksS j = bt s q)) (fun t _ => 6 - (intOf t).toNat)
    case atStart => exact ⟨0, by omega, rfl, Lib.hid ⟨H0.out, fun j h => by omega⟩⟩
    case round =>
      obtain ⟨k, hk, rfl, H⟩ := hrel
      have rc := cell_blk H.out.1.1
      have rf := frozen_blk H.out.1.1
      unfold Tk.zero Tk.cells at rc
      by_cases hlt : k < 6
      · have hI : (k : Int) < 6 := by omega
        have hm := bt_nat marksS k
        unfold marksS at hm
        have HMT := Lib.hid (mark_text hlt)
        have HMI := Lib.hid (mark_is k hlt)
        have HME : Hid (bt marksS k = bt ⟨#[123, 125, 91, 93, 58, 44]⟩ (k : Int)) := Lib.hid rfl
        generalize hmm : bt ⟨#[123, 125, 91, 93, 58, 44]⟩ (k : Int) = m at *
        clear hmm
        by_cases he : bt s q = m
        · have HZ : Hid (r = markF s q) := Lib.hid (by rw [HT.out, if_pos (by rw [he, ← HME.out]; exact HMI.out)])
          have HZ2 : Hid (byteS (bt s q) = marksS.extract k (k + 1)) := Lib.hid (by rw [HMT.out, he, HME.out])
          have hb : (bt s q == m) = true := by simp [he]
          clear he
          go_upto_region 8 with (fail)
          go_quiet (fail)
          go_wp2
          refine bodyPost_ret (v := .tuple #[.agg #[.int .i64 1, .string (marksS.extract k (k + 1)), .int .i64 0, .int .i64 q, .int .i64 (q + 1)], .int .i64 0, .int .i64 0]) (by simp [results, Tryz.results89, go_sem, rc, marksS]) rfl ?_
          rw [HZ.out]
          unfold markF
          rw [HZ2.out]
          exact ⟨rfl, bl_set5 (bl_drewN H.out.1.2 _)⟩
        · have hb : (bt s q == m) = false := by simp [he]
          have HE : Hid (¬ bt marksS k = bt s q) := Lib.hid (by rw [HME.out]; exact fun h => he h.symm)
          clear he
          go_upto_region 8 with (fail)
          go_quiet (fail)
          go_wp2
          go_roundw
          case rel => exact ⟨k + 1, by omega, by go_num, Lib.hid ⟨H.out.1.drewN _, fun j hj => by
            by_cases e : j = k
            · subst e; exact HE.out
            · exact H.out.2 j (by omega)⟩⟩
          case measure => simp [intOf]; omega
      · obtain rfl : k = 6 := by omega
        have HM := Lib.hid (mark_not H.out.2)
        have HT1 := Lib.hid (HT.out.trans (if_neg (by rw [HM.out]; simp)))
        have HR1 : Hid (ResAt w wr) := Lib.hid H.out.1
        clear HT HM H
        by_cases c34 : bt s q = 34
        · have HZ : Hid (r = strF s q) := Lib.hid (HT1.out.trans (if_pos c34))
          have hb34 : (bt s q == 34) = true := by simp [c34]
          have HX := Lib.hid (text5_any s q wr hq00 (by omega) hq)
          have HOK := Lib.hid (textOf_ok s q hq00)
          have HSF : Hid (strF s q = if (textOf s q).2.2 = 0 then (⟨2, textS (textOf s q).1, 0, q, (textOf s q).2.1⟩, 0, 0) else (Tk.zero, (textOf s q).2.1, (textOf s q).2.2)) := Lib.hid rfl
          generalize textOf s q = x at *
          obtain ⟨l, e1, code⟩ := x
          simp only at HOK HSF
          clear c34 HT1
          go_wp2_with fail
          refine HX.out.mono ?_
          rintro e' w2 ⟨v, rfl, hown, hb2⟩

          have HO := Lib.hid hown
          have HR2 := Lib.hid (HR1.out.step hb2)
          have rc := cell_blk HR2.out.1
          have rf := frozen_blk HR2.out.1
          unfold Tk.zero Tk.cells at rc
          clear hown hb2 HX
          by_cases c5 : code = 0
          · subst c5
            have HT2 := Lib.hid (fun W (hb : Below w2.heap.size w2 W) => text1_any l wr.heap.size v W HOK.out.1 (own_below HO.out hb) (by have := HOK.out.2; omega))
            have HT3 := Lib.hid (HT2.out w2 (Below.refl _ _))
            have HZ2 : Hid (r = (⟨2, textS l, 0, q, e1⟩, 0, 0)) := Lib.hid (by rw [HZ.out, HSF.out, if_pos rfl])
            clear HZ HSF HT2
            go_wp2_with fail
            refine HT3.out.mono ?_
            rintro e' w3 ⟨rfl, hb3⟩
            have HR3 := Lib.hid (HR2.out.step hb3)
            have rc := cell_blk HR3.out.1
            have rf := frozen_blk HR3.out.1
            unfold Tk.zero Tk.cells at rc
            clear hb3
            go_wp2
            refine bodyPost_ret (v := .tuple #[.agg #[.int .i64 2, .string (textS l), .int .i64 0, .int .i64 q, .int .i64 e1], .int .i64 0, .int .i64 0]) (by simp [results, Tryz.results89, go_sem, rc]) rfl ?_
            rw [HZ2.out]
            exact ⟨rfl, bl_set5 HR3.out.2⟩
          · have hcb : (code != 0) = true := by simp [c5]
            have HZ2 : Hid (r = (Tk.zero, e1, code)) := Lib.hid (by rw [HZ.out, HSF.out, if_neg c5])
            clear c5 HZ HSF
            go_wp2
            refine bodyPost_ret (v := .tuple #[.agg #[.int .i64 0, .string ⟨#[]⟩, .int .i64 0, .int .i64 0, .int .i64 0], .int .i64 e1, .int .i64 code]) (by simp [results, Tryz.results89, go_sem, rc]) rfl ?_
            rw [HZ2.out]
            exact ⟨rfl, bl_set5 HR2.out.2⟩
        · have HT2 := Lib.hid (HT1.out.trans (if_neg c34))
          have hb34 : (bt s q == 34) = false := by simp [c34]
          have HDG := Lib.hid (fun W => digit5_any s q W hq00)
          clear c34 HT1
          have hdg : digitAt s q = digitB (bt s q) := by simp [digitAt, hq]
          have HDE := Lib.hid hdg
          clear hdg
          cases c45 : (bt s q == 45) with
          | true =>
            have HZ : Hid (r = numF s q) := Lib.hid (HT2.out.trans (if_pos (by rw [c45]; rfl)))
            clear HT2
            have HNU := Lib.hid (fun W => (show Calls Tryz.prog 126 #[.string s, .int .i64 q] W fun e w' => e = .returned (.tuple #[.int .i64 (numberF s q).1, .bool (numberF s q).2.1, .bool (numberF s q).2.2]) ∧ W = w' from number5_any s q W hq00 hq1 (by omega)))
            have hnr := numberF_range (s := s) hq00 hq1
            have HNF : Hid (numF s q = if (numberF s q).2.2 = false then (Tk.zero, (numberF s q).1, 1) else if (numberF s q).2.1 = false then (Tk.zero, q, 4) else if fitsF (cutS s q (numberF s q).1) = true then (⟨3, ByteArray.empty, numZ (cutS s q (numberF s q).1), q, (numberF s q).1⟩, 0, 0) else (Tk.zero, q, 4)) := Lib.hid rfl
            generalize numberF s q = x at *
            obtain ⟨en, pl, ok⟩ := x
            simp only at HNF hnr HNU
            obtain ⟨hn0, hn1⟩ := hnr
            have rc := cell_blk HR1.out.1
            have rf := frozen_blk HR1.out.1
            unfold Tk.zero Tk.cells at rc
            cases ok with
            | false =>
              have HZ2 : Hid (r = (Tk.zero, en, 1)) := Lib.hid (by rw [HZ.out, HNF.out, if_pos rfl])
              go_wp2_with (go_at_call 126; refine (HNU.out _).mono ?_; rintro e' W' ⟨rfl, rfl⟩)
              refine bodyPost_ret (v := .tuple #[.agg #[.int .i64 0, .string ⟨#[]⟩, .int .i64 0, .int .i64 0, .int .i64 0], .int .i64 en, .int .i64 1]) (by simp [results, Tryz.results89, go_sem, rc]) rfl ?_
              rw [HZ2.out]
              exact ⟨rfl, bl_set5 HR1.out.2⟩
            | true =>
              cases pl with
              | false =>
                have HZ2 : Hid (r = (Tk.zero, q, 4)) := Lib.hid (by rw [HZ.out, HNF.out, if_neg (by simp), if_pos rfl])
                go_wp2_with (go_at_call 126; refine (HNU.out _).mono ?_; rintro e' W' ⟨rfl, rfl⟩)
                refine bodyPost_ret (v := .tuple #[.agg #[.int .i64 0, .string ⟨#[]⟩, .int .i64 0, .int .i64 0, .int .i64 0], .int .i64 q, .int .i64 4]) (by simp [results, Tryz.results89, go_sem, rc]) rfl ?_
                rw [HZ2.out]
                exact ⟨rfl, bl_set5 HR1.out.2⟩
              | true =>
                have HZ1 : Hid (r = if fitsF (cutS s q en) = true then (⟨3, ByteArray.empty, numZ (cutS s q en), q, en⟩, 0, 0) else (Tk.zero, q, 4)) := Lib.hid (by rw [HZ.out, HNF.out, if_neg (by simp), if_neg (by simp)])
                have hcz : (cutS s q en).size ≤ 5000 := by rw [ByteArray.size_extract]; omega
                have HPF := Lib.hid (fun W h => parse5_form (cutS s q en) W hcz h)
                have HPN := Lib.hid (fun W h => parse5_num (cutS s q en) W hcz h)
                have HFD : Hid (fitsF (cutS s q en) = (formB (cutS s q en) && fitsB (numZ (cutS s q en)))) := Lib.hid rfl
                clear HZ HNF hcz
                go_wp2_with (go_at_call 126; refine (HNU.out _).mono ?_; rintro e' W' ⟨rfl, rfl⟩)
                cases hf : formB (cutS s q en) with
                | false =>
                  have HZ2 : Hid (r = (Tk.zero, q, 4)) := Lib.hid (by rw [HZ1.out, HFD.out, hf, if_neg (by simp)])
                  have HC := Lib.hid (HPF.out wr hf)
                  unfold zeroN at HC
                  clear hf HPF HPN HFD HZ1
                  refine HC.out.mono ?_
                  rintro e' w4 ⟨rfl, hb4⟩
                  have HR4 := Lib.hid (HR1.out.step hb4)
                  have rc := cell_blk HR4.out.1
                  have rf := frozen_blk HR4.out.1
                  unfold Tk.zero Tk.cells at rc
                  have hr4 := hk_lt HR4.out.1
                  clear hb4 HC
                  go_wp2
                  refine bodyPost_ret (v := .tuple #[.agg #[.int .i64 0, .string ⟨#[]⟩, .int .i64 0, .int .i64 0, .int .i64 0], .int .i64 q, .int .i64 4]) (by simp [results, Tryz.results89, go_sem, rc, hr4, World.cell?_alloc_lt]) rfl ?_
                  rw [HZ2.out]
                  exact ⟨rfl, bl_alloc (bl_set5 HR4.out.2) _⟩
                | true =>
                  have HC := Lib.hid (HPN.out wr hf)
                  cases hz : fitsB (numZ (cutS s q en)) with
                  | false =>
                    have HZ2 : Hid (r = (Tk.zero, q, 4)) := Lib.hid (by rw [HZ1.out, HFD.out, hf, hz, if_neg (by simp)])
                    rw [hz] at HC
                    clear hf hz HPF HPN HFD HZ1
                    refine HC.out.mono ?_
                    rintro e' w4 ⟨v, rfl, hv, hb4⟩
                    simp only [Bool.false_eq_true, if_false] at hv
                    unfold zeroN at hv
                    subst hv
                    have HR4 := Lib.hid (HR1.out.step hb4)
                    have rc := cell_blk HR4.out.1
                    have rf := frozen_blk HR4.out.1
                    unfold Tk.zero Tk.cells at rc
                    have hr4 := hk_lt HR4.out.1
                    clear hb4 HC
                    go_wp2
                    refine bodyPost_ret (v := .tuple #[.agg #[.int .i64 0, .string ⟨#[]⟩, .int .i64 0, .int .i64 0, .int .i64 0], .int .i64 q, .int .i64 4]) (by simp [results, Tryz.results89, go_sem, rc, hr4, World.cell?_alloc_lt]) rfl ?_
                    rw [HZ2.out]
                    exact ⟨rfl, bl_alloc (bl_set5 HR4.out.2) _⟩
                  | true =>
                    have HZ2 : Hid (r = (⟨3, ByteArray.empty, numZ (cutS s q en), q, en⟩, 0, 0)) := Lib.hid (by rw [HZ1.out, HFD.out, hf, hz, Bool.and_self, if_pos rfl])
                    have hzr := fitsB_range hz
                    rw [hz] at HC
                    clear hf hz HPF HPN HFD HZ1
                    generalize numZ (cutS s q en) = z at *
                    refine HC.out.mono ?_
                    rintro e' w4 ⟨v, rfl, hv, hb4⟩
                    simp only [if_true] at hv
                    have HNV := Lib.hid hv
                    obtain ⟨v1, A1, n1, k1, rfl⟩ := hv.shape
                    have HR4 := Lib.hid (HR1.out.step hb4)
                    have rc := cell_blk HR4.out.1
                    have rf := frozen_blk HR4.out.1
                    unfold Tk.zero Tk.cells at rc
                    have hr4 := hk_lt HR4.out.1
                    have HIN := Lib.hid (fun W (hb : Below w4.heap.size w4 W) => int_any (.agg #[.bool v1, .slice A1 n1 k1]) z W (HNV.out.below hb) hzr.1 hzr.2)
                    have HIN2 := Lib.hid (HIN.out (w4.alloc (.cells #[.bool v1, .slice A1 n1 k1] 155)) (bl_alloc (Below.refl _ _) _))
                    clear hb4 HC hv HIN hzr
                    go_wp2_with fail
                    refine HIN2.out.mono ?_
                    rintro e' w5 ⟨rfl, hb5⟩
                    have HR5 := Lib.hid ((HR4.out.step (bl_alloc (Below.refl _ _) (.cells #[.bool v1, .slice A1 n1 k1] 155))).step hb5)
                    clear hb5 HIN2
                    have rc := cell_blk HR5.out.1
                    have rf := frozen_blk HR5.out.1
                    unfold Tk.zero Tk.cells at rc
                    go_wp2
                    refine bodyPost_ret (v := .tuple #[.agg #[.int .i64 3, .string ⟨#[]⟩, .int .i64 z, .int .i64 q, .int .i64 en], .int .i64 0, .int .i64 0]) (by simp [results, Tryz.results89, go_sem, rc]) rfl ?_
                    rw [HZ2.out]
                    exact ⟨rfl, bl_set5 HR5.out.2⟩
          | false =>
            cases cd : digitB (bt s q) with
            | true =>
              have HZ : Hid (r = numF s q) := Lib.hid (HT2.out.trans (if_pos (by rw [c45, cd]; rfl)))
              rw [HDE.out, cd] at HDG
              clear HT2 cd
              have HNU := Lib.hid (fun W => (show Calls Tryz.prog 126 #[.string s, .int .i64 q] W fun e w' => e = .returned (.tuple #[.int .i64 (numberF s q).1, .bool (numberF s q).2.1, .bool (numberF s q).2.2]) ∧ W = w' from number5_any s q W hq00 hq1 (by omega)))
              have hnr := numberF_range (s := s) hq00 hq1
              have HNF : Hid (numF s q = if (numberF s q).2.2 = false then (Tk.zero, (numberF s q).1, 1) else if (numberF s q).2.1 = false then (Tk.zero, q, 4) else if fitsF (cutS s q (numberF s q).1) = true then (⟨3, ByteArray.empty, numZ (cutS s q (numberF s q).1), q, (numberF s q).1⟩, 0, 0) else (Tk.zero, q, 4)) := Lib.hid rfl
              generalize numberF s q = x at *
              obtain ⟨en, pl, ok⟩ := x
              simp only at HNF hnr HNU
              obtain ⟨hn0, hn1⟩ := hnr
              have rc := cell_blk HR1.out.1
              have rf := frozen_blk HR1.out.1
              unfold Tk.zero Tk.cells at rc
              cases ok with
              | false =>
                have HZ2 : Hid (r = (Tk.zero, en, 1)) := Lib.hid (by rw [HZ.out, HNF.out, if_pos rfl])
                go_wp2_with (first | (go_at_call 125; refine (HDG.out _).mono ?_; rintro e' W' ⟨rfl, rfl⟩) | (go_at_call 126; refine (HNU.out _).mono ?_; rintro e' W' ⟨rfl, rfl⟩))
                refine bodyPost_ret (v := .tuple #[.agg #[.int .i64 0, .string ⟨#[]⟩, .int .i64 0, .int .i64 0, .int .i64 0], .int .i64 en, .int .i64 1]) (by simp [results, Tryz.results89, go_sem, rc]) rfl ?_
                rw [HZ2.out]
                exact ⟨rfl, bl_set5 HR1.out.2⟩
              | true =>
                cases pl with
                | false =>
                  have HZ2 : Hid (r = (Tk.zero, q, 4)) := Lib.hid (by rw [HZ.out, HNF.out, if_neg (by simp), if_pos rfl])
                  go_wp2_with (first | (go_at_call 125; refine (HDG.out _).mono ?_; rintro e' W' ⟨rfl, rfl⟩) | (go_at_call 126; refine (HNU.out _).mono ?_; rintro e' W' ⟨rfl, rfl⟩))
                  refine bodyPost_ret (v := .tuple #[.agg #[.int .i64 0, .string ⟨#[]⟩, .int .i64 0, .int .i64 0, .int .i64 0], .int .i64 q, .int .i64 4]) (by simp [results, Tryz.results89, go_sem, rc]) rfl ?_
                  rw [HZ2.out]
                  exact ⟨rfl, bl_set5 HR1.out.2⟩
                | true =>
                  have HZ1 : Hid (r = if fitsF (cutS s q en) = true then (⟨3, ByteArray.empty, numZ (cutS s q en), q, en⟩, 0, 0) else (Tk.zero, q, 4)) := Lib.hid (by rw [HZ.out, HNF.out, if_neg (by simp), if_neg (by simp)])
                  have hcz : (cutS s q en).size ≤ 5000 := by rw [ByteArray.size_extract]; omega
                  have HPF := Lib.hid (fun W h => parse5_form (cutS s q en) W hcz h)
                  have HPN := Lib.hid (fun W h => parse5_num (cutS s q en) W hcz h)
                  have HFD : Hid (fitsF (cutS s q en) = (formB (cutS s q en) && fitsB (numZ (cutS s q en)))) := Lib.hid rfl
                  clear HZ HNF hcz
                  go_wp2_with (first | (go_at_call 125; refine (HDG.out _).mono ?_; rintro e' W' ⟨rfl, rfl⟩) | (go_at_call 126; refine (HNU.out _).mono ?_; rintro e' W' ⟨rfl, rfl⟩))
                  cases hf : formB (cutS s q en) with
                  | false =>
                    have HZ2 : Hid (r = (Tk.zero, q, 4)) := Lib.hid (by rw [HZ1.out, HFD.out, hf, if_neg (by simp)])
                    have HC := Lib.hid (HPF.out wr hf)
                    unfold zeroN at HC
                    clear hf HPF HPN HFD HZ1
                    refine HC.out.mono ?_
                    rintro e' w4 ⟨rfl, hb4⟩
                    have HR4 := Lib.hid (HR1.out.step hb4)
                    have rc := cell_blk HR4.out.1
                    have rf := frozen_blk HR4.out.1
                    unfold Tk.zero Tk.cells at rc
                    have hr4 := hk_lt HR4.out.1
                    clear hb4 HC
                    go_wp2
                    refine bodyPost_ret (v := .tuple #[.agg #[.int .i64 0, .string ⟨#[]⟩, .int .i64 0, .int .i64 0, .int .i64 0], .int .i64 q, .int .i64 4]) (by simp [results, Tryz.results89, go_sem, rc, hr4, World.cell?_alloc_lt]) rfl ?_
                    rw [HZ2.out]
                    exact ⟨rfl, bl_alloc (bl_set5 HR4.out.2) _⟩
                  | true =>
                    have HC := Lib.hid (HPN.out wr hf)
                    cases hz : fitsB (numZ (cutS s q en)) with
                    | false =>
                      have HZ2 : Hid (r = (Tk.zero, q, 4)) := Lib.hid (by rw [HZ1.out, HFD.out, hf, hz, if_neg (by simp)])
                      rw [hz] at HC
                      clear hf hz HPF HPN HFD HZ1
                      refine HC.out.mono ?_
                      rintro e' w4 ⟨v, rfl, hv, hb4⟩
                      simp only [Bool.false_eq_true, if_false] at hv
                      unfold zeroN at hv
                      subst hv
                      have HR4 := Lib.hid (HR1.out.step hb4)
                      have rc := cell_blk HR4.out.1
                      have rf := frozen_blk HR4.out.1
                      unfold Tk.zero Tk.cells at rc
                      have hr4 := hk_lt HR4.out.1
                      clear hb4 HC
                      go_wp2
                      refine bodyPost_ret (v := .tuple #[.agg #[.int .i64 0, .string ⟨#[]⟩, .int .i64 0, .int .i64 0, .int .i64 0], .int .i64 q, .int .i64 4]) (by simp [results, Tryz.results89, go_sem, rc, hr4, World.cell?_alloc_lt]) rfl ?_
                      rw [HZ2.out]
                      exact ⟨rfl, bl_alloc (bl_set5 HR4.out.2) _⟩
                    | true =>
                      have HZ2 : Hid (r = (⟨3, ByteArray.empty, numZ (cutS s q en), q, en⟩, 0, 0)) := Lib.hid (by rw [HZ1.out, HFD.out, hf, hz, Bool.and_self, if_pos rfl])
                      have hzr := fitsB_range hz
                      rw [hz] at HC
                      clear hf hz HPF HPN HFD HZ1
                      generalize numZ (cutS s q en) = z at *
                      refine HC.out.mono ?_
                      rintro e' w4 ⟨v, rfl, hv, hb4⟩
                      simp only [if_true] at hv
                      have HNV := Lib.hid hv
                      obtain ⟨v1, A1, n1, k1, rfl⟩ := hv.shape
                      have HR4 := Lib.hid (HR1.out.step hb4)
                      have rc := cell_blk HR4.out.1
                      have rf := frozen_blk HR4.out.1
                      unfold Tk.zero Tk.cells at rc
                      have hr4 := hk_lt HR4.out.1
                      have HIN := Lib.hid (fun W (hb : Below w4.heap.size w4 W) => int_any (.agg #[.bool v1, .slice A1 n1 k1]) z W (HNV.out.below hb) hzr.1 hzr.2)
                      have HIN2 := Lib.hid (HIN.out (w4.alloc (.cells #[.bool v1, .slice A1 n1 k1] 155)) (bl_alloc (Below.refl _ _) _))
                      clear hb4 HC hv HIN hzr
                      go_wp2_with fail
                      refine HIN2.out.mono ?_
                      rintro e' w5 ⟨rfl, hb5⟩
                      have HR5 := Lib.hid ((HR4.out.step (bl_alloc (Below.refl _ _) (.cells #[.bool v1, .slice A1 n1 k1] 155))).step hb5)
                      clear hb5 HIN2
                      have rc := cell_blk HR5.out.1
                      have rf := frozen_blk HR5.out.1
                      unfold Tk.zero Tk.cells at rc
                      go_wp2
                      refine bodyPost_ret (v := .tuple #[.agg #[.int .i64 3, .string ⟨#[]⟩, .int .i64 z, .int .i64 q, .int .i64 en], .int .i64 0, .int .i64 0]) (by simp [results, Tryz.results89, go_sem, rc]) rfl ?_
                      rw [HZ2.out]
                      exact ⟨rfl, bl_set5 HR5.out.2⟩
            | false =>
              have HZ : Hid (r = wordF s q) := Lib.hid (HT2.out.trans (if_neg (by rw [c45, cd]; simp)))
              rw [HDE.out, cd] at HDG
              clear HT2 cd
              have HWF : Hid (wordF s q = if bt s q = 116 then wordOf s q trueL 4 else if bt s q = 102 then wordOf s q falseL 5 else if bt s q = 110 then wordOf s q nullL 6 else (Tk.zero, q, 1)) := Lib.hid rfl
              have hwl := hk_lt HR1.out.1
              go_upto_region 26 with (first | (go_at_call 125; refine (HDG.out _).mono ?_; rintro e' W' ⟨rfl, rfl⟩))
              refine abs_world (fun W => Hid (WAt w wr.heap.size W)) (Lib.hid ⟨⟨hk_alloc HR1.out.1 _, bl_alloc HR1.out.2 _⟩, new_blk _ _⟩) ?_
              intro W0 HW0
              clear HR1 HDG HDE rc rf
              generalize wr.heap.size = b at *
              have ac0 := cell_blk HW0.out.arr
              have g0 : ∀ h : 0 < (⟨#[116, 114, 117, 101]⟩ : ByteArray).size, (((⟨#[116, 114, 117, 101]⟩ : ByteArray)[0]'h).toNat : Int) = 116 := fun _ => rfl
              have g1 : ∀ h : 0 < (⟨#[102, 97, 108, 115, 101]⟩ : ByteArray).size, (((⟨#[102, 97, 108, 115, 101]⟩ : ByteArray)[0]'h).toNat : Int) = 102 := fun _ => rfl
              have g2 : ∀ h : 0 < (⟨#[110, 117, 108, 108]⟩ : ByteArray).size, (((⟨#[110, 117, 108, 108]⟩ : ByteArray)[0]'h).toNat : Int) = 110 := fun _ => rfl
              by_cases d0 : bt s q = 116
              · have HZ2 : Hid (r = wordOf s q trueL 4) := Lib.hid (by rw [HZ.out, HWF.out, if_pos d0])
                have f0 : (bt s q != 116) = false := by simp [d0]
                clear HZ HWF d0
                go_wp2_with fail
                refine wp_loop_rounds 4 ?_
                rw [rounds_succ]
                go_upto_region 29 with (fail)
                go_quiet (fail)
                have HW1 := Lib.hid (HW0.out.drewN nq)
                generalize W0.drewN nq = W1 at HW1 ⊢
                have ac1 := cell_blk HW1.out.arr
                go_wp2
                clear g0 g1 g2
                go_loopw [19] (fun k W => ∃ n : Nat, n ≤ 4 ∧ k = .int .i64 n ∧ Hid (WAt w b W ∧ litF s q trueL = litF s (q + n) (trueL.drop n) ∧ q + n ≤ s.size)) (fun k _ => 4 - (intOf k).toNat)
                case atStart => exact ⟨0, by omega, rfl, Lib.hid ⟨HW1.out, by simp, by simp; omega⟩⟩
                case round =>
                  obtain ⟨n, hn, rfl, H⟩ := hrel
                  have acx := cell_blk H.out.1.arr
                  have rc := cell_blk H.out.1.res.1
                  have rf := frozen_blk H.out.1.res.1
                  unfold Tk.zero Tk.cells at rc
                  by_cases hlt : n < 4
                  · have HL := Lib.hid (H.out.2.1.trans (lit_true s (q + n) n hlt))
                    have hnI : (n : Int) < 4 := by omega
                    have hp0 : 0 ≤ q + (n : Int) := by omega
                    have hpn := H.out.2.2
                    have hm := bt_nat (⟨#[116, 114, 117, 101]⟩ : ByteArray) n
                    have hI := fun W => is5_any s (q + n) (bt ⟨#[116, 114, 117, 101]⟩ n) W hp0
                    cases c : isAt s (q + n) (bt ⟨#[116, 114, 117, 101]⟩ n) with
                    | true =>
                      rw [c] at hI
                      have HI := Lib.hid hI
                      have hlt2 := isAt_lt c
                      have HL2 := Lib.hid (HL.out.trans (by rw [c, if_pos rfl]))
                      clear c hI
                      generalize bt ⟨#[116, 114, 117, 101]⟩ (n : Int) = m at *
                      go_wp2_with (go_at_call 56; refine (HI.out _).mono ?_; rintro e' W' ⟨rfl, rfl⟩)
                      go_roundw
                      case rel => exact ⟨n + 1, by omega, by go_num, Lib.hid ⟨H.out.1, by rw [show q + ((n + 1 : Nat) : Int) = q + n + 1 from by omega]; exact HL2.out, by omega⟩⟩
                      case measure => simp [intOf]; omega
                    | false =>
                      rw [c] at hI
                      have HI := Lib.hid hI
                      have HZ3 : Hid (r = (Tk.zero, q + n, 1)) := Lib.hid (by
                        have hh : litF s q trueL = q + n := HL.out.trans (by rw [c]; rfl)
                        rw [HZ2.out]; unfold wordOf; rw [hh, if_neg (by omega)])
                      clear c hI HL
                      generalize bt ⟨#[116, 114, 117, 101]⟩ (n : Int) = m at *
                      go_wp2_with (go_at_call 56; refine (HI.out _).mono ?_; rintro e' W' ⟨rfl, rfl⟩)
                      refine bodyPost_ret (v := .tuple #[.agg #[.int .i64 0, .string ⟨#[]⟩, .int .i64 0, .int .i64 0, .int .i64 0], .int .i64 (q + n), .int .i64 1]) (by simp [results, Tryz.results89, go_sem, rc]) rfl ?_
                      rw [HZ3.out]
                      exact ⟨rfl, bl_set5 H.out.1.res.2⟩
                  · obtain rfl : n = 4 := by omega
                    have HZ3 : Hid (r = (⟨4, ByteArray.empty, 0, q, q + 4⟩, 0, 0)) := Lib.hid (by have hh : litF s q trueL = -1 := H.out.2.1.trans rfl; rw [HZ2.out]; unfold wordOf; rw [hh, if_pos (by omega)]; rfl)
                    go_wp2
                    refine bodyPost_ret (v := .tuple #[.agg #[.int .i64 4, .string ⟨#[]⟩, .int .i64 0, .int .i64 q, .int .i64 (q + 4)], .int .i64 0, .int .i64 0]) (by simp [results, Tryz.results89, go_sem, rc]) rfl ?_
                    rw [HZ3.out]
                    exact ⟨rfl, bl_set5 H.out.1.res.2⟩
              · by_cases d1 : bt s q = 102
                · have HZ2 : Hid (r = wordOf s q falseL 5) := Lib.hid (by rw [HZ.out, HWF.out, if_neg d0, if_pos d1])
                  have f0 : (bt s q != 116) = true := by simp [d0]
                  have f1 : (bt s q != 102) = false := by simp [d1]
                  clear HZ HWF d0 d1
                  go_wp2_with fail
                  refine wp_loop_rounds 4 ?_
                  rw [rounds_succ]
                  go_upto_region 29 with (fail)
                  go_quiet (fail)
                  have HW1 := Lib.hid (HW0.out.drewN nq)
                  generalize W0.drewN nq = W1 at HW1 ⊢
                  have ac1 := cell_blk HW1.out.arr
                  go_wp2_with fail
                  rw [rounds_succ]
                  go_upto_region 29 with (fail)
                  go_quiet (fail)
                  have HW2 := Lib.hid (HW1.out.drewN nq)
                  generalize W1.drewN nq = W2 at HW2 ⊢
                  have ac2 := cell_blk HW2.out.arr
                  go_wp2
                  clear g0 g1 g2
                  go_loopw [19] (fun k W => ∃ n : Nat, n ≤ 5 ∧ k = .int .i64 n ∧ Hid (WAt w b W ∧ litF s q falseL = litF s (q + n) (falseL.drop n) ∧ q + n ≤ s.size)) (fun k _ => 5 - (intOf k).toNat)
                  case atStart => exact ⟨0, by omega, rfl, Lib.hid ⟨HW2.out, by simp, by simp; omega⟩⟩
                  case round =>
                    obtain ⟨n, hn, rfl, H⟩ := hrel
                    have acx := cell_blk H.out.1.arr
                    have rc := cell_blk H.out.1.res.1
                    have rf := frozen_blk H.out.1.res.1
                    unfold Tk.zero Tk.cells at rc
                    by_cases hlt : n < 5
                    · have HL := Lib.hid (H.out.2.1.trans (lit_false s (q + n) n hlt))
                      have hnI : (n : Int) < 5 := by omega
                      have hp0 : 0 ≤ q + (n : Int) := by omega
                      have hpn := H.out.2.2
                      have hm := bt_nat (⟨#[102, 97, 108, 115, 101]⟩ : ByteArray) n
                      have hI := fun W => is5_any s (q + n) (bt ⟨#[102, 97, 108, 115, 101]⟩ n) W hp0
                      cases c : isAt s (q + n) (bt ⟨#[102, 97, 108, 115, 101]⟩ n) with
                      | true =>
                        rw [c] at hI
                        have HI := Lib.hid hI
                        have hlt2 := isAt_lt c
                        have HL2 := Lib.hid (HL.out.trans (by rw [c, if_pos rfl]))
                        clear c hI
                        generalize bt ⟨#[102, 97, 108, 115, 101]⟩ (n : Int) = m at *
                        go_wp2_with (go_at_call 56; refine (HI.out _).mono ?_; rintro e' W' ⟨rfl, rfl⟩)
                        go_roundw
                        case rel => exact ⟨n + 1, by omega, by go_num, Lib.hid ⟨H.out.1, by rw [show q + ((n + 1 : Nat) : Int) = q + n + 1 from by omega]; exact HL2.out, by omega⟩⟩
                        case measure => simp [intOf]; omega
                      | false =>
                        rw [c] at hI
                        have HI := Lib.hid hI
                        have HZ3 : Hid (r = (Tk.zero, q + n, 1)) := Lib.hid (by
                          have hh : litF s q falseL = q + n := HL.out.trans (by rw [c]; rfl)
                          rw [HZ2.out]; unfold wordOf; rw [hh, if_neg (by omega)])
                        clear c hI HL
                        generalize bt ⟨#[102, 97, 108, 115, 101]⟩ (n : Int) = m at *
                        go_wp2_with (go_at_call 56; refine (HI.out _).mono ?_; rintro e' W' ⟨rfl, rfl⟩)
                        refine bodyPost_ret (v := .tuple #[.agg #[.int .i64 0, .string ⟨#[]⟩, .int .i64 0, .int .i64 0, .int .i64 0], .int .i64 (q + n), .int .i64 1]) (by simp [results, Tryz.results89, go_sem, rc]) rfl ?_
                        rw [HZ3.out]
                        exact ⟨rfl, bl_set5 H.out.1.res.2⟩
                    · obtain rfl : n = 5 := by omega
                      have HZ3 : Hid (r = (⟨5, ByteArray.empty, 0, q, q + 5⟩, 0, 0)) := Lib.hid (by have hh : litF s q falseL = -1 := H.out.2.1.trans rfl; rw [HZ2.out]; unfold wordOf; rw [hh, if_pos (by omega)]; rfl)
                      go_wp2
                      refine bodyPost_ret (v := .tuple #[.agg #[.int .i64 5, .string ⟨#[]⟩, .int .i64 0, .int .i64 q, .int .i64 (q + 5)], .int .i64 0, .int .i64 0]) (by simp [results, Tryz.results89, go_sem, rc]) rfl ?_
                      rw [HZ3.out]
                      exact ⟨rfl, bl_set5 H.out.1.res.2⟩
                · by_cases d2 : bt s q = 110
                  · have HZ2 : Hid (r = wordOf s q nullL 6) := Lib.hid (by rw [HZ.out, HWF.out, if_neg d0, if_neg d1, if_pos d2])
                    have f0 : (bt s q != 116) = true := by simp [d0]
                    have f1 : (bt s q != 102) = true := by simp [d1]
                    have f2 : (bt s q != 110) = false := by simp [d2]
                    clear HZ HWF d0 d1 d2
                    go_wp2_with fail
                    refine wp_loop_rounds 4 ?_
                    rw [rounds_succ]
                    go_upto_region 29 with (fail)
                    go_quiet (fail)
                    have HW1 := Lib.hid (HW0.out.drewN nq)
                    generalize W0.drewN nq = W1 at HW1 ⊢
                    have ac1 := cell_blk HW1.out.arr
                    go_wp2_with fail
                    rw [rounds_succ]
                    go_upto_region 29 with (fail)
                    go_quiet (fail)
                    have HW2 := Lib.hid (HW1.out.drewN nq)
                    generalize W1.drewN nq = W2 at HW2 ⊢
                    have ac2 := cell_blk HW2.out.arr
                    go_wp2_with fail
                    rw [rounds_succ]
                    go_upto_region 29 with (fail)
                    go_quiet (fail)
                    have HW3 := Lib.hid (HW2.out.drewN nq)
                    generalize W2.drewN nq = W3 at HW3 ⊢
                    have ac3 := cell_blk HW3.out.arr
                    go_wp2
                    clear g0 g1 g2
                    go_loopw [19] (fun k W => ∃ n : Nat, n ≤ 4 ∧ k = .int .i64 n ∧ Hid (WAt w b W ∧ litF s q nullL = litF s (q + n) (nullL.drop n) ∧ q + n ≤ s.size)) (fun k _ => 4 - (intOf k).toNat)
                    case atStart => exact ⟨0, by omega, rfl, Lib.hid ⟨HW3.out, by simp, by simp; omega⟩⟩
                    case round =>
                      obtain ⟨n, hn, rfl, H⟩ := hrel
                      have acx := cell_blk H.out.1.arr
                      have rc := cell_blk H.out.1.res.1
                      have rf := frozen_blk H.out.1.res.1
                      unfold Tk.zero Tk.cells at rc
                      by_cases hlt : n < 4
                      · have HL := Lib.hid (H.out.2.1.trans (lit_null s (q + n) n hlt))
                        have hnI : (n : Int) < 4 := by omega
                        have hp0 : 0 ≤ q + (n : Int) := by omega
                        have hpn := H.out.2.2
                        have hm := bt_nat (⟨#[110, 117, 108, 108]⟩ : ByteArray) n
                        have hI := fun W => is5_any s (q + n) (bt ⟨#[110, 117, 108, 108]⟩ n) W hp0
                        cases c : isAt s (q + n) (bt ⟨#[110, 117, 108, 108]⟩ n) with
                        | true =>
                          rw [c] at hI
                          have HI := Lib.hid hI
                          have hlt2 := isAt_lt c
                          have HL2 := Lib.hid (HL.out.trans (by rw [c, if_pos rfl]))
                          clear c hI
                          generalize bt ⟨#[110, 117, 108, 108]⟩ (n : Int) = m at *
                          go_wp2_with (go_at_call 56; refine (HI.out _).mono ?_; rintro e' W' ⟨rfl, rfl⟩)
                          go_roundw
                          case rel => exact ⟨n + 1, by omega, by go_num, Lib.hid ⟨H.out.1, by rw [show q + ((n + 1 : Nat) : Int) = q + n + 1 from by omega]; exact HL2.out, by omega⟩⟩
                          case measure => simp [intOf]; omega
                        | false =>
                          rw [c] at hI
                          have HI := Lib.hid hI
                          have HZ3 : Hid (r = (Tk.zero, q + n, 1)) := Lib.hid (by
                            have hh : litF s q nullL = q + n := HL.out.trans (by rw [c]; rfl)
                            rw [HZ2.out]; unfold wordOf; rw [hh, if_neg (by omega)])
                          clear c hI HL
                          generalize bt ⟨#[110, 117, 108, 108]⟩ (n : Int) = m at *
                          go_wp2_with (go_at_call 56; refine (HI.out _).mono ?_; rintro e' W' ⟨rfl, rfl⟩)
                          refine bodyPost_ret (v := .tuple #[.agg #[.int .i64 0, .string ⟨#[]⟩, .int .i64 0, .int .i64 0, .int .i64 0], .int .i64 (q + n), .int .i64 1]) (by simp [results, Tryz.results89, go_sem, rc]) rfl ?_
                          rw [HZ3.out]
                          exact ⟨rfl, bl_set5 H.out.1.res.2⟩
                      · obtain rfl : n = 4 := by omega
                        have HZ3 : Hid (r = (⟨6, ByteArray.empty, 0, q, q + 4⟩, 0, 0)) := Lib.hid (by have hh : litF s q nullL = -1 := H.out.2.1.trans rfl; rw [HZ2.out]; unfold wordOf; rw [hh, if_pos (by omega)]; rfl)
                        go_wp2
                        refine bodyPost_ret (v := .tuple #[.agg #[.int .i64 6, .string ⟨#[]⟩, .int .i64 0, .int .i64 q, .int .i64 (q + 4)], .int .i64 0, .int .i64 0]) (by simp [results, Tryz.results89, go_sem, rc]) rfl ?_
                        rw [HZ3.out]
                        exact ⟨rfl, bl_set5 H.out.1.res.2⟩
                  · have HZ2 : Hid (r = (Tk.zero, q, 1)) := Lib.hid (by rw [HZ.out, HWF.out, if_neg d0, if_neg d1, if_neg d2])
                    have f0 : (bt s q != 116) = true := by simp [d0]
                    have f1 : (bt s q != 102) = true := by simp [d1]
                    have f2 : (bt s q != 110) = true := by simp [d2]
                    clear HZ HWF d0 d1 d2
                    go_wp2_with fail
                    refine wp_loop_rounds 4 ?_
                    rw [rounds_succ]
                    go_upto_region 29 with (fail)
                    go_quiet (fail)
                    have HW1 := Lib.hid (HW0.out.drewN nq)
                    generalize W0.drewN nq = W1 at HW1 ⊢
                    have ac1 := cell_blk HW1.out.arr
                    go_wp2_with fail
                    rw [rounds_succ]
                    go_upto_region 29 with (fail)
                    go_quiet (fail)
                    have HW2 := Lib.hid (HW1.out.drewN nq)
                    generalize W1.drewN nq = W2 at HW2 ⊢
                    have ac2 := cell_blk HW2.out.arr
                    go_wp2_with fail
                    rw [rounds_succ]
                    go_upto_region 29 with (fail)
                    go_quiet (fail)
                    have HW3 := Lib.hid (HW2.out.drewN nq)
                    generalize W2.drewN nq = W3 at HW3 ⊢
                    have ac3 := cell_blk HW3.out.arr
                    go_wp2_with fail
                    rw [rounds_succ]
                    have rc := cell_blk HW3.out.res.1
                    have rf := frozen_blk HW3.out.res.1
                    unfold Tk.zero Tk.cells at rc
                    go_wp2
                    refine bodyPost_ret (v := .tuple #[.agg #[.int .i64 0, .string ⟨#[]⟩, .int .i64 0, .int .i64 0, .int .i64 0], .int .i64 q, .int .i64 1]) (by simp [results, Tryz.results89, go_sem, rc]) rfl ?_
                    rw [HZ2.out]
                    exact ⟨rfl, bl_set5 HW3.out.res.2⟩
  · have HZ : Hid (r = (⟨0, ByteArray.empty, 0, q, q⟩, 0, 0)) := Lib.hid (by rw [HN.out, if_neg hq])
    clear HN
    go_enter Tryz.func89, Tryz.ntmps89
    go_wp2_with (go_at_call 30; refine (HBL.out _).mono ?_; rintro e' W ⟨rfl, rfl⟩)
    have rc := cell_blk H0.out.1
    unfold Tk.zero Tk.cells at rc
    refine bodyPost_ret (v := .tuple #[.agg #[.int .i64 0, .string ⟨#[]⟩, .int .i64 0, .int .i64 q, .int .i64 q], .int .i64 0, .int .i64 0]) (by simp [results, Tryz.results89, go_sem, rc]) rfl ?_
    rw [HZ.out]
    exact ⟨rfl, bl_alloc (Below.refl _ _) _⟩
end Go.Proofs.YtdlkdecigpaaaaaGreatDoor
namespace Go.Proofs.YtdlkdecigpaaaaaGreatDoor
set_option linter.unusedVariables false
set_option linter.unusedSimpArgs false
open Go.RowKit

theorem textF_end (s : ByteArray) : ∀ (k : Nat) (i : Int) (acc : List Int), 0 ≤ i → (textF s k i acc).2.2 = 0 → i < (textF s k i acc).2.1 ∧ (textF s k i acc).2.1 ≤ s.size
  | 0, i, acc, _, h => by simp [textF] at h
  | k + 1, i, acc, h0, h => by
    unfold textF at h ⊢
    by_cases c1 : ¬ i < s.size ∨ bt s i < 32
    · rw [if_pos c1] at h; simp at h
    · rw [if_neg c1] at h ⊢
      by_cases c2 : bt s i = 34
      · rw [if_pos c2]; simp only; omega
      · rw [if_neg c2] at h ⊢
        by_cases c3 : bt s i = 92
        · rw [if_pos c3] at h ⊢
          by_cases c4 : (escape s i).2.2 = 0
          · rw [if_pos c4] at h ⊢
            have ho := escape_ok h0 c4 (by omega)
            have := textF_end s k _ _ (by omega) h
            omega
          · rw [if_neg c4] at h; exact absurd h c4
        · rw [if_neg c3] at h ⊢
          by_cases c4 : (first s i).2 = 0
          · rw [if_pos c4] at h; simp at h
          · rw [if_neg c4] at h ⊢
            have ho := first_range (s := s) (i := i)
            have := textF_end s k _ _ (by omega) h
            omega
theorem numberE_pos {s : ByteArray} {c : Int} {pl : Bool} (h0 : 0 ≤ c) (h1 : c ≤ s.size) : c ≤ (numberE s c pl).1 := (numberE_range h0 h1).1
theorem numberF_gt {s : ByteArray} {p : Int} (h0 : 0 ≤ p) (h1 : p ≤ s.size) (h : (numberF s p).2.2 = true) : p < (numberF s p).1 := by
  have ha : p ≤ signEnd s p ∧ signEnd s p ≤ s.size := by
    unfold signEnd; split
    · rename_i h; have := isAt_lt h; omega
    · omega
  unfold numberF at h ⊢
  split at h
  · rename_i hd
    rw [if_pos hd]
    have hy := digitsEnd_yes (by omega) hd
    have hdl := digitAt_lt hd
    have hb : signEnd s p + 1 ≤ wholeEnd s (signEnd s p) ∧ wholeEnd s (signEnd s p) ≤ s.size := by unfold wholeEnd; split <;> omega
    generalize wholeEnd s (signEnd s p) = b at *
    unfold numberD
    split
    · rename_i hdot
      have := isAt_lt hdot
      split
      · rename_i h2
        have h3 := digitsEnd_yes (by omega) h2
        have h4 := numberE_range (s := s) (c := digitsEnd s (b + 1)) (pl := false) (by omega) h3.2
        omega
      · simp only; omega
    · have h4 := numberE_range (s := s) (c := b) (pl := true) (by omega) hb.2
      omega
  · simp at h
theorem lit_inside (s : ByteArray) : ∀ (l : List Int) (p : Int), 0 ≤ p → p ≤ s.size → litF s p l < 0 → p + l.length ≤ s.size
  | [], p, _, h1, _ => by simpa using h1
  | c :: r, p, h0, h1, h => by
    unfold litF at h
    split at h
    · rename_i hc
      have hl := isAt_lt hc
      have := lit_inside s r (p + 1) (by omega) (by omega) h
      rw [List.length_cons]; omega
    · omega
theorem tokF_next {s : ByteArray} {q : Int} (h0 : 0 ≤ q) (h1 : q < s.size) (h : (tokF s q).2.2 = 0) : (tokF s q).1.kind ≠ 0 ∧ q < (tokF s q).1.stop ∧ (tokF s q).1.stop ≤ s.size ∧ (tokF s q).1.head = q := by
  have hw : ∀ l k, k ≠ 0 → l.length ≠ 0 → (wordOf s q l k).2.2 = 0 → (wordOf s q l k).1.kind ≠ 0 ∧ q < (wordOf s q l k).1.stop ∧ (wordOf s q l k).1.stop ≤ s.size ∧ (wordOf s q l k).1.head = q := by
    intro l k hk hl hz
    unfold wordOf at hz ⊢
    split at hz
    · rename_i hlt
      rw [if_pos hlt]
      have := lit_inside s l q h0 (by omega) hlt
      simp only
      exact ⟨hk, by omega, by omega, by trivial⟩
    · simp at hz
  unfold tokF at h ⊢
  split
  · unfold markF; simp only; exact ⟨by decide, by omega, by omega, by trivial⟩
  · rename_i c1
    rw [if_neg c1] at h
    split
    · rename_i c2
      rw [if_pos c2] at h
      unfold strF at h ⊢
      by_cases c : (textOf s q).2.2 = 0
      · rw [if_pos c]
        have := textF_end s _ (q + 1) [] (by omega) c
        simp only
        exact ⟨by decide, by show q < (textAt s (q + 1) []).2.1; unfold textAt; omega, by show (textAt s (q + 1) []).2.1 ≤ _; unfold textAt; omega, by trivial⟩
      · rw [if_neg c] at h; exact absurd h c
    · rename_i c2
      rw [if_neg c2] at h
      split
      · rename_i c3
        rw [if_pos c3] at h
        unfold numF at h ⊢
        by_cases d1 : (numberF s q).2.2 = false
        · rw [if_pos d1] at h; simp at h
        · rw [if_neg d1] at h ⊢
          by_cases d2 : (numberF s q).2.1 = false
          · rw [if_pos d2] at h; simp at h
          · rw [if_neg d2] at h ⊢
            by_cases d3 : fitsF (cutS s q (numberF s q).1) = true
            · rw [if_pos d3]
              have hr := numberF_range h0 (Int.le_of_lt h1)
              have hg := numberF_gt h0 (Int.le_of_lt h1) (by simpa using d1)
              simp only
              exact ⟨by decide, by omega, by omega, by trivial⟩
            · rw [if_neg d3] at h; simp at h
      · rename_i c3
        rw [if_neg c3] at h
        unfold wordF at h ⊢
        by_cases e1 : bt s q = 116
        · rw [if_pos e1] at h ⊢; exact hw _ _ (by decide) (by decide) h
        · rw [if_neg e1] at h ⊢
          by_cases e2 : bt s q = 102
          · rw [if_pos e2] at h ⊢; exact hw _ _ (by decide) (by decide) h
          · rw [if_neg e2] at h ⊢
            by_cases e3 : bt s q = 110
            · rw [if_pos e3] at h ⊢; exact hw _ _ (by decide) (by decide) h
            · rw [if_neg e3] at h; simp at h
theorem blanks_range {s : ByteArray} {i : Int} (h0 : 0 ≤ i) (h1 : i ≤ s.size) : i ≤ blanks s i ∧ blanks s i ≤ s.size := ⟨upTo_ge, upTo_le h0 h1⟩
/-- With no error: the token is the end's, and stands at the end; or it isn't, and something is passed over. -/
theorem next_step {s : ByteArray} {i : Int} (h0 : 0 ≤ i) (h1 : i ≤ s.size) (h : (nextF s i).2.2 = 0) :
    (nextF s i).1.head = blanks s i ∧ (((nextF s i).1.kind = 0 ∧ (nextF s i).1.stop = s.size ∧ blanks s i = s.size) ∨ ((nextF s i).1.kind ≠ 0 ∧ blanks s i < (nextF s i).1.stop ∧ (nextF s i).1.stop ≤ s.size)) := by
  have hb := blanks_range h0 h1
  unfold nextF at h ⊢
  split
  · rename_i hq
    rw [if_pos hq] at h
    have := tokF_next (by omega) hq h
    exact ⟨this.2.2.2, .inr ⟨this.1, this.2.1, this.2.2.1⟩⟩
  · rename_i hq
    simp only
    exact ⟨by trivial, .inl ⟨by trivial, by omega, by omega⟩⟩
/-- The tokens from a place on, behind those so far; the error's place; the error. -/
def allF (s : ByteArray) : Nat → Int → List Tk → List Tk × Int × Int
  | 0, _, _ => ([], 0, 0)
  | k + 1, i, acc =>
    if (nextF s i).2.2 ≠ 0 then ([], (nextF s i).2.1, (nextF s i).2.2)
    else if (nextF s i).1.kind = 0 then (acc ++ [(nextF s i).1], 0, 0)
    else allF s k (nextF s i).1.stop (acc ++ [(nextF s i).1])
def allAt (s : ByteArray) (i : Int) (acc : List Tk) : List Tk × Int × Int := allF s (s.size + 1 - i.toNat) i acc
theorem allF_more (s : ByteArray) : ∀ (k m : Nat) (i : Int) (acc : List Tk), 0 ≤ i → i ≤ s.size → s.size + 1 - i.toNat ≤ k → s.size + 1 - i.toNat ≤ m → allF s k i acc = allF s m i acc
  | 0, m, i, acc, h0, h1, hk, _ => by omega
  | k + 1, 0, i, acc, h0, h1, _, hm => by omega
  | k + 1, m + 1, i, acc, h0, h1, hk, hm => by
    unfold allF
    by_cases c1 : (nextF s i).2.2 ≠ 0
    · rw [if_pos c1, if_pos c1]
    · rw [if_neg c1, if_neg c1]
      by_cases c2 : (nextF s i).1.kind = 0
      · rw [if_pos c2, if_pos c2]
      · rw [if_neg c2, if_neg c2]
        have hs := next_step h0 h1 (by simpa using c1)
        have hb := blanks_range h0 h1
        exact allF_more s k m _ _ (by omega) (by omega) (by omega) (by omega)
theorem allAt_step {s : ByteArray} {i : Int} {acc : List Tk} (h0 : 0 ≤ i) (h1 : i ≤ s.size) : allAt s i acc =
    if (nextF s i).2.2 ≠ 0 then ([], (nextF s i).2.1, (nextF s i).2.2)
    else if (nextF s i).1.kind = 0 then (acc ++ [(nextF s i).1], 0, 0)
    else allAt s (nextF s i).1.stop (acc ++ [(nextF s i).1]) := by
  unfold allAt
  rw [show s.size + 1 - i.toNat = (s.size - i.toNat) + 1 from by omega]
  conv => lhs; unfold allF
  by_cases c1 : (nextF s i).2.2 ≠ 0
  · rw [if_pos c1, if_pos c1]
  · rw [if_neg c1, if_neg c1]
    by_cases c2 : (nextF s i).1.kind = 0
    · rw [if_pos c2, if_pos c2]
    · rw [if_neg c2, if_neg c2]
      have hs := next_step h0 h1 (by simpa using c1)
      have hb := blanks_range h0 h1
      exact allF_more s _ _ _ _ (by omega) (by omega) (by omega) (by omega)
def allOf (s : ByteArray) : List Tk × Int × Int := allAt s 0 []
/-- Tokens' cells, one behind the other. -/
def tksV (l : List Tk) : List Value := l.flatMap fun t => t.cells.toList
theorem tksV_len (l : List Tk) : (tksV l).length = l.length * 5 := by
  induction l with
  | nil => rfl
  | cons a r ih => simp only [tksV, List.flatMap_cons, List.length_append, List.length_cons] at *; rw [ih]; simp [Tk.cells]; omega
theorem tksV_snoc (l : List Tk) (t : Tk) : tksV l ++ t.cells.toList = tksV (l ++ [t]) := by simp [tksV]
theorem tksV_at : ∀ (l : List Tk) (j : Nat) (t : Tk), l[j]? = some t → ∀ k u, t.cells[k]? = some u → (tksV l)[j * 5 + k]? = some u
  | [], j, t, h, k, u, _ => by simp at h
  | a :: r, 0, t, h, k, u, hu => by
    simp at h; subst h
    have hk : k < 5 := by have := (Array.getElem?_eq_some_iff.1 hu).1; simpa [Tk.cells] using this
    simp only [tksV, List.flatMap_cons, Nat.zero_mul, Nat.zero_add]
    rw [List.getElem?_append_left (by simp [Tk.cells]; exact hk)]
    simpa using hu
  | a :: r, j + 1, t, h, k, u, hu => by
    have h2 : r[j]? = some t := by simpa using h
    have ih := tksV_at r j t h2 k u hu
    simp only [tksV, List.flatMap_cons]
    rw [List.getElem?_append_right (by simp [Tk.cells]; omega)]
    have e : (j + 1) * 5 + k - a.cells.toList.length = j * 5 + k := by simp [Tk.cells]; omega
    rw [e]; exact ih
end Go.Proofs.YtdlkdecigpaaaaaGreatDoor
