/- The lexer's text. -/
import Derived.Test.YtdlkdecigpaaaaaGreatDoorMp21
import Derived.Test.YtdlkdecigpaaaaaGreatDoorMp15
namespace Go.Proofs.YtdlkdecigpaaaaaGreatDoor
set_option linter.unusedVariables false
set_option linter.unusedSimpArgs false
open Go.RowKit

/-- Block h of w is a token of these cells. -/
def TkAt (h : Nat) (cs : Array Value) (w : World) : Prop := w.heap[h]? = some (.cells cs 230 (0, 0))
/-- What a reader leaves of the token, where it tells no error. -/
def Told (h : Nat) (code : Int) (cs : Array Value) (w : World) : Prop := code = 0 → TkAt h cs w
theorem keeps_belowB {S : List Nat} {w w1 w2 : World} (h : Keeps S w w1) (k : Below w.heap.size w1 w2) : Keeps S w w2 :=
  ⟨k.os.trans h.os, k.tape.trans h.tape, k.output.trans h.output, Nat.le_trans h.size k.size, fun i hi hn => (k.block i hi).trans (h.block i hi hn)⟩
theorem tk_keeps {S : List Nat} {h : Nat} {cs : Array Value} {w w1 : World} (ht : TkAt h cs w) (k : Keeps S w w1) (hn : h ∉ S) : TkAt h cs w1 := k.heap ht hn
theorem lex_keeps {S : List Nat} {s : ByteArray} {i : Int} {g : Nat} {w w1 : World} (hl : Lex s i g w) (k : Keeps S w w1) (hn : g ∉ S) : Lex s i g w1 := k.heap hl hn
theorem bytesOf_enc {n : Int} (h : pointB n = true) (l : List Int) : Lib.byteCells (rawL (bytesOfL l)) ++ Lib.strCells (encS n) = Lib.byteCells (rawL (bytesOfL (l ++ [n]))) := by
  rw [enc_str h, strCells_of, bytesOf_snoc, rawL_app, byteCells_app]
theorem raw_len (l : List Int) : (Lib.byteCells (rawL (bytesOfL l))).length ≤ 4 * l.length := by
  have := bytesOf_len l
  simpa [Lib.byteCells, rawL] using this
theorem enc_len {n : Int} : (encS n).size ≤ 4 := by
  unfold encS; split
  · rename_i h; have e := enc_str h; unfold encS at e; rw [if_pos h] at e; rw [e, strOfNums_size]; exact bytesL_len4 n
  · show (0 : Nat) ≤ 4; omega
/-- What holds at the head of a round. -/
structure TextAt (s : ByteArray) (p : Int) (g h : Nat) (t : ByteArray) (v a e : Int) (w : World) (j : Int) (acc : List Int) (W : World) : Prop where
  lex : Lex s j g W
  tok : TkAt h #[.int .i64 2, .string t, .int .i64 v, .int .i64 a, .int .i64 e] W
  bld : Lib.IsBuilderF 119 5 w.heap.size w.heap.size (Lib.byteCells (rawL (bytesOfL acc))) W
  keep : Keeps [g, h] w W
  says : textOf s p = textAt s j acc
  few : (acc.length : Int) ≤ j
theorem TextAt.snoc {s : ByteArray} {p : Int} {g h : Nat} {t : ByteArray} {v a e : Int} {w : World} {j j' : Int} {acc : List Int} {n : Int} {W1 : World} (k : TkAt h #[.int .i64 2, .string t, .int .i64 v, .int .i64 a, .int .i64 e] W1) (hl : Lex s j' g W1) (hk : Keeps [g, h] w W1)
    (hb : Lib.IsBuilderF 119 5 w.heap.size w.heap.size (Lib.byteCells (rawL (bytesOfL acc)) ++ Lib.strCells (encS n)) W1) (hn : pointB n = true) (hs : textOf s p = textAt s j' (acc ++ [n])) (hf : (acc.length : Int) ≤ j) (hj : j < j') : TextAt s p g h t v a e w j' (acc ++ [n]) W1 :=
  ⟨hl, k, bytesOf_enc hn acc ▸ hb, hk, hs, by simp; omega⟩
theorem TextAt.step {s : ByteArray} {p : Int} {g h : Nat} {t : ByteArray} {v a e : Int} {w : World} {j : Int} {acc : List Int} {W W1 : World} (H : TextAt s p g h t v a e w j acc W) (k : Keeps [] W W1) (hg : g < w.heap.size) (hh : h < w.heap.size) : TextAt s p g h t v a e w j acc W1 :=
  ⟨lex_keeps H.lex k (by simp), tk_keeps H.tok k (by simp), isb_keeps H.bld k (by simp), keeps0 H.keep k, H.says, H.few⟩
theorem TextAt.below {s : ByteArray} {p : Int} {g h : Nat} {t : ByteArray} {v a e : Int} {w : World} {j : Int} {acc : List Int} {W W1 : World} (H : TextAt s p g h t v a e w j acc W) (k : Below W.heap.size W W1) (hg : g < w.heap.size) (hh : h < w.heap.size) : TextAt s p g h t v a e w j acc W1 :=
  H.step (Keeps.below k) hg hh
set_option maxRecDepth 20000 in
set_option maxHeartbeats 4000000 in
theorem ltext_any (s : ByteArray) (p : Int) (g h : Nat) (k : Int) (t : ByteArray) (v a e : Int) (w : World) (hl : Lex s p g w) (ht : TkAt h #[.int .i64 k, .string t, .int .i64 v, .int .i64 a, .int .i64 e] w) (hgh : g ≠ h) (h0 : 0 ≤ p) (h1 : p < s.size) (hs : s.size ≤ 1000000) :
    Calls Tryz.prog 196 #[.pointer (some ⟨g, 0, none⟩), .pointer (some ⟨h, 0, none⟩)] w fun e' w' => e' = .returned (.int .i64 (textOf s p).2.2) ∧ Lex s (textOf s p).2.1 g w' ∧
      Told h (textOf s p).2.2 #[.int .i64 2, .string (textS (textOf s p).1), .int .i64 v, .int .i64 a, .int .i64 e] w' ∧ Keeps [g, h] w w' := by
  have HL := Lib.hid hl
  have HT := Lib.hid ht
  have hc := cell_blk hl
  have hf := frozen_blk hl
  have tc := cell_blk ht
  have tf := frozen_blk ht
  have hglt := hk_lt hl
  have hhlt := hk_lt ht
  clear hl ht
  go_enter Tryz.func196, Tryz.ntmps196
  go_wp2
  clear hc hf tc tf
  go_loopw [] (fun W => ∃ (j : Int) (acc : List Int), p + 1 ≤ j ∧ j ≤ s.size ∧ Hid (TextAt s p g h t v a e w j acc W)) (fun W => match W.cell? ⟨g, 1, none⟩ with | some (.int _ j) => s.size + 1 - j.toNat | _ => 0)
  case atStart =>
    refine ⟨p + 1, [], by omega, by omega, Lib.hid ⟨?_, ?_, ?_, ?_, rfl, by simp; omega⟩⟩
    · exact hk_alloc (lex_set (w := w.setCell ⟨h, 0, none⟩ (.int .i64 2)) (hk_set HL.out (p := ⟨h, 0, none⟩) hgh _)) _
    · exact hk_alloc (hk_set (set_to HT.out 0 (.int .i64 2) rfl) (p := ⟨g, 1, none⟩) (Ne.symm hgh) _) _
    · refine .inl ⟨Nat.le_refl _, .slice none 0 0, ?_, World.ownsRowF_nil _ _ _ _, by simp [Value.ownBlock]⟩
      have := new_blk ((w.setCell ⟨h, 0, none⟩ (.int .i64 2)).setCell ⟨g, 1, none⟩ (.int .i64 (p + 1))) (.cells #[.pointer none, .slice none 0 0] 119)
      simpa only [World.size_setCell] using this
    · exact (((Keeps.refl _ _).set (.inl (by simp)) _).set (.inl (by simp)) _).alloc _
  case round =>
    obtain ⟨j, acc, hj0, hj1, H⟩ := hrel
    have HS := Lib.hid (H.out.says.trans (textAt_step (by omega)))
    have HQ := Lib.hid (has_byte s j 34)
    have hj00 : 0 ≤ j := by omega
    have tc := cell_blk H.out.tok
    have tf := frozen_blk H.out.tok
    have hB := H.out.keep.size
    cases c1 : isAt s j 34 with
    | true =>
      have hb34 : j < s.size ∧ bt s j = 34 := by simp only [isAt, Bool.and_eq_true, decide_eq_true_eq, beq_iff_eq] at c1; exact c1
      have HZ : Hid (textOf s p = (acc, j + 1, 0)) := Lib.hid (by rw [HS.out, if_neg (by omega), if_pos hb34.2])
      have HQt := Lib.hid (HQ.out.trans c1)
      clear c1 hb34 HS HQ
      go_wp2_with fail; refine (one_kyes H.out.lex hj00 hs HQt.out).mono ?_; rintro e w1 ⟨rfl, hl1, hk1⟩; have HX1 := Lib.hid (And.intro hl1 hk1); clear hl1 hk1; have hc1 := cell_blk HX1.out.1; have hf1 := frozen_blk HX1.out.1
      have HST := Lib.hid (fun W hW hB => Tryz.Builder_String_any_k w.heap.size w.heap.size (rawL (bytesOfL acc)) W hW hB)
      have HB1 := Lib.hid (isb_keeps H.out.bld HX1.out.2 (by simpa using hglt))
      have tc1 := cell_blk (tk_keeps H.out.tok HX1.out.2 (by simpa using Ne.symm hgh))
      have HTS : Hid (textOf s p = (acc, j + 1, 0)) := HZ
      go_wp2_with fail
      refine (HST.out _ HB1.out (by have := HX1.out.2.size; omega)).mono ?_
      rintro e' w2 ⟨rfl, hb2, hbe2, _⟩
      have HW2 : Hid (Lex s (j + 1) g w2 ∧ TkAt h #[.int .i64 2, .string t, .int .i64 v, .int .i64 a, .int .i64 e] w2 ∧ Keeps [g, h] w w2) := Lib.hid
        ⟨hk_belowN HX1.out.1 hbe2 hglt, hk_belowN (tk_keeps H.out.tok HX1.out.2 (by simpa using Ne.symm hgh)) hbe2 hhlt, keeps_belowB (keepsg H.out.keep HX1.out.2 (by simp)) hbe2⟩
      clear hb2 hbe2
      have tc2 := cell_blk HW2.out.2.1
      have tf2 := frozen_blk HW2.out.2.1
      have HSS := Lib.hid (textS_raw acc)
      go_wp2
      go_ret
      rw [HTS.out]
      refine ⟨rfl, hk_set HW2.out.1 (p := ⟨h, 1, none⟩) hgh _, fun _ => ?_, HW2.out.2.2.set (.inl (by simp)) _⟩
      rw [← HSS.out]
      exact set_to HW2.out.2.1 1 _ rfl
    | false =>
      have HQf := Lib.hid (HQ.out.trans c1)
      have hne : j < s.size → ¬ bt s j = 34 := fun hlt hb => by simp [isAt, hlt, hb] at c1
      clear c1 HQ
      by_cases c2 : j < s.size
      · have hd2 : (j == (s.size : Int)) = false := by simp; omega
        have hne := hne c2
        have hbj := bt_at s j
        by_cases c3 : bt s j < 32
        · have HZ : Hid (textOf s p = ([], j, 1)) := Lib.hid (HS.out.trans (if_pos (.inr c3)))
          have hd3 : decide (bt s j < 32) = true := by simpa using c3
          clear HS hne
          go_wp2_with fail; refine (one_kno H.out.lex hj00 HQf.out).mono ?_; rintro e w1 ⟨rfl, hl1, hk1⟩; have HX1 := Lib.hid (And.intro hl1 hk1); clear hl1 hk1; have hc1 := cell_blk HX1.out.1; have hf1 := frozen_blk HX1.out.1
          have HX1b := Lib.hid (H.out.step HX1.out.2 hglt hhlt)
          go_upto_region 5 with (fail)
          go_quiet (fail)
          go_wp2
          go_ret
          rw [HZ.out]
          exact ⟨rfl, HX1.out.1, fun h => by simp at h, HX1b.out.keep.drewN _⟩
        · have hd3 : decide (bt s j < 32) = false := by simpa using c3
          have HS2 := Lib.hid ((HS.out.trans (if_neg (by omega))).trans (if_neg hne))
          have HQ2 := Lib.hid (has_byte s j 92)
          clear HS hne
          go_wp2_with fail; refine (one_kno H.out.lex hj00 HQf.out).mono ?_; rintro e w1 ⟨rfl, hl1, hk1⟩; have HX1 := Lib.hid (And.intro hl1 hk1); clear hl1 hk1; have hc1 := cell_blk HX1.out.1; have hf1 := frozen_blk HX1.out.1
          have HX1b := Lib.hid (H.out.step HX1.out.2 hglt hhlt)
          go_upto_region 5 with (fail)
          go_quiet (fail)
          have H2 := Lib.hid (HX1b.out.step ((Keeps.refl [] w1).drewN nq) hglt hhlt)
          generalize w1.drewN nq = w2 at H2 ⊢
          have HM := Lib.hid (lex_at H.out.lex)
          clear HX1b HX1 hc1 hf1 HQf H tc tf hB
          have hB2 := H2.out.keep.size
          have HWR := Lib.hid (fun W bs (s : ByteArray) hb hl hB => write_any w.heap.size w.heap.size bs s W hb hl hB)
          have HEN := Lib.hid (fun n W => enc_any n W)
          have HRL := Lib.hid (raw_len acc)
          cases c4 : isAt s j 92 with
          | true =>
            have hb4 : bt s j = 92 := by simp only [isAt, Bool.and_eq_true, decide_eq_true_eq, beq_iff_eq] at c4; exact c4.2
            have HS3 := Lib.hid (HS2.out.trans (if_pos hb4))
            have HQt := Lib.hid (HQ2.out.trans c4)
            have HOK := Lib.hid (escape_ok (s := s) (i := j) hj00 · c2)
            clear c4 hb4 HQ2 HS2 hbj hd3 c3
            go_wp2_with fail; refine (has_k H2.out.lex hj00 HQt.out).mono ?_; rintro e w3 ⟨rfl, hl3, hk3⟩; have HX3 := Lib.hid (And.intro hl3 hk3); clear hl3 hk3; have hc3 := cell_blk HX3.out.1; have hf3 := frozen_blk HX3.out.1
            have H3 := Lib.hid (H2.out.step HX3.out.2 hglt hhlt)
            have HE := Lib.hid (lesc_any s j g _ H3.out.lex hj00 c2 hs)
            generalize escape s j = x at *
            obtain ⟨n, e1, code⟩ := x
            simp only at HS3 HOK HE
            go_wp2_with fail
            refine HE.out.mono ?_
            rintro e' w4 ⟨rfl, hl4, hk4⟩
            have HX4 := Lib.hid (And.intro hl4 (And.intro (keepsg H3.out.keep hk4 (by simp)) (And.intro (tk_keeps H3.out.tok hk4 (by simpa using Ne.symm hgh)) (isb_keeps H3.out.bld hk4 (by simpa using hglt)))))
            clear hl4 hk4
            by_cases c5 : code = 0
            · subst c5
              have HZ := Lib.hid (HS3.out.trans (if_pos rfl))
              obtain ⟨o1, o2, o3⟩ := HOK.out rfl
              have HO3 := Lib.hid o3
              clear o3 HOK HS3 HE
              go_wp2_with (go_at_call 203; refine (HEN.out _ _).mono ?_; rintro e' w' ⟨rfl, rfl⟩)
              have hB4 := HX4.out.2.1.size
              refine (HWR.out _ _ _ HX4.out.2.2.2 (by have h1 := HRL.out; have h2 := enc_len (n := n); have h3 := H2.out.few; omega) hB4).mono ?_
              rintro e' w5 ⟨rfl, hb5, hbe5, _⟩
              have HX5 := Lib.hid (TextAt.snoc (j := j) (j' := e1) (hk_belowN HX4.out.2.2.1 hbe5 hhlt) (hk_belowN HX4.out.1 hbe5 hglt) (keeps_belowB HX4.out.2.1 hbe5) (.inr hb5) HO3.out HZ.out H2.out.few (by omega))
              clear hb5 hbe5
              go_wp2
              go_roundw
              case rel => exact ⟨e1, acc ++ [n], by omega, o2, HX5⟩
              case measure =>
                have m1 := lex_at HX5.out.lex
                have m2 := HM.out
                simp only [m1, m2]
                omega
            · have hc5 : (code == 0) = false := by simp [c5]
              have hc5b : (code != 0) = true := by simp [c5]
              have HZ := Lib.hid (HS3.out.trans (if_neg c5))
              have HC5 := Lib.hid c5
              clear c5 HOK HS3 HE
              go_wp2
              go_ret
              rw [HZ.out]
              exact ⟨rfl, HX4.out.1, fun h => absurd h HC5.out, HX4.out.2.1⟩
          | false =>
            have hb4 : ¬ bt s j = 92 := fun hb => by simp [isAt, c2, hb] at c4
            have HS3 := Lib.hid (HS2.out.trans (if_neg hb4))
            have HQf := Lib.hid (HQ2.out.trans c4)
            have HFR := Lib.hid (first_range (s := s) (i := j))
            have HSH := Lib.hid (first_shift s j.toNat (by omega))
            clear c4 hb4 HQ2 HS2 hbj hd3 c3
            go_wp2_with fail; refine (has_k H2.out.lex hj00 HQf.out).mono ?_; rintro e w3 ⟨rfl, hl3, hk3⟩; have HX3 := Lib.hid (And.intro hl3 hk3); clear hl3 hk3; have hc3 := cell_blk HX3.out.1; have hf3 := frozen_blk HX3.out.1
            have H3 := Lib.hid (H2.out.step HX3.out.2 hglt hhlt)
            have HDC := Lib.hid (fun W => dec_any (s.extract j.toNat s.size) W)
            rw [HSH.out, Int.toNat_of_nonneg hj00] at HDC
            generalize first s j = x at *
            obtain ⟨n, m⟩ := x
            simp only at HS3 HFR HDC
            have c30 := hc3 0
            have c31 := hc3 1
            clear HSH
            go_upto_region 12 with (fail)
            go_region_held3 (fun W' => W'.cell? ⟨g, 0, none⟩ = some (.string s) ∧ W'.cell? ⟨g, 1, none⟩ = some (.int .i64 j)) (go_keep) (first | (go_at_call 204; refine (HDC.out _).mono ?_; rintro e' w4 ⟨rfl, hb4⟩; have hb4' : Below w3.heap.size w3 w4 := ⟨hb4.os, hb4.tape, hb4.output, hb4.size, hb4.block⟩; have H4 := Lib.hid (H3.out.below hb4' hglt hhlt); have K0 : w4.cell? ⟨g, 0, none⟩ = some (.string s) := cell_blk H4.out.lex 0; have K1 : w4.cell? ⟨g, 1, none⟩ = some (.int .i64 j) := cell_blk H4.out.lex 1; clear hb4 hb4'))
            by_cases c5 : m = 0
            · have hc5 : (m == 0) = true := by simp [c5]
              have HZ := Lib.hid (HS3.out.trans (if_pos c5))
              clear c5 HS3 HFR HDC
              go_wp2
              go_ret
              rw [HZ.out]
              exact ⟨rfl, H4.out.lex, fun h => by simp at h, H4.out.keep⟩
            · have hc5 : (m == 0) = false := by simp [c5]
              have HZ := Lib.hid (HS3.out.trans (if_neg c5))
              have HF2 : Hid (1 ≤ m ∧ m ≤ 4 ∧ j + m ≤ s.size ∧ pointB n = true) := Lib.hid (by rcases HFR.out with h | h; exact absurd h.1 c5; exact h)
              obtain ⟨o1, o2, o3, _⟩ := HF2.out
              have HB4 := Lib.hid H4.out.bld
              have hB4 := H4.out.keep.size
              clear c5 HS3 HFR HDC K0 K1 c30 c31 hc3 hf3
              go_wp2_with (go_at_call 203; refine (HEN.out _ _).mono ?_; rintro e' w' ⟨rfl, rfl⟩)
              refine (HWR.out _ _ _ HB4.out (by have h1 := HRL.out; have h2 := enc_len (n := n); have h3 := H2.out.few; omega) hB4).mono ?_
              rintro e' w5 ⟨rfl, hb5, hbe5, _⟩
              have HX5 := Lib.hid (And.intro (hk_belowN H4.out.lex hbe5 hglt : Lex s j g w5) (And.intro (hk_belowN H4.out.tok hbe5 hhlt : TkAt h _ w5) (And.intro (keeps_belowB H4.out.keep hbe5) hb5)))
              clear hb5 hbe5
              have hc5 := cell_blk HX5.out.1
              have hf5 := frozen_blk HX5.out.1
              go_wp2
              have HX6 := Lib.hid (TextAt.snoc (j := j) (j' := j + m) (hk_set HX5.out.2.1 (p := ⟨g, 1, none⟩) (Ne.symm hgh) (.int .i64 (j + m))) (lex_set HX5.out.1) (HX5.out.2.2.1.set (.inl (by simp)) _) (isb_keeps (S := [g]) (.inr HX5.out.2.2.2) ((Keeps.refl _ _).set (.inl (by simp)) _) (by simpa using hglt)) HF2.out.2.2.2 HZ.out H2.out.few (by omega))
              go_roundw
              case rel => exact ⟨j + m, acc ++ [n], by omega, o3, HX6⟩
              case measure =>
                have m1 := lex_at HX6.out.lex
                have m2 := HM.out
                simp only [m1, m2]
                omega
      · have hd2 : (j == (s.size : Int)) = true := by simp; omega
        have HZ : Hid (textOf s p = ([], j, 1)) := Lib.hid (HS.out.trans (if_pos (.inl c2)))
        clear HS hne
        go_wp2_with fail; refine (one_kno H.out.lex hj00 HQf.out).mono ?_; rintro e w1 ⟨rfl, hl1, hk1⟩; have HX1 := Lib.hid (And.intro hl1 hk1); clear hl1 hk1; have hc1 := cell_blk HX1.out.1; have hf1 := frozen_blk HX1.out.1
        have HX1b := Lib.hid (H.out.step HX1.out.2 hglt hhlt)
        go_upto_region 5 with (fail)
        go_quiet (fail)
        go_wp2
        go_ret
        rw [HZ.out]
        exact ⟨rfl, HX1.out.1, fun h => by simp at h, HX1b.out.keep.drewN _⟩
end Go.Proofs.YtdlkdecigpaaaaaGreatDoor
