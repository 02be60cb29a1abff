/- Put together: A point's bytes as a text; bytes behind a place; a builder of the call's own under writes elsewhere; The lexer's text; A text's end, read by itself: the same Str. -/
import Derived.Test.YtdlkdecigpaaaaaGreatDoorMg13
import Derived.Test.YtdlkdecigpaaaaaGreatDoorMg14
import Derived.Test.YtdlkdecigpaaaaaGreatDoorMg6
namespace Go.Proofs.YtdlkdecigpaaaaaGreatDoor
set_option linter.unusedVariables false
set_option linter.unusedSimpArgs false
open Go.RowKit

theorem enc_str {n : Int} (h : pointB n = true) : encS n = strOfNums (bytesL n) := by
  have hv : Utf8.valid n = true := by
    simp only [pointB, decide_eq_true_eq] at h
    simp only [Utf8.valid, Bool.or_eq_true, Bool.and_eq_true, decide_eq_true_eq]
    omega
  have h0 : 0 ≤ n := by simp only [pointB, decide_eq_true_eq] at h; omega
  obtain ⟨m, rfl⟩ := Int.eq_ofNat_of_zero_le h0
  unfold encS Utf8.encode
  rw [if_pos h, if_pos hv]
  simp only [Int.toNat_natCast]
  unfold strOfNums bytesL
  by_cases c1 : m < 128
  · rw [if_pos c1, if_pos (show (m : Int) < 128 by omega)]; simp
  · rw [if_neg c1, if_neg (show ¬ (m : Int) < 128 by omega)]
    by_cases c2 : m < 2048
    · rw [if_pos c2, if_pos (show (m : Int) < 2048 by omega)]
      simp only [List.map_cons, List.map_nil]
      rw [show (192 + (m : Int) / 64).toNat = 192 + m / 64 from by omega, show (128 + (m : Int) % 64).toNat = 128 + m % 64 from by omega]
    · rw [if_neg c2, if_neg (show ¬ (m : Int) < 2048 by omega)]
      by_cases c3 : m < 65536
      · rw [if_pos c3, if_pos (show (m : Int) < 65536 by omega)]
        simp only [List.map_cons, List.map_nil]
        rw [show (224 + (m : Int) / 4096).toNat = 224 + m / 4096 from by omega, show (128 + (m : Int) / 64 % 64).toNat = 128 + m / 64 % 64 from by omega, show (128 + (m : Int) % 64).toNat = 128 + m % 64 from by omega]
      · rw [if_neg c3, if_neg (show ¬ (m : Int) < 65536 by omega)]
        simp only [List.map_cons, List.map_nil]
        rw [show (240 + (m : Int) / 262144).toNat = 240 + m / 262144 from by omega, show (128 + (m : Int) / 4096 % 64).toNat = 128 + m / 4096 % 64 from by omega, show (128 + (m : Int) / 64 % 64).toNat = 128 + m / 64 % 64 from by omega, show (128 + (m : Int) % 64).toNat = 128 + m % 64 from by omega]
/-- Bytes, as bytes. -/
def rawL (l : List Int) : List UInt8 := l.map fun n => UInt8.ofNat n.toNat
theorem strCells_of (l : List Int) : Lib.strCells (strOfNums l) = Lib.byteCells (rawL l) := rfl
theorem rawL_app (a b : List Int) : rawL (a ++ b) = rawL a ++ rawL b := by simp [rawL]
theorem byteCells_app (a b : List UInt8) : Lib.byteCells (a ++ b) = Lib.byteCells a ++ Lib.byteCells b := by simp [Lib.byteCells]
theorem textS_raw (l : List Int) : (⟨(rawL (bytesOfL l)).toArray⟩ : ByteArray) = textS l := rfl
theorem bytesOf_snoc (l : List Int) (n : Int) : bytesOfL (l ++ [n]) = bytesOfL l ++ bytesL n := by simp [bytesOfL]
theorem bt_shift (s : ByteArray) (a j : Nat) : bt (s.extract a s.size) (j : Int) = bt s ((a : Int) + (j : Int)) := by
  by_cases h : a + j < s.size
  · have := bt_extract s a j h; rw [this]; congr 1
  · have h1 : ¬ j < (s.extract a s.size).size := by rw [ByteArray.size_extract]; omega
    unfold bt
    rw [dif_neg (by omega), dif_neg (by omega)]
theorem first_shift (s : ByteArray) (a : Nat) (h : a ≤ s.size) : first (s.extract a s.size) 0 = first s a := by
  have b0 := bt_shift s a 0
  have b1 := bt_shift s a 1
  have b2 := bt_shift s a 2
  have b3 := bt_shift s a 3
  have hs : (s.extract a s.size).size = s.size - a := by rw [ByteArray.size_extract]; omega
  simp only [Int.natCast_zero, Int.natCast_one, Int.add_zero, show ((2 : Nat) : Int) = 2 from rfl, show ((3 : Nat) : Int) = 3 from rfl] at b0 b1 b2 b3
  unfold first
  rw [ok1, ok2, ok3, ok4, ok1, ok2, ok3, ok4, cand1, cand2, cand3, cand4, cand1, cand2, cand3, cand4, hs]
  simp only [Int.zero_add, b0, b1, b2, b3]
  simp only [show ∀ k : Int, (k ≤ ((s.size - a : Nat) : Int)) = ((a : Int) + k ≤ (s.size : Int)) from fun k => propext (by omega)]
theorem isb_keeps {S : List Nat} {T e : TypeId} {B b : Nat} {bs : List Value} {w w1 : World} (h : Lib.IsBuilderF T e B b bs w) (hk : Keeps S w w1) (hS : ∀ k, k ∈ S → k < B) : Lib.IsBuilderF T e B b bs w1 := by
  have key : ∀ p, Lib.BuilderAtF T e B b p bs w → Lib.BuilderAtF T e B b p bs w1 := by
    rintro p ⟨hB, v, hb, hown, hne⟩
    refine ⟨hB, v, hk.heap hb (fun hm => by have := hS _ hm; omega), ?_, hne⟩
    refine ⟨hown.1, ?_⟩
    rcases hown.2 with hn | ⟨g, cap, cur, fz, rfl, hg, hgg, rest⟩
    · exact .inl hn
    · exact .inr ⟨g, cap, cur, fz, rfl, hg, hk.heap hgg (fun hm => by have := hS _ hm; omega), rest⟩
  exact h.imp (key _) (key _)
end Go.Proofs.YtdlkdecigpaaaaaGreatDoor
namespace Go.Proofs.YtdlkdecigpaaaaaGreatDoor
set_option linter.unusedVariables false
set_option linter.unusedSimpArgs false
open Go.RowKit

/-- Block h of w is a token of these cells. -/
def TkAt (h : Nat) (cs : Array Value) (w : World) : Prop := w.heap[h]? = some (.cells cs 230 (0, 0))
/-- What a reader leaves of the token, where it tells no error. -/
def Told (h : Nat) (code : Int) (cs : Array Value) (w : World) : Prop := code = 0 → TkAt h cs w
theorem keeps_belowB {S : List Nat} {w w1 w2 : World} (h : Keeps S w w1) (k : Below w.heap.size w1 w2) : Keeps S w w2 :=
  ⟨k.os.trans h.os, k.tape.trans h.tape, k.output.trans h.output, Nat.le_trans h.size k.size, fun i hi hn => (k.block i hi).trans (h.block i hi hn)⟩
theorem tk_keeps {S : List Nat} {h : Nat} {cs : Array Value} {w w1 : World} (ht : TkAt h cs w) (k : Keeps S w w1) (hn : h ∉ S) : TkAt h cs w1 := k.heap ht hn
theorem lex_keeps {S : List Nat} {s : ByteArray} {i : Int} {g : Nat} {w w1 : World} (hl : Lex s i g w) (k : Keeps S w w1) (hn : g ∉ S) : Lex s i g w1 := k.heap hl hn
theorem bytesOf_enc {n : Int} (h : pointB n = true) (l : List Int) : Lib.byteCells (rawL (bytesOfL l)) ++ Lib.strCells (encS n) = Lib.byteCells (rawL (bytesOfL (l ++ [n]))) := by
  rw [enc_str h, strCells_of, bytesOf_snoc, rawL_app, byteCells_app]
theorem raw_len (l : List Int) : (Lib.byteCells (rawL (bytesOfL l))).length ≤ 4 * l.length := by
  have := bytesOf_len l
  simpa [Lib.byteCells, rawL] using this
theorem enc_len {n : Int} : (encS n).size ≤ 4 := by
  unfold encS; split
  · rename_i h; have e := enc_str h; unfold encS at e; rw [if_pos h] at e; rw [e, strOfNums_size]; exact bytesL_len4 n
  · show (0 : Nat) ≤ 4; omega
/-- What holds at the head of a round. -/
structure TextAt (s : ByteArray) (p : Int) (g h : Nat) (t : ByteArray) (v a e : Int) (w : World) (j : Int) (acc : List Int) (W : World) : Prop where
  lex : Lex s j g W
  tok : TkAt h #[.int .i64 2, .string t, .int .i64 v, .int .i64 a, .int .i64 e] W
  bld : Lib.IsBuilderF 119 5 w.heap.size w.heap.size (Lib.byteCells (rawL (bytesOfL acc))) W
  keep : Keeps [g, h] w W
  says : textOf s p = textAt s j acc
  few : (acc.length : Int) ≤ j
theorem TextAt.snoc {s : ByteArray} {p : Int} {g h : Nat} {t : ByteArray} {v a e : Int} {w : World} {j j' : Int} {acc : List Int} {n : Int} {W1 : World} (k : TkAt h #[.int .i64 2, .string t, .int .i64 v, .int .i64 a, .int .i64 e] W1) (hl : Lex s j' g W1) (hk : Keeps [g, h] w W1)
    (hb : Lib.IsBuilderF 119 5 w.heap.size w.heap.size (Lib.byteCells (rawL (bytesOfL acc)) ++ Lib.strCells (encS n)) W1) (hn : pointB n = true) (hs : textOf s p = textAt s j' (acc ++ [n])) (hf : (acc.length : Int) ≤ j) (hj : j < j') : TextAt s p g h t v a e w j' (acc ++ [n]) W1 :=
  ⟨hl, k, bytesOf_enc hn acc ▸ hb, hk, hs, by simp; omega⟩
theorem TextAt.step {s : ByteArray} {p : Int} {g h : Nat} {t : ByteArray} {v a e : Int} {w : World} {j : Int} {acc : List Int} {W W1 : World} (H : TextAt s p g h t v a e w j acc W) (k : Keeps [] W W1) (hg : g < w.heap.size) (hh : h < w.heap.size) : TextAt s p g h t v a e w j acc W1 :=
  ⟨lex_keeps H.lex k (by simp), tk_keeps H.tok k (by simp), isb_keeps H.bld k (by simp), keeps0 H.keep k, H.says, H.few⟩
theorem TextAt.below {s : ByteArray} {p : Int} {g h : Nat} {t : ByteArray} {v a e : Int} {w : World} {j : Int} {acc : List Int} {W W1 : World} (H : TextAt s p g h t v a e w j acc W) (k : Below W.heap.size W W1) (hg : g < w.heap.size) (hh : h < w.heap.size) : TextAt s p g h t v a e w j acc W1 :=
  H.step (Keeps.below k) hg hh
set_option maxRecDepth 20000 in
set_option maxHeartbeats 4000000 in
theorem ltext_any (s : ByteArray) (p : Int) (g h : Nat) (k : Int) (t : ByteArray) (v a e : Int) (w : World) (hl : Lex s p g w) (ht : TkAt h #[.int .i64 k, .string t, .int .i64 v, .int .i64 a, .int .i64 e] w) (hgh : g ≠ h) (h0 : 0 ≤ p) (h1 : p < s.size) (hs : s.size ≤ 1000000) :
    Calls Tryz.prog 196 #[.pointer (some ⟨g, 0, none⟩), .pointer (some ⟨h, 0, none⟩)] w fun e' w' => e' = .returned (.int .i64 (textOf s p).2.2) ∧ Lex s (textOf s p).2.1 g w' ∧
      Told h (textOf s p).2.2 #[.int .i64 2, .string (textS (textOf s p).1), .int .i64 v, .int .i64 a, .int .i64 e] w' ∧ Keeps [g, h] w w' := by
  have HL := Lib.hid hl
  have HT := Lib.hid ht
  have hc := cell_blk hl
  have hf := frozen_blk hl
  have tc := cell_blk ht
  have tf := frozen_blk ht
  have hglt := hk_lt hl
  have hhlt := hk_lt ht
  clear hl ht
  go_enter Tryz.func196, Tryz.ntmps196
  go_wp2
  clear hc hf tc tf
  go_loopw [] (fun W => ∃ (j : Int) (acc : List Int), p + 1 ≤ j ∧ j ≤ s.size ∧ Hid (TextAt s p g h t v a e w j acc W)) (fun W => match W.cell? ⟨g, 1, none⟩ with | some (.int _ j) => s.size + 1 - j.toNat | _ => 0)
  case atStart =>
    refine ⟨p + 1, [], by omega, by omega, Lib.hid ⟨?_, ?_, ?_, ?_, rfl, by simp; omega⟩⟩
    · exact hk_alloc (lex_set (w := w.setCell ⟨h, 0, none⟩ (.int .i64 2)) (hk_set HL.out (p := ⟨h, 0, none⟩) hgh _)) _
    · exact hk_alloc (hk_set (set_to HT.out 0 (.int .i64 2) rfl) (p := ⟨g, 1, none⟩) (Ne.symm hgh) _) _
    · refine .inl ⟨Nat.le_refl _, .slice none 0 0, ?_, World.ownsRowF_nil _ _ _ _, by simp [Value.ownBlock]⟩
      have := new_blk ((w.setCell ⟨h, 0, none⟩ (.int .i64 2)).setCell ⟨g, 1, none⟩ (.int .i64 (p + 1))) (.cells #[.pointer none, .slice none 0 0] 119)
      simpa only [World.size_setCell] using this
    · exact (((Keeps.refl _ _).set (.inl (by simp)) _).set (.inl (by simp)) _).alloc _
  case round =>
    obtain ⟨j, acc, hj0, hj1, H⟩ := hrel
    have HS := Lib.hid (H.out.says.trans (textAt_step (by omega)))
    have HQ := Lib.hid (has_byte s j 34)
    have hj00 : 0 ≤ j := by omega
    have tc := cell_blk H.out.tok
    have tf := frozen_blk H.out.tok
    have hB := H.out.keep.size
    cases c1 : isAt s j 34 with
    | true =>
      have hb34 : j < s.size ∧ bt s j = 34 := by simp only [isAt, Bool.and_eq_true, decide_eq_true_eq, beq_iff_eq] at c1; exact c1
      have HZ : Hid (textOf s p = (acc, j + 1, 0)) := Lib.hid (by rw [HS.out, if_neg (by omega), if_pos hb34.2])
      have HQt := Lib.hid (HQ.out.trans c1)
      clear c1 hb34 HS HQ
      go_wp2_with fail; refine (one_kyes H.out.lex hj00 hs HQt.out).mono ?_; rintro e w1 ⟨rfl, hl1, hk1⟩; have HX1 := Lib.hid (And.intro hl1 hk1); clear hl1 hk1; have hc1 := cell_blk HX1.out.1; have hf1 := frozen_blk HX1.out.1
      have HST := Lib.hid (fun W hW hB => Tryz.Builder_String_any_k w.heap.size w.heap.size (rawL (bytesOfL acc)) W hW hB)
      have HB1 := Lib.hid (isb_keeps H.out.bld HX1.out.2 (by simpa using hglt))
      have tc1 := cell_blk (tk_keeps H.out.tok HX1.out.2 (by simpa using Ne.symm hgh))
      have HTS : Hid (textOf s p = (acc, j + 1, 0)) := HZ
      go_wp2_with fail
      refine (HST.out _ HB1.out (by have := HX1.out.2.size; omega)).mono ?_
      rintro e' w2 ⟨rfl, hb2, hbe2, _⟩
      have HW2 : Hid (Lex s (j + 1) g w2 ∧ TkAt h #[.int .i64 2, .string t, .int .i64 v, .int .i64 a, .int .i64 e] w2 ∧ Keeps [g, h] w w2) := Lib.hid
        ⟨hk_belowN HX1.out.1 hbe2 hglt, hk_belowN (tk_keeps H.out.tok HX1.out.2 (by simpa using Ne.symm hgh)) hbe2 hhlt, keeps_belowB (keepsg H.out.keep HX1.out.2 (by simp)) hbe2⟩
      clear hb2 hbe2
      have tc2 := cell_blk HW2.out.2.1
      have tf2 := frozen_blk HW2.out.2.1
      have HSS := Lib.hid (textS_raw acc)
      go_wp2
      go_ret
      rw [HTS.out]
      refine ⟨rfl, hk_set HW2.out.1 (p := ⟨h, 1, none⟩) hgh _, fun _ => ?_, HW2.out.2.2.set (.inl (by simp)) _⟩
      rw [← HSS.out]
      exact set_to HW2.out.2.1 1 _ rfl
    | false =>
      have HQf := Lib.hid (HQ.out.trans c1)
      have hne : j < s.size → ¬ bt s j = 34 := fun hlt hb => by simp [isAt, hlt, hb] at c1
      clear c1 HQ
      by_cases c2 : j < s.size
      · have hd2 : (j == (s.size : Int)) = false := by simp; omega
        have hne := hne c2
        have hbj := bt_at s j
        by_cases c3 : bt s j < 32
        · have HZ : Hid (textOf s p = ([], j, 1)) := Lib.hid (HS.out.trans (if_pos (.inr c3)))
          have hd3 : decide (bt s j < 32) = true := by simpa using c3
          clear HS hne
          go_wp2_with fail; refine (one_kno H.out.lex hj00 HQf.out).mono ?_; rintro e w1 ⟨rfl, hl1, hk1⟩; have HX1 := Lib.hid (And.intro hl1 hk1); clear hl1 hk1; have hc1 := cell_blk HX1.out.1; have hf1 := frozen_blk HX1.out.1
          have HX1b := Lib.hid (H.out.step HX1.out.2 hglt hhlt)
          go_upto_region 5 with (fail)
          go_quiet (fail)
          go_wp2
          go_ret
          rw [HZ.out]
          exact ⟨rfl, HX1.out.1, fun h => by simp at h, HX1b.out.keep.drewN _⟩
        · have hd3 : decide (bt s j < 32) = false := by simpa using c3
          have HS2 := Lib.hid ((HS.out.trans (if_neg (by omega))).trans (if_neg hne))
          have HQ2 := Lib.hid (has_byte s j 92)
          clear HS hne
          go_wp2_with fail; refine (one_kno H.out.lex hj00 HQf.out).mono ?_; rintro e w1 ⟨rfl, hl1, hk1⟩; have HX1 := Lib.hid (And.intro hl1 hk1); clear hl1 hk1; have hc1 := cell_blk HX1.out.1; have hf1 := frozen_blk HX1.out.1
          have HX1b := Lib.hid (H.out.step HX1.out.2 hglt hhlt)
          go_upto_region 5 with (fail)
          go_quiet (fail)
          have H2 := Lib.hid (HX1b.out.step ((Keeps.refl [] w1).drewN nq) hglt hhlt)
          generalize w1.drewN nq = w2 at H2 ⊢
          have HM := Lib.hid (lex_at H.out.lex)
          clear HX1b HX1 hc1 hf1 HQf H tc tf hB
          have hB2 := H2.out.keep.size
          have HWR := Lib.hid (fun W bs (s : ByteArray) hb hl hB => write_any w.heap.size w.heap.size bs s W hb hl hB)
          have HEN := Lib.hid (fun n W => enc_any n W)
          have HRL := Lib.hid (raw_len acc)
          cases c4 : isAt s j 92 with
          | true =>
            have hb4 : bt s j = 92 := by simp only [isAt, Bool.and_eq_true, decide_eq_true_eq, beq_iff_eq] at c4; exact c4.2
            have HS3 := Lib.hid (HS2.out.trans (if_pos hb4))
            have HQt := Lib.hid (HQ2.out.trans c4)
            have HOK := Lib.hid (escape_ok (s := s) (i := j) hj00 · c2)
            clear c4 hb4 HQ2 HS2 hbj hd3 c3
            go_wp2_with fail; refine (has_k H2.out.lex hj00 HQt.out).mono ?_; rintro e w3 ⟨rfl, hl3, hk3⟩; have HX3 := Lib.hid (And.intro hl3 hk3); clear hl3 hk3; have hc3 := cell_blk HX3.out.1; have hf3 := frozen_blk HX3.out.1
            have H3 := Lib.hid (H2.out.step HX3.out.2 hglt hhlt)
            have HE := Lib.hid (lesc_any s j g _ H3.out.lex hj00 c2 hs)
            generalize escape s j = x at *
            obtain ⟨n, e1, code⟩ := x
            simp only at HS3 HOK HE
            go_wp2_with fail
            refine HE.out.mono ?_
            rintro e' w4 ⟨rfl, hl4, hk4⟩
            have HX4 := Lib.hid (And.intro hl4 (And.intro (keepsg H3.out.keep hk4 (by simp)) (And.intro (tk_keeps H3.out.tok hk4 (by simpa using Ne.symm hgh)) (isb_keeps H3.out.bld hk4 (by simpa using hglt)))))
            clear hl4 hk4
            by_cases c5 : code = 0
            · subst c5
              have HZ := Lib.hid (HS3.out.trans (if_pos rfl))
              obtain ⟨o1, o2, o3⟩ := HOK.out rfl
              have HO3 := Lib.hid o3
              clear o3 HOK HS3 HE
              go_wp2_with (go_at_call 203; refine (HEN.out _ _).mono ?_; rintro e' w' ⟨rfl, rfl⟩)
              have hB4 := HX4.out.2.1.size
              refine (HWR.out _ _ _ HX4.out.2.2.2 (by have h1 := HRL.out; have h2 := enc_len (n := n); have h3 := H2.out.few; omega) hB4).mono ?_
              rintro e' w5 ⟨rfl, hb5, hbe5, _⟩
              have HX5 := Lib.hid (TextAt.snoc (j := j) (j' := e1) (hk_belowN HX4.out.2.2.1 hbe5 hhlt) (hk_belowN HX4.out.1 hbe5 hglt) (keeps_belowB HX4.out.2.1 hbe5) (.inr hb5) HO3.out HZ.out H2.out.few (by omega))
              clear hb5 hbe5
              go_wp2
              go_roundw
              case rel => exact ⟨e1, acc ++ [n], by omega, o2, HX5⟩
              case measure =>
                have m1 := lex_at HX5.out.lex
                have m2 := HM.out
                simp only [m1, m2]
                omega
            · have hc5 : (code == 0) = false := by simp [c5]
              have hc5b : (code != 0) = true := by simp [c5]
              have HZ := Lib.hid (HS3.out.trans (if_neg c5))
              have HC5 := Lib.hid c5
              clear c5 HOK HS3 HE
              go_wp2
              go_ret
              rw [HZ.out]
              exact ⟨rfl, HX4.out.1, fun h => absurd h HC5.out, HX4.out.2.1⟩
          | false =>
            have hb4 : ¬ bt s j = 92 := fun hb => by simp [isAt, c2, hb] at c4
            have HS3 := Lib.hid (HS2.out.trans (if_neg hb4))
            have HQf := Lib.hid (HQ2.out.trans c4)
            have HFR := Lib.hid (first_range (s := s) (i := j))
            have HSH := Lib.hid (first_shift s j.toNat (by omega))
            clear c4 hb4 HQ2 HS2 hbj hd3 c3
            go_wp2_with fail; refine (has_k H2.out.lex hj00 HQf.out).mono ?_; rintro e w3 ⟨rfl, hl3, hk3⟩; have HX3 := Lib.hid (And.intro hl3 hk3); clear hl3 hk3; have hc3 := cell_blk HX3.out.1; have hf3 := frozen_blk HX3.out.1
            have H3 := Lib.hid (H2.out.step HX3.out.2 hglt hhlt)
            have HDC := Lib.hid (fun W => dec_any (s.extract j.toNat s.size) W)
            rw [HSH.out, Int.toNat_of_nonneg hj00] at HDC
            generalize first s j = x at *
            obtain ⟨n, m⟩ := x
            simp only at HS3 HFR HDC
            have c30 := hc3 0
            have c31 := hc3 1
            clear HSH
            go_upto_region 12 with (fail)
            go_region_held3 (fun W' => W'.cell? ⟨g, 0, none⟩ = some (.string s) ∧ W'.cell? ⟨g, 1, none⟩ = some (.int .i64 j)) (go_keep) (first | (go_at_call 204; refine (HDC.out _).mono ?_; rintro e' w4 ⟨rfl, hb4⟩; have hb4' : Below w3.heap.size w3 w4 := ⟨hb4.os, hb4.tape, hb4.output, hb4.size, hb4.block⟩; have H4 := Lib.hid (H3.out.below hb4' hglt hhlt); have K0 : w4.cell? ⟨g, 0, none⟩ = some (.string s) := cell_blk H4.out.lex 0; have K1 : w4.cell? ⟨g, 1, none⟩ = some (.int .i64 j) := cell_blk H4.out.lex 1; clear hb4 hb4'))
            by_cases c5 : m = 0
            · have hc5 : (m == 0) = true := by simp [c5]
              have HZ := Lib.hid (HS3.out.trans (if_pos c5))
              clear c5 HS3 HFR HDC
              go_wp2
              go_ret
              rw [HZ.out]
              exact ⟨rfl, H4.out.lex, fun h => by simp at h, H4.out.keep⟩
            · have hc5 : (m == 0) = false := by simp [c5]
              have HZ := Lib.hid (HS3.out.trans (if_neg c5))
              have HF2 : Hid (1 ≤ m ∧ m ≤ 4 ∧ j + m ≤ s.size ∧ pointB n = true) := Lib.hid (by rcases HFR.out with h | h; exact absurd h.1 c5; exact h)
              obtain ⟨o1, o2, o3, _⟩ := HF2.out
              have HB4 := Lib.hid H4.out.bld
              have hB4 := H4.out.keep.size
              clear c5 HS3 HFR HDC K0 K1 c30 c31 hc3 hf3
              go_wp2_with (go_at_call 203; refine (HEN.out _ _).mono ?_; rintro e' w' ⟨rfl, rfl⟩)
              refine (HWR.out _ _ _ HB4.out (by have h1 := HRL.out; have h2 := enc_len (n := n); have h3 := H2.out.few; omega) hB4).mono ?_
              rintro e' w5 ⟨rfl, hb5, hbe5, _⟩
              have HX5 := Lib.hid (And.intro (hk_belowN H4.out.lex hbe5 hglt : Lex s j g w5) (And.intro (hk_belowN H4.out.tok hbe5 hhlt : TkAt h _ w5) (And.intro (keeps_belowB H4.out.keep hbe5) hb5)))
              clear hb5 hbe5
              have hc5 := cell_blk HX5.out.1
              have hf5 := frozen_blk HX5.out.1
              go_wp2
              have HX6 := Lib.hid (TextAt.snoc (j := j) (j' := j + m) (hk_set HX5.out.2.1 (p := ⟨g, 1, none⟩) (Ne.symm hgh) (.int .i64 (j + m))) (lex_set HX5.out.1) (HX5.out.2.2.1.set (.inl (by simp)) _) (isb_keeps (S := [g]) (.inr HX5.out.2.2.2) ((Keeps.refl _ _).set (.inl (by simp)) _) (by simpa using hglt)) HF2.out.2.2.2 HZ.out H2.out.few (by omega))
              go_roundw
              case rel => exact ⟨j + m, acc ++ [n], by omega, o3, HX6⟩
              case measure =>
                have m1 := lex_at HX6.out.lex
                have m2 := HM.out
                simp only [m1, m2]
                omega
      · have hd2 : (j == (s.size : Int)) = true := by simp; omega
        have HZ : Hid (textOf s p = ([], j, 1)) := Lib.hid (HS.out.trans (if_pos (.inl c2)))
        clear HS hne
        go_wp2_with fail; refine (one_kno H.out.lex hj00 HQf.out).mono ?_; rintro e w1 ⟨rfl, hl1, hk1⟩; have HX1 := Lib.hid (And.intro hl1 hk1); clear hl1 hk1; have hc1 := cell_blk HX1.out.1; have hf1 := frozen_blk HX1.out.1
        have HX1b := Lib.hid (H.out.step HX1.out.2 hglt hhlt)
        go_upto_region 5 with (fail)
        go_quiet (fail)
        go_wp2
        go_ret
        rw [HZ.out]
        exact ⟨rfl, HX1.out.1, fun h => by simp at h, HX1b.out.keep.drewN _⟩
end Go.Proofs.YtdlkdecigpaaaaaGreatDoor
namespace Go.Proofs.YtdlkdecigpaaaaaGreatDoor
set_option linter.unusedVariables false
set_option linter.unusedSimpArgs false
open Go.RowKit

/-- A text is the end of another, from a place on. -/
structure Sh (u s : ByteArray) (k : Int) : Prop where
  k0 : 0 ≤ k
  sz : (s.size : Int) = k + u.size
  b : ∀ i, 0 ≤ i → bt u i = bt s (k + i)
theorem sh_extract {s : ByteArray} {k : Int} (h0 : 0 ≤ k) (h1 : k ≤ s.size) : Sh (s.extract k.toNat s.size) s k := by
  refine ⟨h0, by simp only [ByteArray.size_extract]; omega, fun i hi => ?_⟩
  have := bt_shift s k.toNat i.toNat
  rwa [Int.toNat_of_nonneg h0, Int.toNat_of_nonneg hi] at this
section
variable {u s : ByteArray} {k : Int}
theorem Sh.lt (h : Sh u s k) (i : Int) : (i < u.size) = (k + i < s.size) := by have := h.sz; exact propext (by omega)
theorem Sh.isAt (h : Sh u s k) {i : Int} (hi : 0 ≤ i) (c : Int) : isAt s (k + i) c = isAt u i c := by
  unfold Go.Proofs.YtdlkdecigpaaaaaGreatDoor.isAt; rw [h.b i hi]; simp only [h.lt i]
theorem Sh.hexAt (h : Sh u s k) {i : Int} (hi : 0 ≤ i) : hexAt s (k + i) = hexAt u i := by
  unfold Go.Proofs.YtdlkdecigpaaaaaGreatDoor.hexAt; rw [h.b i hi]; simp only [h.lt i]
theorem Sh.escAt (h : Sh u s k) {i : Int} (hi : 0 ≤ i) : escAt s (k + i) = escAt u i := by
  unfold Go.Proofs.YtdlkdecigpaaaaaGreatDoor.escAt; rw [h.b i hi]; simp only [h.lt i]
theorem Sh.fourF (h : Sh u s k) : ∀ (j : Nat) (n i : Int), 0 ≤ i → fourF s j n (k + i) = ((fourF u j n i).1, k + (fourF u j n i).2)
  | 0, _, _, _ => rfl
  | j + 1, n, i, hi => by
    have e := Sh.fourF h j (n * 16 + Go.Proofs.YtdlkdecigpaaaaaGreatDoor.hexAt u i) (i + 1) (by omega)
    unfold Go.Proofs.YtdlkdecigpaaaaaGreatDoor.fourF
    rw [h.hexAt hi]
    split
    · rfl
    · rw [← e, Int.add_assoc]
theorem Sh.four (h : Sh u s k) {i : Int} (hi : 0 ≤ i) : four s (k + i) = ((four u i).1, k + (four u i).2) := h.fourF 4 0 i hi
theorem Sh.escape (h : Sh u s k) {i : Int} (hi : 0 ≤ i) : escape s (k + i) = ((escape u i).1, k + (escape u i).2.1, (escape u i).2.2) := by
  have f := four_range u (i + 2)
  have e1 := h.escAt (i := i + 1) (by omega)
  have e2 := h.isAt (i := i + 1) (by omega) 117
  have e3 := h.four (i := i + 2) (by omega)
  have e4 := h.isAt (i := (Go.Proofs.YtdlkdecigpaaaaaGreatDoor.four u (i + 2)).2) (by omega) 92
  have e5 := h.isAt (i := (Go.Proofs.YtdlkdecigpaaaaaGreatDoor.four u (i + 2)).2 + 1) (by omega) 117
  have e6 := h.four (i := (Go.Proofs.YtdlkdecigpaaaaaGreatDoor.four u (i + 2)).2 + 2) (by omega)
  rw [← Int.add_assoc] at e1 e2 e3 e5 e6
  unfold Go.Proofs.YtdlkdecigpaaaaaGreatDoor.escape
  simp only [e1, e2, e3, e4, e5, e6]
  repeat' split
  all_goals first | rfl | (simp only [Int.add_assoc])
theorem Sh.candF (h : Sh u s k) {i : Int} (hi : 0 ≤ i) (n : Nat) : ∀ j : Nat, candF s (k + i) n j = candF u i n j
  | 0 => by unfold Go.Proofs.YtdlkdecigpaaaaaGreatDoor.candF; rw [h.b i hi]
  | j + 1 => by unfold Go.Proofs.YtdlkdecigpaaaaaGreatDoor.candF; rw [Sh.candF h hi n j, h.b (i + (j + 1 : Nat)) (by omega), Int.add_assoc]
theorem Sh.atL (h : Sh u s k) : ∀ (l : List Int) {i : Int}, 0 ≤ i → atL s (k + i) l = atL u i l
  | [], _, _ => rfl
  | c :: l, i, hi => by unfold Go.Proofs.YtdlkdecigpaaaaaGreatDoor.atL; rw [h.b i hi, Int.add_assoc, Sh.atL h l (by omega)]
theorem Sh.okAt (h : Sh u s k) {i : Int} (hi : 0 ≤ i) (n : Nat) : okAt s (k + i) n = okAt u i n := by
  have hc : cand s (k + i) n = cand u i n := h.candF hi n _
  unfold Go.Proofs.YtdlkdecigpaaaaaGreatDoor.okAt
  rw [hc, h.atL _ hi]
  have : (k + i + n ≤ s.size) = (i + n ≤ u.size) := propext (by have := h.sz; omega)
  simp only [this]
theorem Sh.first (h : Sh u s k) {i : Int} (hi : 0 ≤ i) : first s (k + i) = first u i := by
  have hc : ∀ n, cand s (k + i) n = cand u i n := fun n => h.candF hi n _
  unfold Go.Proofs.YtdlkdecigpaaaaaGreatDoor.first
  simp only [h.okAt hi, hc]
theorem Sh.textF (h : Sh u s k) : ∀ (m : Nat) (i : Int) (acc : List Int), 0 ≤ i → textF s m (k + i) acc = ((textF u m i acc).1, k + (textF u m i acc).2.1, (textF u m i acc).2.2)
  | 0, _, _, _ => rfl
  | m + 1, i, acc, hi => by
    unfold Go.Proofs.YtdlkdecigpaaaaaGreatDoor.textF
    rw [← h.b i hi, h.escape hi, h.first hi]
    simp only [← h.lt i]
    by_cases c1 : ¬ i < u.size ∨ bt u i < 32
    · rw [if_pos c1, if_pos c1]
    · rw [if_neg c1, if_neg c1]
      by_cases c2 : bt u i = 34
      · rw [if_pos c2, if_pos c2]; simp only [Int.add_assoc]
      · rw [if_neg c2, if_neg c2]
        by_cases c3 : bt u i = 92
        · rw [if_pos c3, if_pos c3]
          by_cases c4 : (Go.Proofs.YtdlkdecigpaaaaaGreatDoor.escape u i).2.2 = 0
          · have hp := (escape_place (s := u) (i := i) hi (by omega)).1
            rw [if_pos c4, if_pos c4, Sh.textF h m _ _ (by omega)]
          · rw [if_neg c4, if_neg c4]
        · rw [if_neg c3, if_neg c3]
          by_cases c4 : (Go.Proofs.YtdlkdecigpaaaaaGreatDoor.first u i).2 = 0
          · rw [if_pos c4, if_pos c4]
          · rw [if_neg c4, if_neg c4, Int.add_assoc, Sh.textF h m _ _ (by have := first_range (s := u) (i := i); omega)]
theorem Sh.textAt (h : Sh u s k) {i : Int} (hi : 0 ≤ i) (acc : List Int) : textAt s (k + i) acc = ((textAt u i acc).1, k + (textAt u i acc).2.1, (textAt u i acc).2.2) := by
  unfold Go.Proofs.YtdlkdecigpaaaaaGreatDoor.textAt
  rw [show s.size + 1 - (k + i).toNat = u.size + 1 - i.toNat from by have := h.sz; have := h.k0; omega]
  exact h.textF _ i acc hi
theorem Sh.textOf (h : Sh u s k) {i : Int} (hi : 0 ≤ i) : textOf s (k + i) = ((textOf u i).1, k + (textOf u i).2.1, (textOf u i).2.2) := by
  have := h.textAt (i := i + 1) (by omega) []
  rwa [← Int.add_assoc] at this
/-- A Str at a place, as it is at the head of the text's end. -/
theorem Sh.str (h : Sh u s k) : (strF s k).1.text = (strF u 0).1.text ∧ ((strF s k).2.2 = (strF u 0).2.2) ∧ ((strF u 0).2.2 = 0 → (strF s k).1.stop = k + (strF u 0).1.stop) ∧ ((strF u 0).2.2 ≠ 0 → (strF s k).2.1 = k + (strF u 0).2.1) := by
  have e := h.textOf (i := 0) (by omega)
  rw [Int.add_zero] at e
  unfold strF
  rw [e]
  by_cases c : (Go.Proofs.YtdlkdecigpaaaaaGreatDoor.textOf u 0).2.2 = 0
  · rw [if_pos c, if_pos c]; exact ⟨rfl, rfl, fun _ => rfl, fun h => absurd rfl h⟩
  · rw [if_neg c, if_neg c]; exact ⟨rfl, rfl, fun h => absurd h c, fun _ => rfl⟩
theorem textF_bound (s : ByteArray) : ∀ (m : Nat) (i : Int) (acc : List Int), 0 ≤ i → i ≤ s.size → i ≤ (textF s m i acc).2.1 ∧ (textF s m i acc).2.1 ≤ s.size + 12
  | 0, i, acc, _, h1 => by unfold Go.Proofs.YtdlkdecigpaaaaaGreatDoor.textF; simp only; omega
  | m + 1, i, acc, h0, h1 => by
    unfold Go.Proofs.YtdlkdecigpaaaaaGreatDoor.textF
    by_cases c1 : ¬ i < s.size ∨ bt s i < 32
    · rw [if_pos c1]; simp only; omega
    · rw [if_neg c1]
      by_cases c2 : bt s i = 34
      · rw [if_pos c2]; simp only; omega
      · rw [if_neg c2]
        by_cases c3 : bt s i = 92
        · rw [if_pos c3]
          have hp := escape_place (s := s) (i := i) h0 (by omega)
          by_cases c4 : (Go.Proofs.YtdlkdecigpaaaaaGreatDoor.escape s i).2.2 = 0
          · rw [if_pos c4]
            have he := escape_ok h0 c4 (by omega)
            have := textF_bound s m (Go.Proofs.YtdlkdecigpaaaaaGreatDoor.escape s i).2.1 (acc ++ [(Go.Proofs.YtdlkdecigpaaaaaGreatDoor.escape s i).1]) (by omega) he.2.1
            exact ⟨Int.le_trans hp.1 this.1, this.2⟩
          · rw [if_neg c4]; exact ⟨hp.1, Int.le_trans hp.2 (by omega)⟩
        · rw [if_neg c3]
          by_cases c4 : (Go.Proofs.YtdlkdecigpaaaaaGreatDoor.first s i).2 = 0
          · rw [if_pos c4]; simp only; omega
          · rw [if_neg c4]
            have hf := first_range (s := s) (i := i)
            have := textF_bound s m (i + (Go.Proofs.YtdlkdecigpaaaaaGreatDoor.first s i).2) (acc ++ [(Go.Proofs.YtdlkdecigpaaaaaGreatDoor.first s i).1]) (by omega) (by omega)
            exact ⟨Int.le_trans (by omega) this.1, this.2⟩
theorem str_bound {s : ByteArray} {q : Int} (h0 : 0 ≤ q) (h1 : q < s.size) : ((strF s q).2.2 ≠ 0 → q ≤ (strF s q).2.1 ∧ (strF s q).2.1 ≤ s.size + 12) ∧ ((strF s q).2.2 = 0 → q ≤ (strF s q).1.stop ∧ (strF s q).1.stop ≤ s.size + 12) := by
  have h : q + 1 ≤ (Go.Proofs.YtdlkdecigpaaaaaGreatDoor.textOf s q).2.1 ∧ (Go.Proofs.YtdlkdecigpaaaaaGreatDoor.textOf s q).2.1 ≤ s.size + 12 := textF_bound s _ (q + 1) [] (by omega) (by omega)
  unfold strF
  by_cases c : (Go.Proofs.YtdlkdecigpaaaaaGreatDoor.textOf s q).2.2 = 0
  · rw [if_pos c]; exact ⟨fun h => absurd rfl h, fun _ => ⟨Int.le_trans (by omega) h.1, h.2⟩⟩
  · rw [if_neg c]; exact ⟨fun _ => ⟨Int.le_trans (by omega) h.1, h.2⟩, fun h => absurd h c⟩
theorem next_str {u : ByteArray} (h : isAt u 0 34 = true) : nextF u 0 = strF u 0 := by
  have hl := isAt_lt h
  have hb : bt u 0 = 34 := by
    have h2 := h
    simp only [Go.Proofs.YtdlkdecigpaaaaaGreatDoor.isAt, Bool.and_eq_true, beq_iff_eq] at h2
    exact h2.2
  have hq : blanks u 0 = 0 := by
    have hn : isBlank u 0 = false := by simp [isBlank, Go.Proofs.YtdlkdecigpaaaaaGreatDoor.isAt, hb]
    exact upTo_stop hn
  unfold nextF
  rw [hq, if_pos hl]
  unfold tokF
  rw [hb]
  rfl
end
end Go.Proofs.YtdlkdecigpaaaaaGreatDoor
