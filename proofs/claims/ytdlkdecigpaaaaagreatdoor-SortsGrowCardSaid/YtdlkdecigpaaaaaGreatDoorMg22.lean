/- Put together: The lexer's Next; The document's Blanks. -/
import Derived.Test.YtdlkdecigpaaaaaGreatDoorMg21
import Derived.Test.YtdlkdecigpaaaaaGreatDoorMg5
import Derived.Test.YtdlkdecigpaaaaaGreatDoorMg20
import Derived.Test.YtdlkdecigpaaaaaGreatDoorMg13
namespace Go.Proofs.YtdlkdecigpaaaaaGreatDoor
set_option linter.unusedVariables false
set_option linter.unusedSimpArgs false
open Go.RowKit

theorem lstr_any (s : ByteArray) (p : Int) (g h : Nat) (w : World) (hl : Lex s p g w) (ht : TkAt h (Tk.mk 0 ByteArray.empty 0 p 0).cells w) (hgh : g ≠ h) (h0 : 0 ≤ p) (h1 : p < s.size) (hs : s.size ≤ 1000000) :
    Calls Tryz.prog 196 #[.pointer (some ⟨g, 0, none⟩), .pointer (some ⟨h, 0, none⟩)] w (Read s g h (strF s p) w) := by
  refine (ltext_any s p g h 0 ByteArray.empty 0 p 0 w hl ht hgh h0 h1 hs).mono ?_
  rintro e' w' ⟨rfl, hl', ht', hk'⟩
  unfold Read strF
  by_cases c : (textOf s p).2.2 = 0
  · rw [if_pos c]; exact ⟨by rw [c], by simpa using hl', fun _ => ht' c, hk'⟩
  · rw [if_neg c]; exact ⟨rfl, by simpa [c] using hl', fun h => absurd h c, hk'⟩
/-- The lexer, and the token that it fills. -/
structure NextAt (s : ByteArray) (q : Int) (g r h : Nat) (w W : World) : Prop where
  lex : Lex s q g W
  tok : TkAt h (Tk.mk 0 ByteArray.empty 0 q 0).cells W
  res : TkAt r Tk.zero.cells W
  keep : Keeps [g] w W
  rn : w.heap.size ≤ r
  hn : w.heap.size ≤ h
  rh : r ≠ h
theorem NextAt.step {s : ByteArray} {q : Int} {g r h : Nat} {w W W1 : World} (H : NextAt s q g r h w W) (k : Keeps [] W W1) : NextAt s q g r h w W1 :=
  ⟨lex_keeps H.lex k (by simp), tk_keeps H.tok k (by simp), tk_keeps H.res k (by simp), keeps0 H.keep k, H.rn, H.hn, H.rh⟩
theorem lex_far {s : ByteArray} {i : Int} {g : Nat} {w : World} {p : Addr} (h : Lex s i g w) (hp : g ≠ p.block) (v : Value) : Lex s i g (w.setCell p v) := hk_set h hp v
theorem lex_drewN {s : ByteArray} {i : Int} {g : Nat} {w : World} (h : Lex s i g w) (n : Nat) : Lex s i g (w.drewN n) := h
theorem has_marks {s : ByteArray} {q : Int} (h : q < s.size) : hasB s q marksS = markB (bt s q) := by
  have h2 := (byte_all (p := fun c => memB marksS c = markB c) mark_tab s q)
  unfold hasB; rw [h2]; simp [h]
theorem has_quote {s : ByteArray} {q : Int} (h : q < s.size) : hasB s q ⟨#[34]⟩ = (bt s q == 34) := by
  rw [has_byte]; simp [isAt, h]
theorem has_minus {s : ByteArray} {q : Int} (h : q < s.size) : hasB s q minusS = (bt s q == 45 || digitB (bt s q)) := by
  have h2 := (byte_all (p := fun c => memB minusS c = (c == 45 || digitB c)) minus_tab s q)
  unfold hasB; rw [h2]; simp [h]
/-- With an error there is no token, without one no place. -/
def ErrZ (x : Tk × Int × Int) : Prop := (x.2.2 ≠ 0 → x.1 = Tk.zero) ∧ (x.2.2 = 0 → x.2.1 = 0)
theorem markE (s : ByteArray) (q : Int) : ErrZ (markF s q) := ⟨fun h => absurd rfl h, fun _ => rfl⟩
theorem strE (s : ByteArray) (q : Int) : ErrZ (strF s q) := by
  unfold ErrZ strF; split
  · exact ⟨fun h => by simp at h, fun _ => rfl⟩
  · rename_i h; exact ⟨fun _ => rfl, fun k => absurd k h⟩
theorem numE (s : ByteArray) (q : Int) : ErrZ (numF s q) := by
  unfold ErrZ numF; split
  · exact ⟨fun _ => rfl, fun k => by simp at k⟩
  · split
    · exact ⟨fun _ => rfl, fun k => by simp at k⟩
    · split
      · exact ⟨fun h => by simp at h, fun _ => rfl⟩
      · exact ⟨fun _ => rfl, fun k => by simp at k⟩
theorem wordE (s : ByteArray) (q : Int) : ErrZ (wordF s q) := by
  have h : ∀ l k, ErrZ (wordOf s q l k) := by
    intro l k; unfold ErrZ wordOf; split
    · exact ⟨fun h => by simp at h, fun _ => rfl⟩
    · exact ⟨fun _ => rfl, fun k => by simp at k⟩
  unfold wordF; split
  · exact h _ _
  · split
    · exact h _ _
    · split
      · exact h _ _
      · exact ⟨fun _ => rfl, fun k => by simp at k⟩
theorem err_zero {kd : Int} {tx : ByteArray} {vl hd st pl code : Int} (h : ErrZ (⟨kd, tx, vl, hd, st⟩, pl, code)) (hc : code ≠ 0) : ((⟨kd, tx, vl, hd, st⟩, pl, code) : Tk × Int × Int) = (Tk.zero, pl, code) := by
  have := h.1 hc; simp only at this; rw [this]
theorem ok_zero {kd : Int} {tx : ByteArray} {vl hd st pl : Int} (h : ErrZ (⟨kd, tx, vl, hd, st⟩, pl, 0)) : ((⟨kd, tx, vl, hd, st⟩, pl, 0) : Tk × Int × Int) = (⟨kd, tx, vl, hd, st⟩, 0, 0) := by
  have := h.2 rfl; simp only at this; rw [this]
/-- What Next answers. -/
def NextSays (s : ByteArray) (i : Int) (g : Nat) (r : Tk × Int × Int) (w : World) (e' : Ending) (w' : World) : Prop :=
  e' = .returned (.tuple #[.agg r.1.cells, .int .i64 r.2.1, .int .i64 r.2.2]) ∧ Lex s (if r.2.2 = 0 then r.1.stop else i) g w' ∧ Keeps [g] w w'
set_option maxRecDepth 20000 in
set_option maxHeartbeats 8000000 in
theorem lnext_any (s : ByteArray) (i : Int) (g : Nat) (w : World) (hl : Lex s i g w) (hv : VarOk w) (hg2 : 5 < g) (h0 : 0 ≤ i) (h1 : i ≤ s.size) (hs : s.size ≤ 1000000) :
    Calls Tryz.prog 189 #[.pointer (some ⟨g, 0, none⟩)] w (NextSays s i g (nextF s i) w) := by
  have gc := cell_blk hl
  have gf := frozen_blk hl
  have hglt := hk_lt hl
  have HL := Lib.hid hl
  have HV := Lib.hid hv
  have HP := Lib.hid (pass_any s i g blanksS (w.alloc (.cells Tk.zero.cells 230)) (hk_alloc hl _) h0 h1 (by omega))
  rw [pass_blank] at HP
  have hq0 : i ≤ blanks s i ∧ blanks s i ≤ s.size := by have h2 := pass_ge (s := s) (i := i) (t := blanksS); have h3 := pass_le (t := blanksS) h0 h1; rw [pass_blank] at h2 h3; omega
  obtain ⟨hq0, hq1⟩ := hq0
  have HN : Hid (nextF s i = if blanks s i < s.size then tokF s (blanks s i) else (⟨0, ByteArray.empty, 0, blanks s i, blanks s i⟩, 0, 0)) := Lib.hid rfl
  generalize nextF s i = r at *
  generalize blanks s i = q at *
  clear hl hv
  go_enter Tryz.func189, Tryz.ntmps189
  go_wp2_with (go_at_call 192; refine HP.out.mono ?_; rintro e' w1 ⟨rfl, hl1, hk1⟩; have HX1 := Lib.hid (And.intro hl1 hk1); clear hl1 hk1; have gc1 := cell_blk HX1.out.1; have gf1 := frozen_blk HX1.out.1)
  have hr1 : w.heap.size < w1.heap.size := by have := HX1.out.2.size; rw [World.size_alloc] at this; omega
  refine abs_world (fun W => Hid (NextAt s q g w.heap.size w1.heap.size w W ∧ w1.heap.size < W.heap.size)) (Lib.hid ⟨⟨hk_alloc HX1.out.1 _, new_blk _ _, hk_alloc (tk_keeps (S := [g]) (new_blk w _) HX1.out.2 (by simp; omega)) _, (((Keeps.refl [g] w).alloc _).step HX1.out.2 (by simp)).alloc _, Nat.le_refl _, by omega, by omega⟩, by rw [World.size_alloc]; omega⟩) ?_
  intro W HW
  have hwl := HW.out.2
  clear gc gf gc1 gf1 HX1 HP
  have hgb : g ≠ w1.heap.size := by omega
  have hgr : g ≠ w.heap.size := by omega
  have hrb : w.heap.size ≠ w1.heap.size := by omega
  generalize w1.heap.size = b at *
  have HVW := Lib.hid (HV.out.keeps HW.out.1.keep (by simpa using hg2))
  have gc := cell_blk HW.out.1.lex
  have gf := frozen_blk HW.out.1.lex
  have tc := cell_blk HW.out.1.tok
  have tf := frozen_blk HW.out.1.tok
  have rc := cell_blk HW.out.1.res
  have rf := frozen_blk HW.out.1.res
  unfold Tk.cells at tc
  unfold Tk.zero Tk.cells at rc
  by_cases hq : q = s.size
  · have hqb : (q == (s.size : Int)) = true := by simp [hq]
    have HZ : Hid (r = (⟨0, ByteArray.empty, 0, q, q⟩, 0, 0)) := Lib.hid (by rw [HN.out, if_neg (by omega)])
    clear HN hq
    go_quiet (fail)
    go_wp2
    refine bodyPost_ret (v := .tuple #[.agg #[.int .i64 0, .string ByteArray.empty, .int .i64 0, .int .i64 q, .int .i64 q], .int .i64 0, .int .i64 0]) (by simp [results, Tryz.results189, go_sem, rc]) rfl ?_
    rw [HZ.out]
    refine ⟨rfl, ?_, ?_⟩
    · show Lex s q g _
      repeat (first | with_reducible exact HW.out.1.lex | with_reducible refine lex_drewN ?_ _ | with_reducible refine lex_far ?_ (by show g ≠ _; first | exact hgb | exact hgr) _)
    · repeat (first | with_reducible exact HW.out.1.keep | with_reducible refine Keeps.drewN ?_ _ | with_reducible refine Keeps.set ?_ (.inr (by show _ ≤ _; first | exact Nat.le_refl _ | exact HW.out.1.hn)) _)
  · have hqb : (q == (s.size : Int)) = false := by simp [hq]
    have hql : q < s.size := by omega
    have HZ : Hid (r = tokF s q) := Lib.hid (by rw [HN.out, if_pos hql])
    clear HN hq
    have hq00 : 0 ≤ q := by omega
    go_quiet (fail)
    have H2 := Lib.hid (HW.out.1.step ((Keeps.refl [] W).drewN nq))
    generalize W.drewN nq = W2 at H2 ⊢
    clear HW gc gf tc tf rc rf HVW hqb hwl
    have HM := Lib.hid (has_marks hql)
    have HQ := Lib.hid (has_quote hql)
    have HD := Lib.hid (has_minus hql)
    have HVN := Lib.hid (fun W (H : NextAt s q g w.heap.size b w W) => HV.out.keeps H.keep (by simpa using hg2))
    have hb2 : 5 < b := by omega
    have HT : Hid (tokF s q = if markB (bt s q) = true then markF s q else if bt s q = 34 then strF s q else if (bt s q == 45 || digitB (bt s q)) = true then numF s q else wordF s q) := Lib.hid rfl
    cases c1 : markB (bt s q) with
    | true =>
      rw [c1] at HM
      have HZ2 : Hid (r = markF s q) := Lib.hid (by rw [HZ.out, HT.out, if_pos c1])
      have HZE := Lib.hid (markE s q)
      clear c1 HT HZ
      go_wp2_with fail
      refine (has_k H2.out.lex hq00 HM.out).mono ?_
      rintro e' W3 ⟨rfl, _, hk3⟩
      have H3 := Lib.hid (H2.out.step hk3)
      clear hk3
      have HC := Lib.hid (lmark_any s q g b W3 H3.out.lex H3.out.tok hgb hq00 hql hs)
      generalize markF s q = x at *
      obtain ⟨⟨kd, tx, vl, hd, st⟩, pl, code⟩ := x
      go_wp2_with fail
      refine HC.out.mono ?_
      clear HC
      rintro e' W9 ⟨rfl, hl9, ht9, hk9⟩
      simp only at hl9 ht9
      have H9 : Hid (TkAt w.heap.size Tk.zero.cells W9 ∧ Keeps [g] w W9) := Lib.hid ⟨tk_keeps H3.out.res hk9 (by simp; omega), H3.out.keep.step hk9 (by have := H3.out.hn; simp; omega)⟩
      have hbn := H3.out.hn
      have HL9 := Lib.hid hl9
      have HT9 := Lib.hid ht9
      have rc := cell_blk H9.out.1
      have rf := frozen_blk H9.out.1
      have gc := cell_blk hl9
      have gf := frozen_blk hl9
      unfold Tk.zero Tk.cells at rc
      clear hl9 ht9 hk9
      by_cases hc : code = 0
      · subst hc
        have HT8 := Lib.hid (HT9.out rfl)
        have HL8 : Hid (Lex s st g W9) := Lib.hid HL9.out
        have tc := cell_blk HT8.out
        have tf := frozen_blk HT8.out
        have gc := cell_blk HL8.out
        unfold Tk.cells at tc
        go_wp2
        refine bodyPost_ret (v := .tuple #[.agg #[.int .i64 kd, .string tx, .int .i64 vl, .int .i64 hd, .int .i64 st], .int .i64 0, .int .i64 0]) (by simp [results, Tryz.results189, go_sem, rc]) rfl ?_
        rw [HZ2.out, ok_zero HZE.out]
        refine ⟨rfl, ?_, ?_⟩
        · show Lex s st g _
          repeat (first | with_reducible exact HL8.out | with_reducible refine lex_drewN ?_ _ | with_reducible refine lex_far ?_ (by show g ≠ _; first | exact hgb | exact hgr) _)
        · repeat (first | with_reducible exact H9.out.2 | with_reducible refine Keeps.set ?_ (.inr (by show _ ≤ _; first | exact Nat.le_refl _ | exact hbn)) _)
      · have hcb : (code != 0) = true := by simp [hc]
        have hcb2 : (code == 0) = false := by simp [hc]
        have HL8 : Hid (Lex s pl g W9) := Lib.hid (by have := HL9.out; rw [if_neg hc] at this; exact this)
        have HCN := Lib.hid hc
        have gc := cell_blk HL8.out
        clear hc
        go_wp2
        refine bodyPost_ret (v := .tuple #[.agg #[.int .i64 0, .string ⟨#[]⟩, .int .i64 0, .int .i64 0, .int .i64 0], .int .i64 pl, .int .i64 code]) (by simp [results, Tryz.results189, go_sem, rc]) rfl ?_
        rw [HZ2.out, err_zero HZE.out HCN.out]
        refine ⟨rfl, ?_, ?_⟩
        · show Lex s (if code = 0 then _ else i) g _
          rw [if_neg HCN.out]
          repeat (first | with_reducible exact lex_set HL8.out | with_reducible refine lex_drewN ?_ _ | with_reducible refine lex_far ?_ (by show g ≠ _; first | exact hgb | exact hgr) _)
        · repeat (first | with_reducible exact H9.out.2 | with_reducible refine Keeps.set ?_ (.inr (by show _ ≤ _; first | exact Nat.le_refl _ | exact hbn)) _ | with_reducible refine Keeps.set ?_ (.inl (by simp)) _)
    | false =>
      rw [c1] at HM
      cases c2 : (bt s q == 34) with
      | true =>
        rw [c2] at HQ
        have HZ2 : Hid (r = strF s q) := Lib.hid (by rw [HZ.out, HT.out, if_neg (by simp [c1]), if_pos (by simpa using c2)])
        have HZE := Lib.hid (strE s q)
        clear c1 c2 HT HZ
        go_wp2_with fail
        refine (has_k H2.out.lex hq00 HM.out).mono ?_
        rintro e' W3 ⟨rfl, _, hk3⟩
        have H3 := Lib.hid (H2.out.step hk3)
        clear hk3
        go_wp2_with fail
        refine (has_k H3.out.lex hq00 HQ.out).mono ?_
        rintro e' W4 ⟨rfl, _, hk4⟩
        have H4 := Lib.hid (H3.out.step hk4)
        clear hk4
        have HC := Lib.hid (lstr_any s q g b W4 H4.out.lex H4.out.tok hgb hq00 hql hs)
        generalize strF s q = x at *
        obtain ⟨⟨kd, tx, vl, hd, st⟩, pl, code⟩ := x
        go_wp2_with fail
        refine HC.out.mono ?_
        clear HC
        rintro e' W9 ⟨rfl, hl9, ht9, hk9⟩
        simp only at hl9 ht9
        have H9 : Hid (TkAt w.heap.size Tk.zero.cells W9 ∧ Keeps [g] w W9) := Lib.hid ⟨tk_keeps H4.out.res hk9 (by simp; omega), H4.out.keep.step hk9 (by have := H4.out.hn; simp; omega)⟩
        have hbn := H4.out.hn
        have HL9 := Lib.hid hl9
        have HT9 := Lib.hid ht9
        have rc := cell_blk H9.out.1
        have rf := frozen_blk H9.out.1
        have gc := cell_blk hl9
        have gf := frozen_blk hl9
        unfold Tk.zero Tk.cells at rc
        clear hl9 ht9 hk9
        by_cases hc : code = 0
        · subst hc
          have HT8 := Lib.hid (HT9.out rfl)
          have HL8 : Hid (Lex s st g W9) := Lib.hid HL9.out
          have tc := cell_blk HT8.out
          have tf := frozen_blk HT8.out
          have gc := cell_blk HL8.out
          unfold Tk.cells at tc
          go_wp2
          refine bodyPost_ret (v := .tuple #[.agg #[.int .i64 kd, .string tx, .int .i64 vl, .int .i64 hd, .int .i64 st], .int .i64 0, .int .i64 0]) (by simp [results, Tryz.results189, go_sem, rc]) rfl ?_
          rw [HZ2.out, ok_zero HZE.out]
          refine ⟨rfl, ?_, ?_⟩
          · show Lex s st g _
            repeat (first | with_reducible exact HL8.out | with_reducible refine lex_drewN ?_ _ | with_reducible refine lex_far ?_ (by show g ≠ _; first | exact hgb | exact hgr) _)
          · repeat (first | with_reducible exact H9.out.2 | with_reducible refine Keeps.set ?_ (.inr (by show _ ≤ _; first | exact Nat.le_refl _ | exact hbn)) _)
        · have hcb : (code != 0) = true := by simp [hc]
          have hcb2 : (code == 0) = false := by simp [hc]
          have HL8 : Hid (Lex s pl g W9) := Lib.hid (by have := HL9.out; rw [if_neg hc] at this; exact this)
          have HCN := Lib.hid hc
          have gc := cell_blk HL8.out
          clear hc
          go_wp2
          refine bodyPost_ret (v := .tuple #[.agg #[.int .i64 0, .string ⟨#[]⟩, .int .i64 0, .int .i64 0, .int .i64 0], .int .i64 pl, .int .i64 code]) (by simp [results, Tryz.results189, go_sem, rc]) rfl ?_
          rw [HZ2.out, err_zero HZE.out HCN.out]
          refine ⟨rfl, ?_, ?_⟩
          · show Lex s (if code = 0 then _ else i) g _
            rw [if_neg HCN.out]
            repeat (first | with_reducible exact lex_set HL8.out | with_reducible refine lex_drewN ?_ _ | with_reducible refine lex_far ?_ (by show g ≠ _; first | exact hgb | exact hgr) _)
          · repeat (first | with_reducible exact H9.out.2 | with_reducible refine Keeps.set ?_ (.inr (by show _ ≤ _; first | exact Nat.le_refl _ | exact hbn)) _ | with_reducible refine Keeps.set ?_ (.inl (by simp)) _)
      | false =>
        rw [c2] at HQ
        cases c3 : (bt s q == 45 || digitB (bt s q)) with
        | true =>
          rw [c3] at HD
          have HZ2 : Hid (r = numF s q) := Lib.hid (by rw [HZ.out, HT.out, if_neg (by simp [c1]), if_neg (by simpa using c2), if_pos c3])
          have HZE := Lib.hid (numE s q)
          clear c1 c2 c3 HT HZ
          go_wp2_with fail
          refine (has_k H2.out.lex hq00 HM.out).mono ?_
          rintro e' W3 ⟨rfl, _, hk3⟩
          have H3 := Lib.hid (H2.out.step hk3)
          clear hk3
          go_wp2_with fail
          refine (has_k H3.out.lex hq00 HQ.out).mono ?_
          rintro e' W4 ⟨rfl, _, hk4⟩
          have H4 := Lib.hid (H3.out.step hk4)
          clear hk4
          go_wp2_with fail
          refine (has_k H4.out.lex hq00 HD.out).mono ?_
          rintro e' W5 ⟨rfl, _, hk5⟩
          have H5 := Lib.hid (H4.out.step hk5)
          clear hk5
          have HC := Lib.hid (lnum_any s q g b W5 H5.out.lex H5.out.tok hgb (HVN.out _ H5.out) hg2 hb2 hq00 hql hs)
          generalize numF s q = x at *
          obtain ⟨⟨kd, tx, vl, hd, st⟩, pl, code⟩ := x
          go_wp2_with fail
          refine HC.out.mono ?_
          clear HC
          rintro e' W9 ⟨rfl, hl9, ht9, hk9⟩
          simp only at hl9 ht9
          have H9 : Hid (TkAt w.heap.size Tk.zero.cells W9 ∧ Keeps [g] w W9) := Lib.hid ⟨tk_keeps H5.out.res hk9 (by simp; omega), H5.out.keep.step hk9 (by have := H5.out.hn; simp; omega)⟩
          have hbn := H5.out.hn
          have HL9 := Lib.hid hl9
          have HT9 := Lib.hid ht9
          have rc := cell_blk H9.out.1
          have rf := frozen_blk H9.out.1
          have gc := cell_blk hl9
          have gf := frozen_blk hl9
          unfold Tk.zero Tk.cells at rc
          clear hl9 ht9 hk9
          by_cases hc : code = 0
          · subst hc
            have HT8 := Lib.hid (HT9.out rfl)
            have HL8 : Hid (Lex s st g W9) := Lib.hid HL9.out
            have tc := cell_blk HT8.out
            have tf := frozen_blk HT8.out
            have gc := cell_blk HL8.out
            unfold Tk.cells at tc
            go_wp2
            refine bodyPost_ret (v := .tuple #[.agg #[.int .i64 kd, .string tx, .int .i64 vl, .int .i64 hd, .int .i64 st], .int .i64 0, .int .i64 0]) (by simp [results, Tryz.results189, go_sem, rc]) rfl ?_
            rw [HZ2.out, ok_zero HZE.out]
            refine ⟨rfl, ?_, ?_⟩
            · show Lex s st g _
              repeat (first | with_reducible exact HL8.out | with_reducible refine lex_drewN ?_ _ | with_reducible refine lex_far ?_ (by show g ≠ _; first | exact hgb | exact hgr) _)
            · repeat (first | with_reducible exact H9.out.2 | with_reducible refine Keeps.set ?_ (.inr (by show _ ≤ _; first | exact Nat.le_refl _ | exact hbn)) _)
          · have hcb : (code != 0) = true := by simp [hc]
            have hcb2 : (code == 0) = false := by simp [hc]
            have HL8 : Hid (Lex s pl g W9) := Lib.hid (by have := HL9.out; rw [if_neg hc] at this; exact this)
            have HCN := Lib.hid hc
            have gc := cell_blk HL8.out
            clear hc
            go_wp2
            refine bodyPost_ret (v := .tuple #[.agg #[.int .i64 0, .string ⟨#[]⟩, .int .i64 0, .int .i64 0, .int .i64 0], .int .i64 pl, .int .i64 code]) (by simp [results, Tryz.results189, go_sem, rc]) rfl ?_
            rw [HZ2.out, err_zero HZE.out HCN.out]
            refine ⟨rfl, ?_, ?_⟩
            · show Lex s (if code = 0 then _ else i) g _
              rw [if_neg HCN.out]
              repeat (first | with_reducible exact lex_set HL8.out | with_reducible refine lex_drewN ?_ _ | with_reducible refine lex_far ?_ (by show g ≠ _; first | exact hgb | exact hgr) _)
            · repeat (first | with_reducible exact H9.out.2 | with_reducible refine Keeps.set ?_ (.inr (by show _ ≤ _; first | exact Nat.le_refl _ | exact hbn)) _ | with_reducible refine Keeps.set ?_ (.inl (by simp)) _)
        | false =>
          rw [c3] at HD
          have HZ2 : Hid (r = wordF s q) := Lib.hid (by rw [HZ.out, HT.out, if_neg (by simp [c1]), if_neg (by simpa using c2), if_neg (by rw [c3]; simp)])
          have HZE := Lib.hid (wordE s q)
          clear c1 c2 c3 HT HZ
          go_wp2_with fail
          refine (has_k H2.out.lex hq00 HM.out).mono ?_
          rintro e' W3 ⟨rfl, _, hk3⟩
          have H3 := Lib.hid (H2.out.step hk3)
          clear hk3
          go_wp2_with fail
          refine (has_k H3.out.lex hq00 HQ.out).mono ?_
          rintro e' W4 ⟨rfl, _, hk4⟩
          have H4 := Lib.hid (H3.out.step hk4)
          clear hk4
          go_wp2_with fail
          refine (has_k H4.out.lex hq00 HD.out).mono ?_
          rintro e' W5 ⟨rfl, _, hk5⟩
          have H5 := Lib.hid (H4.out.step hk5)
          clear hk5
          have HC := Lib.hid (lword_any s q g b W5 H5.out.lex H5.out.tok hgb hq00 hql hs)
          generalize wordF s q = x at *
          obtain ⟨⟨kd, tx, vl, hd, st⟩, pl, code⟩ := x
          go_wp2_with fail
          refine HC.out.mono ?_
          clear HC
          rintro e' W9 ⟨rfl, hl9, ht9, hk9⟩
          simp only at hl9 ht9
          have H9 : Hid (TkAt w.heap.size Tk.zero.cells W9 ∧ Keeps [g] w W9) := Lib.hid ⟨tk_keeps H5.out.res hk9 (by simp; omega), H5.out.keep.step hk9 (by have := H5.out.hn; simp; omega)⟩
          have hbn := H5.out.hn
          have HL9 := Lib.hid hl9
          have HT9 := Lib.hid ht9
          have rc := cell_blk H9.out.1
          have rf := frozen_blk H9.out.1
          have gc := cell_blk hl9
          have gf := frozen_blk hl9
          unfold Tk.zero Tk.cells at rc
          clear hl9 ht9 hk9
          by_cases hc : code = 0
          · subst hc
            have HT8 := Lib.hid (HT9.out rfl)
            have HL8 : Hid (Lex s st g W9) := Lib.hid HL9.out
            have tc := cell_blk HT8.out
            have tf := frozen_blk HT8.out
            have gc := cell_blk HL8.out
            unfold Tk.cells at tc
            go_wp2
            refine bodyPost_ret (v := .tuple #[.agg #[.int .i64 kd, .string tx, .int .i64 vl, .int .i64 hd, .int .i64 st], .int .i64 0, .int .i64 0]) (by simp [results, Tryz.results189, go_sem, rc]) rfl ?_
            rw [HZ2.out, ok_zero HZE.out]
            refine ⟨rfl, ?_, ?_⟩
            · show Lex s st g _
              repeat (first | with_reducible exact HL8.out | with_reducible refine lex_drewN ?_ _ | with_reducible refine lex_far ?_ (by show g ≠ _; first | exact hgb | exact hgr) _)
            · repeat (first | with_reducible exact H9.out.2 | with_reducible refine Keeps.set ?_ (.inr (by show _ ≤ _; first | exact Nat.le_refl _ | exact hbn)) _)
          · have hcb : (code != 0) = true := by simp [hc]
            have hcb2 : (code == 0) = false := by simp [hc]
            have HL8 : Hid (Lex s pl g W9) := Lib.hid (by have := HL9.out; rw [if_neg hc] at this; exact this)
            have HCN := Lib.hid hc
            have gc := cell_blk HL8.out
            clear hc
            go_wp2
            refine bodyPost_ret (v := .tuple #[.agg #[.int .i64 0, .string ⟨#[]⟩, .int .i64 0, .int .i64 0, .int .i64 0], .int .i64 pl, .int .i64 code]) (by simp [results, Tryz.results189, go_sem, rc]) rfl ?_
            rw [HZ2.out, err_zero HZE.out HCN.out]
            refine ⟨rfl, ?_, ?_⟩
            · show Lex s (if code = 0 then _ else i) g _
              rw [if_neg HCN.out]
              repeat (first | with_reducible exact lex_set HL8.out | with_reducible refine lex_drewN ?_ _ | with_reducible refine lex_far ?_ (by show g ≠ _; first | exact hgb | exact hgr) _)
            · repeat (first | with_reducible exact H9.out.2 | with_reducible refine Keeps.set ?_ (.inr (by show _ ≤ _; first | exact Nat.le_refl _ | exact hbn)) _ | with_reducible refine Keeps.set ?_ (.inl (by simp)) _)
end Go.Proofs.YtdlkdecigpaaaaaGreatDoor
namespace Go.Proofs.YtdlkdecigpaaaaaGreatDoor
set_option linter.unusedVariables false
set_option linter.unusedSimpArgs false
open Go.RowKit

set_option maxRecDepth 20000 in
set_option maxHeartbeats 2000000 in
theorem blanks5_any (s : ByteArray) (i : Int) (w : World) (h0 : 0 ≤ i) (hi : i ≤ s.size) (hs : s.size ≤ 1000000) :
    Calls Tryz.prog 30 #[.string s, .int .i64 i] w fun e w' => e = .returned (.int .i64 (blanks s i)) ∧ w = w' := by
  go_enter Tryz.func30, Tryz.ntmps30
  go_wp2
  go_loop [1] (fun t => ∃ j : Int, 0 ≤ j ∧ j ≤ s.size ∧ t = .int .i64 j ∧ Hid (blanks s i = blanks s j)) (fun t => s.size - (intOf t).toNat)
  case atStart => exact ⟨i, h0, hi, rfl, Lib.hid rfl⟩
  case round =>
    obtain ⟨j, hj, hjs, rfl, H⟩ := hrel
    have HI := Lib.hid (fun c => is5_any s j c w hj)
    have HB : Hid (isBlank s j = (isAt s j 32 || (isAt s j 9 || (isAt s j 10 || isAt s j 13)))) := Lib.hid rfl
    have HS := Lib.hid (fun (h : isBlank s j = true) (hl : j < s.size) => H.out.trans (upTo_step hj h hl))
    have HL := Lib.hid (fun c (h : isAt s j c = true) => isAt_lt h)
    cases c1 : isAt s j 32 with
    | true =>
      have HE := Lib.hid (HS.out (by rw [HB.out, c1]; rfl) (HL.out _ c1))
      have hl := HL.out _ c1
      go_wp2_with (go_at_call 56; refine (HI.out _).mono ?_; rintro e w' ⟨rfl, rfl⟩)
      go_round
      case rel => exact ⟨j + 1, by omega, by omega, rfl, HE⟩
      case measure => simp [intOf]; omega
    | false =>
      cases c2 : isAt s j 9 with
      | true =>
        have HE := Lib.hid (HS.out (by rw [HB.out, c1, c2]; rfl) (HL.out _ c2))
        have hl := HL.out _ c2
        go_wp2_with (go_at_call 56; refine (HI.out _).mono ?_; rintro e w' ⟨rfl, rfl⟩)
        go_round
        case rel => exact ⟨j + 1, by omega, by omega, rfl, HE⟩
        case measure => simp [intOf]; omega
      | false =>
        cases c3 : isAt s j 10 with
        | true =>
          have HE := Lib.hid (HS.out (by rw [HB.out, c1, c2, c3]; rfl) (HL.out _ c3))
          have hl := HL.out _ c3
          go_wp2_with (go_at_call 56; refine (HI.out _).mono ?_; rintro e w' ⟨rfl, rfl⟩)
          go_round
          case rel => exact ⟨j + 1, by omega, by omega, rfl, HE⟩
          case measure => simp [intOf]; omega
        | false =>
          cases c4 : isAt s j 13 with
          | true =>
            have HE := Lib.hid (HS.out (by rw [HB.out, c1, c2, c3, c4]; rfl) (HL.out _ c4))
            have hl := HL.out _ c4
            go_wp2_with (go_at_call 56; refine (HI.out _).mono ?_; rintro e w' ⟨rfl, rfl⟩)
            go_round
            case rel => exact ⟨j + 1, by omega, by omega, rfl, HE⟩
            case measure => simp [intOf]; omega
          | false =>
            have HE := Lib.hid (H.out.trans (upTo_stop (p := isBlank s) (by rw [HB.out, c1, c2, c3, c4]; rfl)))
            go_wp2_with (go_at_call 56; refine (HI.out _).mono ?_; rintro e w' ⟨rfl, rfl⟩)
            go_ret
            exact ⟨ret_i64 HE.out.symm, rfl⟩
end Go.Proofs.YtdlkdecigpaaaaaGreatDoor
