/- The lexer's escape. -/
import Derived.Test.YtdlkdecigpaaaaaGreatDoorMp8
namespace Go.Proofs.YtdlkdecigpaaaaaGreatDoor
set_option linter.unusedVariables false
set_option linter.unusedSimpArgs false
open Go.RowKit

theorem idx_poin (x : Int) (h0 : 0 ≤ x) (h7 : x ≤ 7) (w : World) : (Instr.index 9 (.string ⟨#[34, 92, 47, 8, 12, 10, 13, 9]⟩) (.int .i64 x)).run Tryz.prog w = .ok (.int .u8 (bt poinS x)) w := by
  have h : x = 0 ∨ x = 1 ∨ x = 2 ∨ x = 3 ∨ x = 4 ∨ x = 5 ∨ x = 6 ∨ x = 7 := by omega
  rw [run_index_string _ _ _ _ _ Tryz.underlying9]
  rcases h with h | h | h | h | h | h | h | h <;> subst h <;> rfl
set_option maxRecDepth 20000 in
set_option maxHeartbeats 4000000 in
theorem lesc_any (s : ByteArray) (i : Int) (g : Nat) (w : World) (hl : Lex s i g w) (h0 : 0 ≤ i) (h1 : i < s.size) (hs : s.size ≤ 1000000) :
    Calls Tryz.prog 202 #[.pointer (some ⟨g, 0, none⟩)] w fun e w' => e = .returned (.tuple #[.int .i64 (escape s i).1, .int .i64 (escape s i).2.2]) ∧ Lex s (escape s i).2.1 g w' ∧ Keeps [g] w w' := by
  have HL := Lib.hid hl
  have HR : Hid (escape s i = escape s i) := Lib.hid rfl
  obtain ⟨r, hr⟩ : ∃ r, r = escape s i := ⟨_, rfl⟩
  replace HR : Hid (r = escape s i) := Lib.hid hr
  rw [← hr]
  clear hr
  have hc := cell_blk hl
  have hf := frozen_blk hl
  clear hl
  have HL1 : Hid (Lex s (i + 1) g (w.setCell ⟨g, 1, none⟩ (.int .i64 (i + 1)))) := Lib.hid (lex_set HL.out)
  have HH := Lib.hid (fun b hb => has_k (t := lettS) (b := b) HL1.out (by omega) hb)
  have HK1 : Hid (Keeps [g] w (w.setCell ⟨g, 1, none⟩ (.int .i64 (i + 1)))) := Lib.hid ((Keeps.refl _ _).set (.inl (by simp)) _)
  by_cases c1 : 0 ≤ escAt s (i + 1)
  · have HRR : Hid (r = (escAt s (i + 1), i + 2, 0)) := Lib.hid (by rw [HR.out, escape, if_pos c1])
    have hjl := escAt_lt c1
    have hi1 : 0 ≤ i + 1 := by omega
    have hb := bt_at s (i + 1)
    have ht := byte_all (p := fun c => 0 ≤ escV c → bt poinS (Lib.indexByte lettS.data.toList c.toNat.toUInt8) = escV c ∧ 0 ≤ Lib.indexByte lettS.data.toList c.toNat.toUInt8 ∧ Lib.indexByte lettS.data.toList c.toNat.toUInt8 ≤ 7) (fun n hn => (lett_tab n hn).2) s (i + 1)
    have hxe : escAt s (i + 1) = escV (bt s (i + 1)) := by unfold escAt; rw [if_pos hjl]
    rw [← hxe] at ht
    obtain ⟨t1, t2, t3⟩ := ht c1
    have HHt := Lib.hid (HH.out true (by rw [has_lett]; simpa using c1))
    have HI := Lib.hid (fun w => Tryz.strings_IndexByte lettS (bt s (i + 1)) w)
    have hpb := idx_poin (Lib.indexByte lettS.data.toList (bt s (i + 1)).toNat.toUInt8) t2 t3
    have her := escAt_range s (i + 1)
    generalize Lib.indexByte lettS.data.toList (bt s (i + 1)).toNat.toUInt8 = x at *
    rw [t1] at hpb
    clear ht hxe t1 HH
    generalize escAt s (i + 1) = y at *
    go_enter Tryz.func202, Tryz.ntmps202
    go_wp2_with (go_at_call 194; refine HHt.out.mono ?_; rintro e w1 ⟨rfl, hl1, hk1⟩; have H1 := Lib.hid (And.intro hl1 hk1); clear hl1 hk1; have hc1 := cell_blk H1.out.1; have hf1 := frozen_blk H1.out.1)
    go_quiet ((go_at_call 75; exact Calls.quiet_of_same (HI.out _)))
    go_wp2
    go_ret2
    rw [HRR.out]
    refine ⟨rfl, ?_, ?_⟩
    · show Lex s (i + 2) g _
      rw [show i + 2 = i + 1 + 1 from by omega]
      exact lex_set (w := w1.drewN nq) H1.out.1
    · exact (keeps0 HK1.out H1.out.2).drewN _ |>.set (.inl (by simp)) _
  · have hHf := has_lett s (i + 1)
    rw [show decide (0 ≤ escAt s (i + 1)) = false from by simpa using c1] at hHf
    have HF := Lib.hid hHf
    have HU := Lib.hid (has_byte s (i + 1) 117)
    have HRa : Hid (r = if isAt s (i + 1) 117 = false then (0, i + 1, 1) else if (four s (i + 2)).1 < 0 then (0, (four s (i + 2)).2, 1)
      else if pointB (four s (i + 2)).1 then ((four s (i + 2)).1, (four s (i + 2)).2, 0)
      else if (four s (i + 2)).1 < 56320 ∧ isAt s (four s (i + 2)).2 92 = true ∧ isAt s ((four s (i + 2)).2 + 1) 117 = true ∧ 56320 ≤ (four s ((four s (i + 2)).2 + 2)).1 ∧ (four s ((four s (i + 2)).2 + 2)).1 ≤ 57343 then
        (65536 + ((four s (i + 2)).1 - 55296) * 1024 + (four s ((four s (i + 2)).2 + 2)).1 - 56320, (four s ((four s (i + 2)).2 + 2)).2, 0)
      else (0, i, 3)) := Lib.hid (by rw [HR.out]; conv => lhs; unfold escape; rw [if_neg c1])
    clear hHf c1 HH HR
    cases c2 : isAt s (i + 1) 117 with
    | false =>
      have HZ : Hid (r = (0, i + 1, 1)) := Lib.hid (by rw [HRa.out, if_pos c2])
      have HUf := Lib.hid (HU.out.trans c2)
      clear c2 HRa
      go_enter Tryz.func202, Tryz.ntmps202
      go_wp2_with fail; refine (has_k HL1.out (by omega) HF.out).mono ?_; rintro e w1 ⟨rfl, hl1, hk1⟩; have HX1 := Lib.hid (And.intro hl1 hk1); clear hl1 hk1; have hc1 := cell_blk HX1.out.1; have hf1 := frozen_blk HX1.out.1
      go_wp2_with fail; refine (one_kno HX1.out.1 (by omega) HUf.out).mono ?_; rintro e w2 ⟨rfl, hl2, hk2⟩; have HX2 := Lib.hid (And.intro hl2 hk2); clear hl2 hk2; have hc2 := cell_blk HX2.out.1; have hf2 := frozen_blk HX2.out.1
      go_wp2
      go_ret2
      rw [HZ.out]
      exact ⟨rfl, HX2.out.1, keeps0 (keeps0 HK1.out HX1.out.2) HX2.out.2⟩
    | true =>
      have HUt := Lib.hid (HU.out.trans c2)
      have HRb := Lib.hid (HRa.out.trans (if_neg (by rw [c2]; simp)))
      have hul := isAt_lt c2
      have hfr := four_range s (i + 2)
      have hfi := fourF_inside s 4 0 (i + 2) (by omega) (by omega)
      rw [show fourF s 4 0 (i + 2) = four s (i + 2) from rfl] at hfi
      have HFW : Hid (four s (i + 1 + 1) = four s (i + 2)) := Lib.hid (by rw [show i + 1 + 1 = i + 2 from by omega])
      obtain ⟨q, hq⟩ : ∃ q, q = four s (i + 2) := ⟨_, rfl⟩
      have HHX := Lib.hid (fun w (h : Lex s (i + 1 + 1) g w) => lhex_any s (i + 1 + 1) g w h (by omega) (by omega) hs)
      rw [HFW.out, ← hq] at HHX
      rw [← hq] at HRb hfr hfi
      have HQ := Lib.hid hq
      clear hq c2 HRa HU HFW
      obtain ⟨n, e2⟩ := q
      simp only at HRb hfr hfi HHX
      go_enter Tryz.func202, Tryz.ntmps202
      go_wp2_with fail; refine (has_k HL1.out (by omega) HF.out).mono ?_; rintro e w1 ⟨rfl, hl1, hk1⟩; have HX1 := Lib.hid (And.intro hl1 hk1); clear hl1 hk1; have hc1 := cell_blk HX1.out.1; have hf1 := frozen_blk HX1.out.1
      go_wp2_with fail; refine (one_kyes HX1.out.1 (by omega) hs HUt.out).mono ?_; rintro e w2 ⟨rfl, hl2, hk2⟩; have HX2 := Lib.hid (And.intro hl2 hk2); clear hl2 hk2; have hc2 := cell_blk HX2.out.1; have hf2 := frozen_blk HX2.out.1
      have HK2 := Lib.hid (keepsg (keeps0 HK1.out HX1.out.2) HX2.out.2 (by simp))
      have HH3 := Lib.hid (HHX.out _ HX2.out.1)
      clear HHX HL1 HK1 HUt
      by_cases c3 : n < 0
      · have HZ : Hid (r = (0, e2, 1)) := Lib.hid (by rw [HRb.out, if_pos c3])
        have hc3 : decide (0 ≤ n) = false := by simp; omega
        rw [hc3] at HH3
        go_wp2_with fail
        refine HH3.out.mono ?_
        rintro e w3 ⟨rfl, hl3, hk3⟩
        have HX3 := Lib.hid (And.intro hl3 hk3)
        clear hl3 hk3 HH3 hc3
        go_wp2
        go_ret2
        rw [HZ.out]
        exact ⟨rfl, HX3.out.1, keepsg HK2.out HX3.out.2 (by simp)⟩
      · have hc3 : decide (0 ≤ n) = true := by simp; omega
        have hc3b : (if 0 ≤ n then n else 0) = n := if_pos (by omega)
        rw [hc3, hc3b] at HH3
        have HRc := Lib.hid (HRb.out.trans (if_neg c3))
        clear HRb hc3 hc3b
        go_wp2_with fail
        refine HH3.out.mono ?_
        rintro e w3 ⟨rfl, hl3, hk3⟩
        have HX3 := Lib.hid (And.intro hl3 hk3)
        have HK3 := Lib.hid (keepsg HK2.out hk3 (by simp))
        have hc3' := cell_blk hl3
        have hf3' := frozen_blk hl3
        clear hl3 hk3 HH3
        cases c4 : pointB n with
        | true =>
          have HZ : Hid (r = (n, e2, 0)) := Lib.hid (by rw [HRc.out, if_pos c4])
          have HG := Lib.hid (fun w => (c4 ▸ gis_any n w : Calls Tryz.prog 212 #[.int .i64 n] w fun e w' => e = .returned (.bool true) ∧ w = w'))
          clear HRc c4
          go_wp2_with (go_at_call 212; refine (HG.out _).mono ?_; rintro e w' ⟨rfl, rfl⟩)
          go_ret2
          rw [HZ.out]
          exact ⟨rfl, HX3.out.1, HK3.out⟩
        | false =>
          have HRd := Lib.hid (HRc.out.trans (if_neg (by rw [c4]; simp)))
          have HG := Lib.hid (fun w => (c4 ▸ gis_any n w : Calls Tryz.prog 212 #[.int .i64 n] w fun e w' => e = .returned (.bool false) ∧ w = w'))
          have hn : 55296 ≤ n ∧ n ≤ 57343 := by simp only [pointB, decide_eq_false_iff_not] at c4; omega
          clear HRc c4
          have HB := Lib.hid (has_byte s e2 92)
          have HU2 := Lib.hid (has_byte s (e2 + 1) 117)
          cases c5 : isAt s e2 92 with
          | false =>
            have HZ : Hid (r = (0, i, 3)) := Lib.hid (by rw [HRd.out, if_neg (by rw [c5]; simp)])
            have HBf := Lib.hid (HB.out.trans c5)
            clear HRd c5
            go_wp2_with (go_at_call 212; refine (HG.out _).mono ?_; rintro e w' ⟨rfl, rfl⟩)
            refine (one_kno HX3.out.1 (by omega) HBf.out).mono ?_
            rintro e w4 ⟨rfl, hl4, hk4⟩
            have HX4 := Lib.hid (And.intro hl4 (keeps0 HK3.out hk4))
            have hc4 := cell_blk hl4
            have hf4 := frozen_blk hl4
            clear hl4 hk4
            go_wp2
            go_ret2
            rw [HZ.out]
            exact ⟨rfl, lex_set HX4.out.1, HX4.out.2.set (.inl (by simp)) _⟩
          | true =>
            have HBt := Lib.hid (HB.out.trans c5)
            have hbl := isAt_lt c5
            go_wp2_with (go_at_call 212; refine (HG.out _).mono ?_; rintro e w' ⟨rfl, rfl⟩)
            refine (one_kyes HX3.out.1 (by omega) hs HBt.out).mono ?_
            rintro e w4 ⟨rfl, hl4, hk4⟩
            have HX4 := Lib.hid (And.intro hl4 (keepsg HK3.out hk4 (by simp)))
            have hc4 := cell_blk hl4
            have hf4 := frozen_blk hl4
            clear hl4 hk4
            cases c6 : isAt s (e2 + 1) 117 with
            | false =>
              have HZ : Hid (r = (0, i, 3)) := Lib.hid (by rw [HRd.out, if_neg (by rw [c6]; simp)])
              have HUf := Lib.hid (HU2.out.trans c6)
              clear HRd c5 c6
              go_wp2_with fail
              refine (one_kno HX4.out.1 (by omega) HUf.out).mono ?_
              rintro e w5 ⟨rfl, hl5, hk5⟩
              have HX5 := Lib.hid (And.intro hl5 (keeps0 HX4.out.2 hk5))
              have hc5 := cell_blk hl5
              have hf5 := frozen_blk hl5
              clear hl5 hk5
              go_wp2
              go_ret2
              rw [HZ.out]
              exact ⟨rfl, lex_set HX5.out.1, HX5.out.2.set (.inl (by simp)) _⟩
            | true =>
              have HUt2 := Lib.hid (HU2.out.trans c6)
              have hul2 := isAt_lt c6
              have HRe : Hid (r = if 56320 ≤ (four s (e2 + 2)).1 ∧ (four s (e2 + 2)).1 ≤ 57343 ∧ n < 56320 then (65536 + (n - 55296) * 1024 + (four s (e2 + 2)).1 - 56320, (four s (e2 + 2)).2, 0) else (0, i, 3)) := Lib.hid (by
                rw [HRd.out]
                by_cases hh : 56320 ≤ (four s (e2 + 2)).1 ∧ (four s (e2 + 2)).1 ≤ 57343 ∧ n < 56320
                · rw [if_pos ⟨hh.2.2, c5, c6, hh.1, hh.2.1⟩, if_pos hh]
                · rw [if_neg hh, if_neg (fun h => hh ⟨h.2.2.2.1, h.2.2.2.2, h.1⟩)])
              have gfr := four_range s (e2 + 2)
              have gfi := fourF_inside s 4 0 (e2 + 2) (by omega) (by omega)
              rw [show fourF s 4 0 (e2 + 2) = four s (e2 + 2) from rfl] at gfi
              have GFW : Hid (four s (e2 + 1 + 1) = four s (e2 + 2)) := Lib.hid (by rw [show e2 + 1 + 1 = e2 + 2 from by omega])
              obtain ⟨q2, hq2⟩ : ∃ q, q = four s (e2 + 2) := ⟨_, rfl⟩
              have GHX := Lib.hid (fun w (h : Lex s (e2 + 1 + 1) g w) => lhex_any s (e2 + 1 + 1) g w h (by omega) (by omega) hs)
              rw [GFW.out, ← hq2] at GHX
              rw [← hq2] at HRe gfr gfi
              clear hq2 c5 c6 HRd HU2 GFW
              obtain ⟨lo, e3⟩ := q2
              simp only at HRe gfr gfi GHX
              go_wp2_with fail
              refine (one_kyes HX4.out.1 (by omega) hs HUt2.out).mono ?_
              rintro e w5 ⟨rfl, hl5, hk5⟩
              have HX5 := Lib.hid (And.intro hl5 (keepsg HX4.out.2 hk5 (by simp)))
              clear hl5 hk5
              have HH6 := Lib.hid (GHX.out _ HX5.out.1)
              clear GHX
              by_cases d3 : lo < 0
              · have HZ : Hid (r = (0, i, 3)) := Lib.hid (by rw [HRe.out, if_neg (by omega)])
                have hd3 : decide (0 ≤ lo) = false := by simp; omega
                rw [hd3] at HH6
                clear HRe
                go_wp2_with fail
                refine HH6.out.mono ?_
                rintro e w6 ⟨rfl, hl6, hk6⟩
                have HX6 := Lib.hid (And.intro hl6 (keepsg HX5.out.2 hk6 (by simp)))
                have hc6 := cell_blk hl6
                have hf6 := frozen_blk hl6
                clear hl6 hk6 HH6 hd3
                go_wp2
                go_ret2
                rw [HZ.out]
                exact ⟨rfl, lex_set HX6.out.1, HX6.out.2.set (.inl (by simp)) _⟩
              · have hd3 : decide (0 ≤ lo) = true := by simp; omega
                have hd3b : (if 0 ≤ lo then lo else 0) = lo := if_pos (by omega)
                rw [hd3, hd3b] at HH6
                clear hd3 hd3b
                go_wp2_with fail
                refine HH6.out.mono ?_
                rintro e w6 ⟨rfl, hl6, hk6⟩
                have HX6 := Lib.hid (And.intro hl6 (keepsg HX5.out.2 hk6 (by simp)))
                have hc6 := cell_blk hl6
                have hf6 := frozen_blk hl6
                clear hl6 hk6 HH6
                by_cases d4 : 56320 ≤ lo ∧ lo ≤ 57343 ∧ n < 56320
                · have HZ : Hid (r = (65536 + (n - 55296) * 1024 + lo - 56320, e3, 0)) := Lib.hid (by rw [HRe.out, if_pos d4])
                  have hpv : pairV n lo = 65536 + (n - 55296) * 1024 + lo - 56320 := by unfold pairV; rw [if_pos (by omega)]
                  have HP := Lib.hid (fun w => pair_any n lo w)
                  rw [hpv] at HP
                  obtain ⟨v, hv⟩ : ∃ v, v = 65536 + (n - 55296) * 1024 + lo - 56320 := ⟨_, rfl⟩
                  have hv0 : 0 ≤ v := by omega
                  rw [← hv] at HP HZ
                  clear HRe d4 hpv hv
                  go_wp2_with (go_at_call 213; refine (HP.out _).mono ?_; rintro e w' ⟨rfl, rfl⟩)
                  go_ret2
                  rw [HZ.out]
                  exact ⟨rfl, HX6.out.1, HX6.out.2⟩
                · have HZ : Hid (r = (0, i, 3)) := Lib.hid (by rw [HRe.out, if_neg d4])
                  have hpv : pairV n lo = -1 := by unfold pairV; rw [if_neg (by omega)]
                  have HP := Lib.hid (fun w => pair_any n lo w)
                  rw [hpv] at HP
                  clear HRe d4 hpv
                  go_wp2_with (go_at_call 213; refine (HP.out _).mono ?_; rintro e w' ⟨rfl, rfl⟩)
                  go_ret2
                  rw [HZ.out]
                  exact ⟨rfl, lex_set HX6.out.1, HX6.out.2.set (.inl (by simp)) _⟩
end Go.Proofs.YtdlkdecigpaaaaaGreatDoor
