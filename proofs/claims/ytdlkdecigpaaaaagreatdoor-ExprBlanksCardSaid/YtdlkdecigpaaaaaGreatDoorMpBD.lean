/- ExprBlanks: the law's walk. -/
import Derived.Test.YtdlkdecigpaaaaaGreatDoorMp39
import Derived.Test.YtdlkdecigpaaaaaGreatDoorMpBC
namespace Go.Proofs.YtdlkdecigpaaaaaGreatDoor
set_option linter.unusedVariables false
set_option linter.unusedSimpArgs false
open Go.RowKit

/-- A text whose tree was told, and no error. -/
theorem told_whole {s : ByteArray} {r : Res} (hr : Par s (.lev 0) 0 r) (hc : (parseR s r).2.2 = 0) : ∃ p : Int, r = .ok (parseR s r).1 p ∧ blanks s p = s.size ∧ XGood (parseR s r).1 ∧ (parseR s r).1.depth ≤ 32 := by
  have hg := told_good hr hc
  cases r with
  | err p c => exact absurd (show c = 0 from hc) (par_code hr)
  | ok T p =>
    have hp := par_pos hr (Int.le_refl _) (by omega)
    have hb := blanks_le (s := s) (i := p) hp.1.1 hp.1.2
    by_cases h1 : blanks s p < s.size
    · simp only [parseR] at hc; rw [if_pos h1] at hc; exact absurd (show (1 : Int) = 0 from hc) (by decide)
    · by_cases h2 : 32 < T.depth
      · simp only [parseR] at hc; rw [if_neg h1, if_pos h2] at hc; exact absurd (show (6 : Int) = 0 from hc) (by decide)
      · have e : parseR s (.ok T p) = (T, 0, 0) := by simp only [parseR]; rw [if_neg h1, if_neg h2]
        rw [e] at hg ⊢
        exact ⟨p, rfl, by omega, hg⟩
abbrev gapsV : Array Value := #[.string ⟨#[]⟩, .string ⟨#[32]⟩, .string ⟨#[9]⟩, .string ⟨#[13, 10]⟩, .string ⟨#[32, 32]⟩]
theorem gap_ix (m : Nat) (h : m < 5) : ∀ W : World, (Instr.index 71 (.agg gapsV) (.int .u8 (m : Int))).run Tryz.prog W = .ok (.string (gapJ m)) W := by
  intro W
  rcases (by omega : m = 0 ∨ m = 1 ∨ m = 2 ∨ m = 3 ∨ m = 4) with rfl | rfl | rfl | rfl | rfl <;> kernel_rfl
def gapsN (l : List Int) : List Nat := l.map fun x => (x % 5).toNat
theorem gaps_len (l : List Int) : (gapsN l).length = l.length := by simp [gapsN]
section
variable (s : ByteArray) (vg : Value) (l : List Int) (w : World)
set_option maxRecDepth 20000 in
set_option maxHeartbeats 8000000 in
theorem blanks_walk (hv : VarOk w) (hs : s.size ≤ 140737488351232) (hlen : l.length ≤ maxLen) (hsl : Sl w (fun _ => True) 1 vg l.length (l.map (Value.int .u8 ·))) (hl : ∀ x ∈ l, 0 ≤ x ∧ x ≤ 255) :
    Calls Tryz.prog 8 #[.string s, vg] w fun e w' => e = .returned (.bool true) ∧ Below w.heap.size w w' := by
  obtain ⟨ag, cg, rfl, _, _⟩ := hsl.shape
  have HA := Lib.hid (fun (W : World) (k : Keeps [] w W) => awake8_any W (hv.keeps k (by simp)))
  have HE := Lib.hid (fun (u : ByteArray) (r : Res) (h : u.size ≤ 2048) (hr : Par u (.lev 0) 0 r) (W : World) (k : Keeps [] w W) => eParse_any u W r h (hv.keeps k (by simp)) hr)
  have HSL := Lib.hid (fun (W : World) (k : Keeps [] w W) => hsl.keep (kc_keeps k fun _ _ => by simp))
  have HL := Lib.hid hl
  have hmx : maxLen = 9223372036854775807 := rfl
  obtain ⟨r, hr⟩ := par_any s 0 (Int.le_refl _) (by omega)
  have HR := Lib.hid hr
  clear hr hv hsl hl
  go_enter Tryz.func8, Tryz.ntmps8
  go_wp2_with fail
  refine (HA.out _ (Keeps.refl _ _)).mono ?_
  rintro e1 w1 ⟨rfl, hk1⟩
  have HK1 : Hid (Keeps [] w w1) := Lib.hid hk1
  clear hk1
  by_cases h6 : s.size ≤ 600 ∧ l.length ≤ 50
  · obtain ⟨h6, h5⟩ := h6
    have HP := Lib.hid (fun W => rParse_any s W r (by omega) HR.out)
    have HG := Lib.hid (fun hc => told_whole HR.out hc)
    clear HA
    go_wp2_with fail
    refine (HP.out _).mono ?_
    rintro e2 w2 ⟨vi, vk, va, rfl, hrep, hk2⟩
    generalize parseR s r = q at *
    obtain ⟨A, pl, cd⟩ := q
    dsimp only at hrep
    obtain ⟨x1, y1, x2, y2, x3, y3, rfl, rfl, rfl⟩ := xrep_shape hrep
    have HK2 := Lib.hid (HK1.out.trans hk2)
    have HT2 := Lib.hid hrep
    clear hrep hk2 HP
    dsimp only
    go_upto_region 4 with fail
    refine abs_world (F := fun W => Keeps [] w W ∧ W.heap[w2.heap.size]? = some (.cells (A.nine (.slice x1 A.lit.its.length y1) (.slice x2 A.lit.ks.length y2) (.slice x3 A.args.length y3)) 30 (0, 0)) ∧ A.Rep W (w1.heap.size ≤ ·) (.slice x1 A.lit.its.length y1) (.slice x2 A.lit.ks.length y2) (.slice x3 A.args.length y3))
      (by exact ⟨HK2.out.alloc _, new_blk _ _, HT2.out.keep (kc_alloc _)⟩) (fun W3 HW3 => ?_)
    have H3 := Lib.hid HW3
    clear HW3 HK2 HT2 HK1
    by_cases hc : cd = 0
    · subst hc
      obtain ⟨p, e1, b1, g1, d1⟩ := HG.out rfl
      dsimp only at e1 g1 d1
      have hp := HR.out
      rw [e1] at hp
      obtain ⟨⟨p', hu, hub⟩, hq0, he0⟩ := blank_par (gapsN l) hp b1
      have HEI := Lib.hid (fun (j : Nat) (hl : j < s.size) (hq : (stA s (gapsN l) j).q = true) (h0 : (stA s (gapsN l) j).e = false) (h9 : bt s j = 92) => esc_in he0 hl hq h0 h9)
      have hn := stB_n s (gapsN l) s.size
      have hz := out_size s (gapsN l) s.size (Nat.le_refl _)
      have hgl := gaps_len l
      have hU := HE.out _ _ (by rw [all_size]; omega) hu
      rw [show parseR (allB s (gapsN l)) (.ok A p') = (A, 0, 0) by simp only [parseR]; rw [hub, if_neg (Int.lt_irrefl _), if_neg (by omega)]] at hU
      have HU : Hid (∀ W : World, Keeps [] w W → Calls Tryz.prog 25 #[.string (outB s (gapsN l) s.size ++ ⟨#[32]⟩)] W (Says3 (A, 0, 0) W)) := Lib.hid hU
      have HLF := Lib.hid (And.intro g1.leafy (show A.depth ≤ 40 by omega))
      have HON := Lib.hid (fun (j : Nat) (hj : j ≤ s.size) => And.intro (out_size s (gapsN l) j hj) (stB_n s (gapsN l) j))
      clear HE HG HR e1 b1 g1 d1 hp hu hub hq0 he0 hn hz hU
      go_wp2_with fail
      go_loopw [8, 9, 10, 11] (fun vo vn vq vi W => ∃ (j n : Nat) (q : Bool) (x : ByteArray), j ≤ s.size ∧ vi = .int .i64 j ∧ vn = .int .i64 n ∧ vq = .bool q ∧ vo = .string x ∧ Hid (stA s (gapsN l) j = ⟨q, false, n⟩ ∧ x = outB s (gapsN l) j) ∧ W = W3) (fun _ _ _ vi _ => s.size - (intOf vi).toNat)
      case atStart => exact ⟨0, 0, false, _, Nat.zero_le _, rfl, rfl, rfl, rfl, Lib.hid ⟨rfl, rfl⟩, rfl⟩
      case round =>
        obtain ⟨j, n, q, x, hj, rfl, rfl, rfl, rfl, HX, rfl⟩ := hrel
        have hbt := bt_nat s j
        by_cases hlt : j < s.size
        · have hlt2 : (j : Int) < (s.size : Int) := by omega
          have hsz : x.size ≤ 800 ∧ n ≤ l.length := by
            obtain ⟨⟨_, a⟩, _, b⟩ := HON.out j hj
            have e : stB s (gapsN l).length j = ⟨q, false, n⟩ := HX.out.1
            rw [e] at a b
            rw [HX.out.2]
            simp only at a b
            omega
          obtain ⟨hsz, hnl⟩ := hsz
          have HNX : Hid (stA s (gapsN l) (j + 1) = stepB (gapsN l).length ⟨q, false, n⟩ (bt s j) ∧ outB s (gapsN l) (j + 1) = x ++ s.extract j (j + 1) ++ gapB s (gapsN l) j) := Lib.hid ⟨by rw [st_next, HX.out.1], by rw [HX.out.2]; rfl⟩
          have hc1 := cut1 s hlt
          have hcz : ¬ 9223372036854775807 < x.size + 1 := by omega
          have HBL := Lib.hid (fun W => blanks_any s j W (by omega) (by omega))
          have HG : Hid (gapB s (gapsN l) j = if putsG (gapsN l).length ⟨q, false, n⟩ (bt s j) = true then gapJ ((gapsN l).getD n 0) else eS) := Lib.hid (by unfold gapB; rw [show stB s (gapsN l).length j = ⟨q, false, n⟩ from HX.out.1])
          cases q
          · by_cases h34 : bt s j = 34
            · clear HBL
              have HS : Hid (stA s (gapsN l) (j + 1) = ⟨true, false, n⟩) := Lib.hid (by rw [HNX.out.1]; simp [stepB, turnQ, putsG, blankC, h34])
              have HO : Hid (outB s (gapsN l) (j + 1) = x ++ s.extract j (j + 1)) := Lib.hid (by rw [HNX.out.2, HG.out, if_neg (by simp [putsG, turnQ, blankC, h34]), cat_nr])
              go_wp2_with fail
              go_roundw
              case rel => exact ⟨j + 1, n, true, _, hlt, by go_num, rfl, rfl, rfl, Lib.hid ⟨HS.out, HO.out.symm⟩, by trivial⟩
              case measure => simp [intOf]; omega
            · cases hbk : isBlank s j
              · have hbc : blankC (bt s j) = false := by rw [← blankC_is hlt2]; exact hbk
                simp only [blankC, Bool.or_eq_false_iff, beq_eq_false_iff_ne] at hbc
                have hnb : ¬ (j : Int) < blanks s j := by rw [blanks_at hbk]; exact Int.lt_irrefl _
                generalize blanks s j = bb at *
                have HS : Hid (stA s (gapsN l) (j + 1) = ⟨false, false, n⟩) := Lib.hid (by rw [HNX.out.1]; simp [stepB, turnQ, putsG, blankC, h34, hbc])
                have HO : Hid (outB s (gapsN l) (j + 1) = x ++ s.extract j (j + 1)) := Lib.hid (by rw [HNX.out.2, HG.out, if_neg (by simp [putsG, turnQ, blankC, h34, hbc]), cat_nr])
                go_wp2_with (go_at_call 30; (with_reducible refine (HBL.out _).mono ?_); rintro e' w' ⟨rfl, rfl⟩)
                go_roundw
                case rel => exact ⟨j + 1, n, false, _, hlt, by go_num, rfl, rfl, rfl, Lib.hid ⟨HS.out, HO.out.symm⟩, by trivial⟩
                case measure => simp [intOf]; omega
              · have hbc : blankC (bt s j) = true := by rw [← blankC_is hlt2]; exact hbk
                have hnb : (j : Int) < blanks s j := by have h1 : blanks s j = blanks s ((j : Int) + 1) := upTo_step (by omega) hbk hlt2; have h2 := blanks_ge s ((j : Int) + 1); omega
                generalize blanks s j = bb at *
                by_cases hnl2 : n < l.length
                · have hng : n < (gapsN l).length := by omega
                  have hnl3 : (n : Int) < (l.length : Int) := by omega
                  obtain ⟨gg, oo, cc, hv, _, _, _, hcells⟩ := (HSL.out _ H3.out.1).at (by omega)
                  cases hv
                  have hz := hcells n (.int .u8 l[n]) (by rw [List.getElem?_map, List.getElem?_eq_getElem hnl2]; rfl)
                  have hx := HL.out l[n] (List.getElem_mem hnl2)
                  obtain ⟨m5, hm5⟩ : ∃ m5 : Nat, l[n] % 5 = m5 := ⟨(l[n] % 5).toNat, by omega⟩
                  have hm5l : m5 < 5 := by omega
                  have IX := gap_ix m5 hm5l
                  have hgj := gapJ_size m5
                  have hcz2 : ¬ 9223372036854775807 < x.size + 1 + (gapJ m5).size := by omega
                  have HGD : Hid ((gapsN l).getD n 0 = m5) := Lib.hid (by rw [List.getD_eq_getElem?_getD, gapsN, List.getElem?_map, List.getElem?_eq_getElem hnl2]; simp; omega)
                  have HS : Hid (stA s (gapsN l) (j + 1) = ⟨false, false, n + 1⟩) := Lib.hid (by rw [HNX.out.1]; simp [stepB, turnQ, putsG, h34, hbc, hng])
                  have HO : Hid (outB s (gapsN l) (j + 1) = x ++ s.extract j (j + 1) ++ gapJ m5) := Lib.hid (by rw [HNX.out.2, HG.out, if_pos (by simp [putsG, turnQ, h34, hbc, hng]), HGD.out])
                  generalize l[n] = ln at *
                  clear hcells
                  go_wp2_with (go_at_call 30; (with_reducible refine (HBL.out _).mono ?_); rintro e' w' ⟨rfl, rfl⟩)
                  go_roundw
                  case rel => exact ⟨j + 1, n + 1, false, _, hlt, by go_num, by go_num, rfl, rfl, Lib.hid ⟨HS.out, HO.out.symm⟩, by trivial⟩
                  case measure => simp [intOf]; omega
                · have hng : ¬ n < (gapsN l).length := by omega
                  have hnl3 : ¬ (n : Int) < (l.length : Int) := by omega
                  have HS : Hid (stA s (gapsN l) (j + 1) = ⟨false, false, n⟩) := Lib.hid (by rw [HNX.out.1]; simp [stepB, turnQ, putsG, blankC, h34, hbc, hng])
                  have HO : Hid (outB s (gapsN l) (j + 1) = x ++ s.extract j (j + 1)) := Lib.hid (by rw [HNX.out.2, HG.out, if_neg (by simp [putsG, turnQ, blankC, h34, hbc, hng]), cat_nr])
                  go_wp2_with (go_at_call 30; (with_reducible refine (HBL.out _).mono ?_); rintro e' w' ⟨rfl, rfl⟩)
                  go_roundw
                  case rel => exact ⟨j + 1, n, false, _, hlt, by go_num, rfl, rfl, rfl, Lib.hid ⟨HS.out, HO.out.symm⟩, by trivial⟩
                  case measure => simp [intOf]; omega
          · by_cases h34 : bt s j = 34
            · have hnb : ¬ (j : Int) < blanks s j := by rw [blanks_at (blank_no (by omega))]; exact Int.lt_irrefl _
              generalize blanks s j = bb at *
              have HS : Hid (stA s (gapsN l) (j + 1) = ⟨false, false, n⟩) := Lib.hid (by rw [HNX.out.1]; simp [stepB, turnQ, putsG, blankC, h34])
              have HO : Hid (outB s (gapsN l) (j + 1) = x ++ s.extract j (j + 1)) := Lib.hid (by rw [HNX.out.2, HG.out, if_neg (by simp [putsG, turnQ, blankC, h34]), cat_nr])
              go_wp2_with (go_at_call 30; (with_reducible refine (HBL.out _).mono ?_); rintro e' w' ⟨rfl, rfl⟩)
              go_roundw
              case rel => exact ⟨j + 1, n, false, _, hlt, by go_num, rfl, rfl, rfl, Lib.hid ⟨HS.out, HO.out.symm⟩, by trivial⟩
              case measure => simp [intOf]; omega
            · by_cases h92 : bt s j = 92
              · have hlt3 : j + 1 < s.size := HEI.out j hlt (by rw [HX.out.1]) (by rw [HX.out.1]) h92
                have hlt4 : (j : Int) + 1 < (s.size : Int) := by omega
                have hc2 := cut1 s hlt3
                have hcz2 : ¬ 9223372036854775807 < x.size + 1 + 1 := by omega
                have HS1 : Hid (stA s (gapsN l) (j + 1) = ⟨true, true, n⟩) := Lib.hid (by rw [HNX.out.1]; simp [stepB, turnQ, h34, h92])
                have HS : Hid (stA s (gapsN l) (j + 2) = ⟨true, false, n⟩) := Lib.hid (by rw [show j + 2 = j + 1 + 1 from rfl, st_next, HS1.out]; simp [stepB])
                have HO : Hid (outB s (gapsN l) (j + 2) = x ++ s.extract j (j + 1) ++ s.extract (j + 1) (j + 1 + 1)) := Lib.hid (by
                  show outB s (gapsN l) (j + 1) ++ s.extract (j + 1) (j + 1 + 1) ++ gapB s (gapsN l) (j + 1) = _
                  have g1 : gapB s (gapsN l) (j + 1) = eS := by unfold gapB; rw [show stB s (gapsN l).length (j + 1) = ⟨true, true, n⟩ from HS1.out]; simp [putsG]
                  rw [HNX.out.2, HG.out, if_neg (by simp [putsG, turnQ, h34, h92]), g1, cat_nr, cat_nr])
                go_wp2_with fail
                go_roundw
                case rel => exact ⟨j + 2, n, true, _, by omega, by go_num, rfl, rfl, rfl, Lib.hid ⟨HS.out, HO.out.symm⟩, by trivial⟩
                case measure => simp [intOf]; omega
              · clear HBL
                have HS : Hid (stA s (gapsN l) (j + 1) = ⟨true, false, n⟩) := Lib.hid (by rw [HNX.out.1]; simp [stepB, turnQ, putsG, blankC, h34, h92])
                have HO : Hid (outB s (gapsN l) (j + 1) = x ++ s.extract j (j + 1)) := Lib.hid (by rw [HNX.out.2, HG.out, if_neg (by simp [putsG, turnQ, blankC, h34, h92]), cat_nr])
                go_wp2_with fail
                go_roundw
                case rel => exact ⟨j + 1, n, true, _, hlt, by go_num, rfl, rfl, rfl, Lib.hid ⟨HS.out, HO.out.symm⟩, by trivial⟩
                case measure => simp [intOf]; omega
        · obtain rfl : j = s.size := by omega
          have hcz : ¬ 9223372036854775807 < x.size + 1 := by
            obtain ⟨⟨_, a⟩, _, b⟩ := HON.out s.size (Nat.le_refl _)
            rw [HX.out.2]
            omega
          have HU2 := Lib.hid (HU.out _ H3.out.1)
          rw [← HX.out.2] at HU2
          clear HU HON HX HEI
          go_wp2_with fail
          refine HU2.out.mono ?_
          rintro e6 w6 ⟨vi, vk, va, rfl, hrep, hk6⟩
          dsimp only at hrep
          obtain ⟨n1, o1, n2, o2, n3, o3, rfl, rfl, rfl⟩ := xrep_shape hrep
          have HK6 := Lib.hid hk6
          have HT6 := Lib.hid hrep
          clear hrep hk6 HU2
          dsimp only
          go_upto_region 20 with fail
          refine abs_world (F := fun W => Keeps [] w W ∧ W.heap[w2.heap.size]? = some (.cells (A.nine (.slice x1 A.lit.its.length y1) (.slice x2 A.lit.ks.length y2) (.slice x3 A.args.length y3)) 30 (0, 0)) ∧ A.Rep W (w1.heap.size ≤ ·) (.slice x1 A.lit.its.length y1) (.slice x2 A.lit.ks.length y2) (.slice x3 A.args.length y3) ∧
              W.heap[w6.heap.size]? = some (.cells (A.nine (.slice n1 A.lit.its.length o1) (.slice n2 A.lit.ks.length o2) (.slice n3 A.args.length o3)) 52 (0, 0)) ∧ A.Rep W (fun _ => True) (.slice n1 A.lit.its.length o1) (.slice n2 A.lit.ks.length o2) (.slice n3 A.args.length o3))
            (by exact ⟨(H3.out.1.trans HK6.out).alloc _, hk_alloc (HK6.out.same H3.out.2.1) _, H3.out.2.2.keep (kc_keeps (HK6.out.alloc _) fun _ _ => by simp), new_blk _ _, (HT6.out.keep (kc_alloc _)).mono fun _ _ => trivial⟩) (fun W9 HW9 => ?_)
          have H9 := Lib.hid HW9
          clear HW9 H3 HK6 HT6
          have gt := cell_blk H9.out.2.2.2.1
          have ge := cell_blk H9.out.2.1
          have hlt1 := hk_lt H9.out.2.2.2.1
          have hle1 := hk_lt H9.out.2.1
          go_region_held3 (fun W' => (∀ o, W'.cell? ⟨w6.heap.size, o, none⟩ = W9.cell? ⟨w6.heap.size, o, none⟩) ∧ (∀ o, W'.cell? ⟨w2.heap.size, o, none⟩ = W9.cell? ⟨w2.heap.size, o, none⟩))
            ((refine two_heldE hlt1 hle1 ?_; (repeat (first | with_reducible exact Keeps.refl _ _ | with_reducible exact (KC1.out) | with_reducible exact (KR1.out) | with_reducible refine Keeps.drew ?_)); done))
            (first
            | (go_at_call 27; refine (xref_any 40 A _ _ _ _ _ HLF.out.2 HLF.out.1 (H9.out.2.2.2.2.keep (by (repeat (first | with_reducible exact Kc.refl _ _ | with_reducible exact kc_drew))))).mono ?_; rintro e' wq1 hx; obtain ⟨vi, vk, va, rfl, hrep, hk⟩ := xref_at hx; obtain ⟨i1, k1, i2, k2, i3, k3, rfl, rfl, rfl⟩ := xrep_shape hrep; have KR1 : Hid (Keeps [] W9 wq1) := Lib.hid (Keeps.trans (by (repeat (first | with_reducible exact Keeps.refl _ _ | with_reducible refine Keeps.drew ?_))) hk); have HRR1 := Lib.hid hrep; clear hrep hk hx)
            | (go_at_call 26; refine (rsame_any 40 A A _ _ _ _ _ _ _ _ _ HLF.out.2 HLF.out.1 HLF.out.1 HRR1.out (H9.out.2.2.1.keep (kc_keeps KR1.out fun _ _ => by simp))).mono ?_; rintro e' wc1 hx; obtain ⟨rfl, hk⟩ := sm_at (c := true) hx ⟨fun _ => rfl, fun _ => rfl⟩; have KC1 : Hid (Keeps [] W9 wc1) := Lib.hid (KR1.out.trans hk); clear hk hx))
          all_goals
            refine ‹∀ (a : Act) (w : World), _ → _› _ _ ?_
            go_wp2_with fail
            go_ret
            exact ⟨rfl, (H9.out.1.trans KC1.out).nil_below⟩
    · have e1 : (cd != 0) = true := by simpa using hc
      go_wp2_with fail
      go_ret
      exact ⟨rfl, H3.out.1.nil_below⟩
  · by_cases h8 : s.size ≤ 600
    · have h9 : ¬ l.length ≤ 50 := fun h => h6 ⟨h8, h⟩
      clear h6
      go_wp2_with fail
      refine (HA.out _ HK1.out).mono ?_
      rintro e2 w2 ⟨rfl, hk2⟩
      have HK2 := Lib.hid (HK1.out.trans hk2)
      clear hk2
      go_wp2_with fail
      go_ret
      exact ⟨rfl, HK2.out.nil_below⟩
    · clear h6
      go_wp2_with fail
      refine (HA.out _ HK1.out).mono ?_
      rintro e2 w2 ⟨rfl, hk2⟩
      have HK2 := Lib.hid (HK1.out.trans hk2)
      clear hk2
      go_wp2_with fail
      go_ret
      exact ⟨rfl, HK2.out.nil_below⟩
end
end Go.Proofs.YtdlkdecigpaaaaaGreatDoor
