/- Put together: The document's parser: one, and what is taken of it; The document's parser: one (printed by wip/rone_print.py). -/
import Derived.Test.YtdlkdecigpaaaaaGreatDoorMp32
import Derived.Test.YtdlkdecigpaaaaaGreatDoorMp29
namespace Go.Proofs.YtdlkdecigpaaaaaGreatDoor
set_option linter.unusedVariables false
set_option linter.unusedSimpArgs false
open Go.RowKit

theorem nextq_str {u : ByteArray} {q : Int} (h : isAt u q 34 = true) : nextF u q = strF u q := by
  have hl := isAt_lt h
  have hb : bt u q = 34 := by
    have h2 := h
    simp only [isAt, Bool.and_eq_true, beq_iff_eq] at h2
    exact h2.2
  have hq : blanks u q = q := by
    have hn : isBlank u q = false := by simp [isBlank, isAt, hb]
    exact upTo_stop hn
  unfold nextF
  rw [hq, if_pos hl]
  unfold tokF
  rw [hb]
  rfl
section
variable {r r2 : Res} {b y : Nat} {T U : XT} {vi vk va ui uk ua : Value} {p c p2 c2 : Int} {w W : World}
/-- What is taken, laid into the variable: what it is taken of was laid beside it first. -/
theorem VarR.get (op nm : ByteArray) (e : Int) (h : VarR r b T vi vk va p c w W) (hb : w.heap.size < b) :
    VarR (.ok (.mk op nm VT.zero [T]) e) b (.mk op nm VT.zero [T]) (.slice none 0 0) (.slice none 0 0) (.slice (some ⟨W.heap.size + 1, 0, none⟩) 1 1) e 0 w
      (((sets11 W b (.string op) (.string nm) (.int .i64 0) (.bool false) (.int .i64 0) (.string eS) (.slice none 0 0) (.slice none 0 0) (.slice (some ⟨W.heap.size + 1, 0, none⟩) 1 1) (.int .i64 e) (.int .i64 0)).alloc (.cells (T.nine vi vk va) 30)).alloc (.cells (T.nine vi vk va) 30)) := by
  have hbl := hk_lt h.blk
  have hbx := hk_lt h.box
  rw [← sets11_alloc _ hbl, ← sets11_alloc _ (by rw [World.size_alloc]; omega)]
  have ka : Keeps [] W ((W.alloc (.cells (T.nine vi vk va) 30)).alloc (.cells (T.nine vi vk va) 30)) := ((Keeps.refl _ _).alloc _).alloc _
  have hn := new_blk1 W (.cells (T.nine vi vk va) 30) (.cells (T.nine vi vk va) 30)
  generalize (W.alloc (.cells (T.nine vi vk va) 30)).alloc (.cells (T.nine vi vk va) 30) = W2 at *
  have hu := un_rep op nm (S := fun k => w.heap.size < k ∧ k ≠ b) hn ⟨by omega, by omega⟩ (h.rep.keep (kc_keeps ka fun k _ => by simp))
  exact varr_set (ka.same h.blk) rfl hb (h.keeps.trans ka) (ka.same h.box) hu ⟨rfl, rfl, rfl⟩
/-- Both, put together, laid into the variable. -/
theorem VarRY.bin2 (op : ByteArray) (e : Int) (h : VarRY r r2 b y T vi vk va p c U ui uk ua p2 c2 w W) (hb : w.heap.size < b) :
    VarR (.ok (binT op T U) e) b (binT op T U) (.slice none 0 0) (.slice none 0 0) (.slice (some ⟨W.heap.size, 0, none⟩) 2 2) e 0 w
      ((sets11 W b (.string op) (.string eS) (.int .i64 0) (.bool false) (.int .i64 0) (.string eS) (.slice none 0 0) (.slice none 0 0) (.slice (some ⟨W.heap.size, 0, none⟩) 2 2) (.int .i64 e) (.int .i64 0)).alloc (.cells (T.nine vi vk va ++ U.nine ui uk ua) 30)) := by
  have hbl := hk_lt h.blk
  have hbx := hk_lt h.box
  rw [← sets11_alloc _ hbl]
  have ka : Keeps [] W (W.alloc (.cells (T.nine vi vk va ++ U.nine ui uk ua) 30)) := (Keeps.refl _ _).alloc _
  have hn := new_blk W (.cells (T.nine vi vk va ++ U.nine ui uk ua) 30)
  generalize W.alloc (.cells (T.nine vi vk va ++ U.nine ui uk ua) 30) = W2 at *
  have hu := bin_rep op eS (S := fun k => w.heap.size < k ∧ k ≠ b) hn ⟨by omega, by omega⟩ (h.rep.keep (kc_keeps ka fun k _ => by simp)) ((h.rep2.mono (S' := fun k => w.heap.size < k ∧ k ≠ b) (fun k hk => ⟨hk.1, hk.2.1⟩)).keep (kc_keeps ka fun k _ => by simp))
  exact varr_set (ka.same h.blk) rfl hb (h.keeps.trans ka) (ka.same h.box) hu ⟨rfl, rfl, rfl⟩
end
theorem two_held {b g y : Nat} {W W' : World} (h1 : g ≠ b ∧ g < W.heap.size) (h2 : y ≠ b ∧ y < W.heap.size) (h : Keeps [b] W W') : (∀ o, W'.cell? ⟨g, o, none⟩ = W.cell? ⟨g, o, none⟩) ∧ (∀ o, W'.cell? ⟨y, o, none⟩ = W.cell? ⟨y, o, none⟩) :=
  ⟨fun o => by simp only [World.cell?, h.block g h1.2 (by simpa using h1.1)], fun o => by simp only [World.cell?, h.block y h2.2 (by simpa using h2.1)]⟩
theorem VarR.boxr {r : Res} {b : Nat} {T : XT} {vi vk va : Value} {p c : Int} {w W : World} (h : VarR r b T vi vk va p c w W) : BoxR w W := ⟨h.box, h.keeps⟩
section
variable (s : ByteArray) (i : Int) (w : World) (r : Res)
set_option maxRecDepth 20000 in
set_option maxHeartbeats 8000000 in
theorem rpart_of (h0 : 0 ≤ i) (h1 : i ≤ s.size) (hs : s.size ≤ 4000) (hr : Par s .part i r)
    (H1 : ∀ (r' : Res) (W : World), Par s .one i r' → Calls Tryz.prog 88 #[.string s, .int .i64 i] W (RSays r' W))
    (HO : ∀ (i' : Int) (r' : Res) (W : World), i < i' → i' ≤ s.size → Par s (.lev 0) i' r' → Calls Tryz.prog 40 #[.string s, .int .i64 i', .int .i64 0] W (RSays r' W)) :
    Calls Tryz.prog 67 #[.string s, .int .i64 i] w (RSays r w) := by
  have hB := Lib.hid (boxr_new w)
  obtain ⟨r0, hr0, hst⟩ := part_first hr h0 h1
  have HF := Lib.hid (fun W => H1 r0 W hr0)
  have HOX := Lib.hid HO
  have HST := Lib.hid hst
  have HMK := Lib.hid (fun (t : ByteArray) (p : Int) (W : World) (hp0 : 0 ≤ p) (hp : p ≤ s.size) (ht : t.size ≤ 1000) => rmark_any s t p W hp0 hp (by omega) ht)
  clear H1 HO hr0 hst hr
  go_enter Tryz.func67, Tryz.ntmps67
  go_wp2_with fail
  refine (HF.out _).mono ?_
  rintro e1 w2 hx
  obtain ⟨T, vi, vk, va, p, c, rfl, hrep, hk1, ha⟩ := rsays_at hx
  obtain ⟨a1, c1, a2, c2, a3, c3, rfl, rfl, rfl⟩ := xrep_shape hrep
  have HV := Lib.hid (hB.out.var hrep hk1 ha)
  have hwz : w.heap.size < w2.heap.size := Nat.lt_of_lt_of_le (hk_lt hB.out.box) hk1.size
  clear hx hrep hk1 ha HF
  go_wp2_with fail
  refine abs_world (F := fun W => VarR r0 w2.heap.size T (.slice a1 T.lit.its.length c1) (.slice a2 T.lit.ks.length c2) (.slice a3 T.args.length c3) p c w W) HV.out (fun W3 HW3 => ?_)
  have HV3 := Lib.hid HW3
  clear HW3 HV
  go_loopg [] (s.size + 1) (fun k W => ∃ (r1 : Res) (T' : XT) (vi vk va : Value) (p c : Int), Hid (PtSt s r i k r1 ∧ VarR r1 w2.heap.size T' vi vk va p c w W))
  case atStart => exact ⟨r0, T, _, _, _, _, _, Lib.hid ⟨HST.out, HV3.out⟩⟩
  case round =>
    obtain ⟨r1, T', vi, vk, va, pv, cv, HQ⟩ := hrel
    obtain ⟨b1, d1, b2, d2, b3, d3, rfl, rfl, rfl⟩ := xrep_shape HQ.out.2.rep
    have gb3 := cell_blk HQ.out.2.blk
    have gbf3 := frozen_blk HQ.out.2.blk
    have gb4 := cell_blk HQ.out.2.box
    have gbf4 := frozen_blk HQ.out.2.box
    have hl3 := hk_lt HQ.out.2.blk
    have hl4 := hk_lt HQ.out.2.box
    rcases HQ.out.1 with ⟨p1, c1, rfl, rfl, hc⟩ | ⟨T0, p1, rfl, hpar, hip, hp, hpk⟩
    · have hat : T' = XT.zero ∧ pv = p1 ∧ cv = c1 := HQ.out.2.at_
      obtain ⟨hT, rfl, rfl⟩ := hat
      have e1 : (cv == 0) = false := by rw [beq_eq_false_iff_ne]; exact hc
      have HE := Lib.hid HQ.out.2.ret
      clear hc hT
      go_wp2_with fail
      refine abs_post (F := fun W => ToldR (.err pv cv) w.heap.size (T') (.slice b1 T'.lit.its.length d1) (.slice b2 T'.lit.ks.length d2) (.slice b3 T'.args.length d3) (pv) (cv) w W) (HE.out) (fun W hW => ?_)
      have cr := cell_blk hW.blk
      exact bodyPost_ret (v := .agg ((T' : XT).elf (.slice b1 T'.lit.its.length d1) (.slice b2 T'.lit.ks.length d2) (.slice b3 T'.args.length d3) (pv) (cv))) (by simp [results, Tryz.results67, go_sem, cr]) rfl (at_rsays rfl hW)
    · have hat : T' = T0 ∧ pv = p1 ∧ cv = 0 := HQ.out.2.at_
      obtain ⟨rfl, rfl, rfl⟩ := hat
      have hp0 : 0 ≤ pv := by omega
      have HD := Lib.hid (fun W => HMK.out ⟨#[46]⟩ pv W hp0 hp (by decide))
      by_cases hdot : 0 ≤ markAt s pv ⟨#[46]⟩
      · obtain ⟨nm, r2, hk2, hn2⟩ := parts_dot hpar hdot
        have hpp := mark_pos hdot (by decide)
        have HN2 := Lib.hid (ptst_of (i := i) hn2 hdot (by omega))
        have HNX := Lib.hid hn2
        generalize markAt s pv ⟨#[46]⟩ = e at *
        have hee : e ≤ s.size := hpp.2
        have hpe : pv < e := hpp.1
        have HWD := Lib.hid (fun W => word_any s e W hdot (by omega))
        have HBL := Lib.hid (fun W => blanks_any s e W hdot (by omega))
        have hq0 := blanks_ge s e
        have hq1 := blanks_le hdot hee
        have hbt := bt_at s (blanks s e)
        have hbr := bt_range s (blanks s e)
        clear hpar hn2 hpp
        rcases hk2 with ⟨hw, rfl, rfl⟩ | ⟨hw, hq, rfl, rfl⟩ | ⟨hw, hq, hc, rfl, rfl⟩ | ⟨hw, hq, hc, rfl, rfl⟩
        · have hwn := wo_nl hw
          have hwp := word_pos hdot hw
          have hw1 : e < wordAtEnd s e := hwp.1
          have hw2 : wordAtEnd s e ≤ s.size := hwp.2
          clear hw hwp hbt
          generalize wordAt s e = x at *
          generalize wordAtEnd s e = y at *
          generalize blanks s e = q at *
          go_upto_region 14 with (first
            | (go_at_call 66; (with_reducible refine (HD.out _).mono ?_); rintro e' w' ⟨rfl, rfl⟩)
            | (go_at_call 58; (with_reducible refine (HWD.out _).mono ?_); rintro e' w' ⟨rfl, rfl⟩)
            | (go_at_call 30; (with_reducible refine (HBL.out _).mono ?_); rintro e' w' ⟨rfl, rfl⟩))
          have HG := Lib.hid (HQ.out.2.get getS x y hwz)
          go_wp2_with fail
          go_roundg (s.size - e.toNat)
          case measure => omega
          case rel => exact ⟨_, getT x T', _, _, _, _, _, Lib.hid ⟨HN2.out, HG.out⟩⟩
        · have HX := Lib.hid (fun W => rwrong_any (blanks s e) 1 W)
          have HRE : Hid (r = .err (blanks s e) 1) := Lib.hid (by
            rcases HNX.out with ⟨p', c', h1, h2, _⟩ | ⟨T'', p', h1, _⟩
            · cases h1; exact h2
            · cases h1)
          rw [hw] at HWD
          have hor : (blanks s e < s.size ∧ (bt s (blanks s e) == 34) = false) ∨ ¬ blanks s e < s.size := by
            by_cases hl : blanks s e < s.size
            · left; refine ⟨hl, ?_⟩; simpa [isAt, hl] using hq
            · exact .inr hl
          clear hw hq HN2 HNX
          rw [HRE.out]
          generalize wordAtEnd s e = y at *
          generalize blanks s e = q at *
          rcases hor with ⟨hl, hb34⟩ | hl
          all_goals
            go_wp2_with (first
              | (go_at_call 66; (with_reducible refine (HD.out _).mono ?_); rintro e' w' ⟨rfl, rfl⟩)
              | (go_at_call 58; (with_reducible refine (HWD.out _).mono ?_); rintro e' w' ⟨rfl, rfl⟩)
              | (go_at_call 30; (with_reducible refine (HBL.out _).mono ?_); rintro e' w' ⟨rfl, rfl⟩))
            refine (HX.out _).mono ?_
            rintro e5 w5 hx
            obtain ⟨U, ui, uk, ua, p2, c2, rfl, hrep, hk5, ha⟩ := rsays_at hx
            obtain ⟨x1, y1, x2, y2, x3, y3, rfl, rfl, rfl⟩ := xrep_shape hrep
            have HT := Lib.hid (HQ.out.2.boxr.told hrep hk5 ha)
            have HB3 := Lib.hid (HQ.out.2.boxr.go hk5)
            have gb := cell_blk HB3.out.box
            have gf := frozen_blk HB3.out.box
            clear hx hrep hk5 ha
            go_wp2_with fail
            refine abs_post (F := fun W => ToldR (.err q 1) w.heap.size (U) (.slice x1 U.lit.its.length y1) (.slice x2 U.lit.ks.length y2) (.slice x3 U.args.length y3) (p2) (c2) w W) (HT.out) (fun W hW => ?_)
            have cr := cell_blk hW.blk
            exact bodyPost_ret (v := .agg ((U : XT).elf (.slice x1 U.lit.its.length y1) (.slice x2 U.lit.ks.length y2) (.slice x3 U.args.length y3) (p2) (c2))) (by simp [results, Tryz.results67, go_sem, cr]) rfl (at_rsays rfl hW)
        · obtain ⟨hl, hb34⟩ : blanks s e < s.size ∧ bt s (blanks s e) = 34 := by simp only [isAt, Bool.and_eq_true, decide_eq_true_eq, beq_iff_eq] at hq; exact hq
          have hc34 : (bt s (blanks s e) == 34) = true := by rw [hb34]; rfl
          have HNT : Hid (∀ W, Calls Tryz.prog 89 #[.string s, .int .i64 (blanks s e)] W (Next5Says (strF s (blanks s e)) W)) := Lib.hid (fun W => by have h := next5_any s (blanks s e) W (by omega) hq1 hs; rw [nextq_str hq] at h; exact h)
          have hsp := str_pos (s := s) (q := blanks s e) (by omega) hc
          rw [hw] at HWD
          generalize strF s (blanks s e) = x at *
          obtain ⟨tk, xp, xc⟩ := x
          obtain ⟨k1, k2, k3, k4, k5⟩ := tk
          have HNT2 : Hid (∀ W, Calls Tryz.prog 89 #[.string s, .int .i64 (blanks s e)] W fun e' w' => e' = .returned (.tuple #[.agg #[.int .i64 k1, .string k2, .int .i64 k3, .int .i64 k4, .int .i64 k5], .int .i64 xp, .int .i64 xc]) ∧ Below W.heap.size W w') := Lib.hid HNT.out
          clear HNT
          have hc' : xc = 0 := hc
          subst hc'
          have hk5a : blanks s e < k5 := hsp.1
          have hk5b : k5 ≤ s.size := hsp.2
          clear hq hb34 hw hsp HNX
          generalize wordAtEnd s e = y at *
          generalize blanks s e = q at *
          go_upto_region 11 with (first
            | (go_at_call 66; (with_reducible refine (HD.out _).mono ?_); rintro e' w' ⟨rfl, rfl⟩)
            | (go_at_call 58; (with_reducible refine (HWD.out _).mono ?_); rintro e' w' ⟨rfl, rfl⟩)
            | (go_at_call 30; (with_reducible refine (HBL.out _).mono ?_); rintro e' w' ⟨rfl, rfl⟩)
            | (go_at_call 89; (with_reducible refine (HNT2.out _).mono ?_); rintro e' w5 ⟨rfl, hb5⟩; have H5 := Lib.hid (HQ.out.2.go (Keeps.below hb5)); clear hb5))
          refine abs_world (F := fun W => VarR (.ok T' pv) w2.heap.size T' (.slice b1 T'.lit.its.length d1) (.slice b2 T'.lit.ks.length d2) (.slice b3 T'.args.length d3) pv 0 w W ∧ W.heap[w5.heap.size]? = some (.cells #[.int .i64 k1, .string k2, .int .i64 k3, .int .i64 k4, .int .i64 k5] 143 (0, 0))) (by exact ⟨H5.out.go ((Keeps.refl _ _).alloc _), new_blk _ _⟩) (fun W6 HW6 => ?_)
          have H6 := Lib.hid HW6
          clear HW6 H5 gb3 gbf3 gb4 gbf4 hl3 hl4
          have gk := cell_blk H6.out.2
          have gkd := cell_blk (hk_drew H6.out.2)
          go_quiet (fail)
          refine ‹∀ (a : Act) (w : World), _ → _› _ _ ?_
          refine abs_world (F := fun W => VarR (.ok T' pv) w2.heap.size T' (.slice b1 T'.lit.its.length d1) (.slice b2 T'.lit.ks.length d2) (.slice b3 T'.args.length d3) pv 0 w W) (by exact H6.out.1.go ((Keeps.refl _ _).drewN _)) (fun W7 HW7 => ?_)
          have H7 := Lib.hid HW7
          clear HW7 H6 gk gkd
          have gb3 := cell_blk H7.out.blk
          have gbf3 := frozen_blk H7.out.blk
          have hl3 := hk_lt H7.out.blk
          go_wp2_with fail
          go_roundg (s.size - e.toNat)
          case measure => omega
          case rel => exact ⟨_, getT k2 T', _, _, _, _, _, Lib.hid ⟨HN2.out, H7.out.get getS k2 k5 hwz⟩⟩
        · obtain ⟨hl, hb34⟩ : blanks s e < s.size ∧ bt s (blanks s e) = 34 := by simp only [isAt, Bool.and_eq_true, decide_eq_true_eq, beq_iff_eq] at hq; exact hq
          have hc34 : (bt s (blanks s e) == 34) = true := by rw [hb34]; rfl
          have HNT : Hid (∀ W, Calls Tryz.prog 89 #[.string s, .int .i64 (blanks s e)] W (Next5Says (strF s (blanks s e)) W)) := Lib.hid (fun W => by have h := next5_any s (blanks s e) W (by omega) hq1 hs; rw [nextq_str hq] at h; exact h)
          have HRE : Hid (r = .err (strF s (blanks s e)).2.1 (strF s (blanks s e)).2.2) := Lib.hid (by
            rcases HNX.out with ⟨p', c', h1, h2, _⟩ | ⟨T'', p', h1, _⟩
            · cases h1; exact h2
            · cases h1)
          rw [hw] at HWD
          generalize strF s (blanks s e) = x at *
          obtain ⟨tk, xp, xc⟩ := x
          obtain ⟨k1, k2, k3, k4, k5⟩ := tk
          have HNT2 : Hid (∀ W, Calls Tryz.prog 89 #[.string s, .int .i64 (blanks s e)] W fun e' w' => e' = .returned (.tuple #[.agg #[.int .i64 k1, .string k2, .int .i64 k3, .int .i64 k4, .int .i64 k5], .int .i64 xp, .int .i64 xc]) ∧ Below W.heap.size W w') := Lib.hid HNT.out
          clear HNT
          have hcc : (xc == 0) = false := by rw [beq_eq_false_iff_ne]; exact hc
          have HX := Lib.hid (fun W => rwrong_any xp xc W)
          rw [HRE.out]
          clear hq hb34 hw HNX hc HN2
          generalize wordAtEnd s e = y at *
          generalize blanks s e = q at *
          go_upto_region 9 with (first
            | (go_at_call 66; (with_reducible refine (HD.out _).mono ?_); rintro e' w' ⟨rfl, rfl⟩)
            | (go_at_call 58; (with_reducible refine (HWD.out _).mono ?_); rintro e' w' ⟨rfl, rfl⟩)
            | (go_at_call 30; (with_reducible refine (HBL.out _).mono ?_); rintro e' w' ⟨rfl, rfl⟩)
            | (go_at_call 89; (with_reducible refine (HNT2.out _).mono ?_); rintro e' w5 ⟨rfl, hb5⟩; have H5 := Lib.hid (HQ.out.2.go (Keeps.below hb5)); clear hb5))
          refine abs_world (F := fun W => BoxR w W) (by exact (H5.out.go ((Keeps.refl _ _).alloc _)).boxr) (fun W6 HW6 => ?_)
          have H6 := Lib.hid HW6
          clear HW6 H5 gb3 gbf3 gb4 gbf4 hl3 hl4
          go_wp2_with fail
          refine (HX.out _).mono ?_
          rintro e5 w5 hx
          obtain ⟨U, ui, uk, ua, p2, c2, rfl, hrep, hk5, ha⟩ := rsays_at hx
          obtain ⟨x1, y1, x2, y2, x3, y3, rfl, rfl, rfl⟩ := xrep_shape hrep
          have HT := Lib.hid (H6.out.told hrep hk5 ha)
          have HB3 := Lib.hid (H6.out.go hk5)
          have gb := cell_blk HB3.out.box
          have gf := frozen_blk HB3.out.box
          clear hx hrep hk5 ha
          go_wp2_with fail
          refine abs_post (F := fun W => ToldR (.err xp xc) w.heap.size (U) (.slice x1 U.lit.its.length y1) (.slice x2 U.lit.ks.length y2) (.slice x3 U.args.length y3) (p2) (c2) w W) (HT.out) (fun W hW => ?_)
          have cr := cell_blk hW.blk
          exact bodyPost_ret (v := .agg ((U : XT).elf (.slice x1 U.lit.its.length y1) (.slice x2 U.lit.ks.length y2) (.slice x3 U.args.length y3) (p2) (c2))) (by simp [results, Tryz.results67, go_sem, cr]) rfl (at_rsays rfl hW)
      · have HM2 := Lib.hid (fun W => HMK.out ⟨#[91]⟩ pv W hp0 hp (by decide))
        have hdn : markAt s pv ⟨#[46]⟩ < 0 := by omega
        by_cases hsq : 0 ≤ markAt s pv ⟨#[91]⟩
        · obtain ⟨r3, hr3, he3, ho3⟩ := parts_sq hpar hdn hsq
          have hpp := mark_pos hsq (by decide)
          have HR3 := Lib.hid hr3
          have HE3 := Lib.hid he3
          have HO3 := Lib.hid ho3
          have HLV := Lib.hid (fun W => HOX.out (markAt s pv ⟨#[91]⟩) r3 W (by omega) hpp.2 hr3)
          clear hr3 he3 ho3 hpar hdot
          generalize markAt s pv ⟨#[46]⟩ = e0 at *
          generalize markAt s pv ⟨#[91]⟩ = e at *
          go_wp2_with (first
            | (go_at_call 66; (with_reducible refine (HD.out _).mono ?_); rintro e' w' ⟨rfl, rfl⟩)
            | (go_at_call 66; (with_reducible refine (HM2.out _).mono ?_); rintro e' w' ⟨rfl, rfl⟩))
          refine (HLV.out _).mono ?_
          rintro e5 w5 hx
          obtain ⟨U, ui, uk, ua, p2, c2, rfl, hrep, hk5, ha⟩ := rsays_at hx
          obtain ⟨x1, y1, x2, y2, x3, y3, rfl, rfl, rfl⟩ := xrep_shape hrep
          have HY := Lib.hid (HQ.out.2.yv hrep hk5 ha)
          have hw5 : w2.heap.size < w5.heap.size := Nat.lt_of_lt_of_le (hk_lt HQ.out.2.blk) hk5.size
          clear hx hrep hk5 ha gb3 gbf3 gb4 gbf4 hl3 hl4 HLV
          go_upto_region 20 with fail
          refine abs_world (F := fun W => VarRY (.ok T' pv) r3 w2.heap.size w5.heap.size T' (.slice b1 T'.lit.its.length d1) (.slice b2 T'.lit.ks.length d2) (.slice b3 T'.args.length d3) pv 0 U (.slice x1 U.lit.its.length y1) (.slice x2 U.lit.ks.length y2) (.slice x3 U.args.length y3) p2 c2 w W) HY.out (fun W6 HW6 => ?_)
          have H6 := Lib.hid HW6
          clear HW6 HY
          have gx := cell_blk H6.out.blk
          have gy := cell_blk H6.out.blk2
          have gb6 := cell_blk H6.out.box
          have gbf6 := frozen_blk H6.out.box
          cases r3 with
          | err p' c' =>
            have hat : U = XT.zero ∧ p2 = p' ∧ c2 = c' := H6.out.at2
            obtain ⟨hU, rfl, rfl⟩ := hat
            obtain ⟨hre, hc'⟩ := HE3.out p2 c2 rfl
            have e1 : (c2 == 0) = false := by rw [beq_eq_false_iff_ne]; exact hc'
            have HRE := Lib.hid hre
            have HE := Lib.hid H6.out.ret
            clear hc' hU hre
            go_wp2_with fail
            rw [HRE.out]
            refine abs_post (F := fun W => ToldR (.err p2 c2) w.heap.size (U) (.slice x1 U.lit.its.length y1) (.slice x2 U.lit.ks.length y2) (.slice x3 U.args.length y3) (p2) (c2) w W) (HE.out) (fun W hW => ?_)
            have cr := cell_blk hW.blk
            exact bodyPost_ret (v := .agg ((U : XT).elf (.slice x1 U.lit.its.length y1) (.slice x2 U.lit.ks.length y2) (.slice x3 U.args.length y3) (p2) (c2))) (by simp [results, Tryz.results67, go_sem, cr]) rfl (at_rsays rfl hW)
          | ok U' p' =>
            have hat : U = U' ∧ p2 = p' ∧ c2 = 0 := H6.out.at2
            obtain ⟨rfl, rfl, rfl⟩ := hat
            have hpq := par_pos HR3.out (by omega) hpp.2
            have hpp1 : e < p2 := hpq.2
            have hpp2 : p2 ≤ s.size := hpq.1.2
            have hpe : pv < e := hpp.1
            have HM3 := Lib.hid (fun W => HMK.out ⟨#[93]⟩ p2 W (by omega) hpp2 (by decide))
            clear hpq hpp
            rcases HO3.out U p2 rfl with ⟨hno, hre⟩ | ⟨hyes, hpar'⟩
            · have HX := Lib.hid (fun W => rwrong_any (blanks s p2) 1 W)
              have HBL := Lib.hid (fun W => blanks_any s p2 W (by omega) (by omega))
              subst hre
              clear gx
              generalize markAt s p2 ⟨#[93]⟩ = e3 at *
              generalize blanks s p2 = q at *
              go_wp2_with (first
                | (go_at_call 66; (with_reducible refine (HM3.out _).mono ?_); rintro e' w' ⟨rfl, rfl⟩)
                | (go_at_call 30; (with_reducible refine (HBL.out _).mono ?_); rintro e' w' ⟨rfl, rfl⟩))
              refine (HX.out _).mono ?_
              rintro e7 w7 hx
              obtain ⟨V, ui, uk, ua, p3, c3, rfl, hrep, hk7, ha⟩ := rsays_at hx
              obtain ⟨z1, t1, z2, t2, z3, t3, rfl, rfl, rfl⟩ := xrep_shape hrep
              have HT := Lib.hid (H6.out.boxr.told hrep hk7 ha)
              have HB3 := Lib.hid (H6.out.boxr.go hk7)
              have gb := cell_blk HB3.out.box
              have gf := frozen_blk HB3.out.box
              clear hx hrep hk7 ha gy gb6 gbf6
              go_wp2_with fail
              refine abs_post (F := fun W => ToldR (.err q 1) w.heap.size (V) (.slice z1 V.lit.its.length t1) (.slice z2 V.lit.ks.length t2) (.slice z3 V.args.length t3) (p3) (c3) w W) (HT.out) (fun W hW => ?_)
              have cr := cell_blk hW.blk
              exact bodyPost_ret (v := .agg ((V : XT).elf (.slice z1 V.lit.its.length t1) (.slice z2 V.lit.ks.length t2) (.slice z3 V.args.length t3) (p3) (c3))) (by simp [results, Tryz.results67, go_sem, cr]) rfl (at_rsays rfl hW)
            · have hq := mark_pos hyes (by decide)
              have HPR := Lib.hid hpar'
              have hq1 : p2 < markAt s p2 ⟨#[93]⟩ := hq.1
              have hq2 : markAt s p2 ⟨#[93]⟩ ≤ s.size := hq.2
              clear hpar' hq gb6 gbf6
              generalize markAt s p2 ⟨#[93]⟩ = e3 at *
              go_upto_region 25 with (go_at_call 66; (with_reducible refine (HM3.out _).mono ?_); rintro e' w' ⟨rfl, rfl⟩)
              refine abs_world (F := fun W => VarRY (.ok T' pv) (.ok U p2) w2.heap.size w5.heap.size T' (.slice b1 T'.lit.its.length d1) (.slice b2 T'.lit.ks.length d2) (.slice b3 T'.args.length d3) pv 0 U (.slice x1 U.lit.its.length y1) (.slice x2 U.lit.ks.length y2) (.slice x3 U.args.length y3) p2 0 w W ∧ W.heap[W6.heap.size]? = some (.cells (T'.nine (.slice b1 T'.lit.its.length d1) (.slice b2 T'.lit.ks.length d2) (.slice b3 T'.args.length d3)) 30 (0, 0)) ∧ w5.heap.size < W6.heap.size) (by exact ⟨H6.out.go ((Keeps.refl _ _).alloc _), new_blk _ _, hk_lt H6.out.blk2⟩) (fun W8 HW8 => ?_)
              have H8 := Lib.hid HW8
              clear HW8 gx gy
              have gx := cell_blk H8.out.1.blk
              have gfx := frozen_blk H8.out.1.blk
              have gy := cell_blk H8.out.1.blk2
              have gw := cell_blk H8.out.2.1
              have hlx := hk_lt H8.out.1.blk
              have hly := hk_lt H8.out.1.blk2
              have hlw := hk_lt H8.out.2.1
              have hw56 := H8.out.2.2
              have g1 : W6.heap.size ≠ w2.heap.size ∧ W6.heap.size < W8.heap.size := ⟨by omega, hlw⟩
              have g2 : w5.heap.size ≠ w2.heap.size ∧ w5.heap.size < W8.heap.size := ⟨by omega, hly⟩
              go_region_held3 (fun W' => (∀ o, W'.cell? ⟨W6.heap.size, o, none⟩ = W8.cell? ⟨W6.heap.size, o, none⟩) ∧ (∀ o, W'.cell? ⟨w5.heap.size, o, none⟩ = W8.cell? ⟨w5.heap.size, o, none⟩))
                ((refine two_held (b := w2.heap.size) g1 g2 ?_; (repeat (first | with_reducible exact Keeps.refl _ _ | with_reducible refine Keeps.drew ?_ | with_reducible refine Keeps.alloc ?_ _ | refine Keeps.set ?_ (.inl (by simp)) _)); done))
                (first
                  | (go_at_call 66; (with_reducible refine (HM3.out _).mono ?_); rintro e' w' ⟨rfl, rfl⟩))
              all_goals
                refine ‹∀ (a : Act) (w : World), _ → _› _ _ ?_
                go_roundg (s.size - pv.toNat)
                case measure => omega
                case rel => exact ⟨_, binT atS T' U, _, _, _, _, _, Lib.hid ⟨.inr ⟨_, _, rfl, HPR.out, by omega, hq2, by omega⟩, (H8.out.1.bin2 atS e3 hwz).go ((Keeps.refl _ _).drew)⟩⟩
        · have HRE := Lib.hid (parts_no hpar hdn (by omega))
          have HE := Lib.hid HQ.out.2.ret
          clear hpar hdot
          generalize markAt s pv ⟨#[46]⟩ = e0 at *
          generalize markAt s pv ⟨#[91]⟩ = e at *
          go_wp2_with (first
            | (go_at_call 66; (with_reducible refine (HD.out _).mono ?_); rintro e' w' ⟨rfl, rfl⟩)
            | (go_at_call 66; (with_reducible refine (HM2.out _).mono ?_); rintro e' w' ⟨rfl, rfl⟩))
          rw [HRE.out]
          refine abs_post (F := fun W => ToldR (.ok T' pv) w.heap.size (T') (.slice b1 T'.lit.its.length d1) (.slice b2 T'.lit.ks.length d2) (.slice b3 T'.args.length d3) (pv) (0) w W) (HE.out) (fun W hW => ?_)
          have cr := cell_blk hW.blk
          exact bodyPost_ret (v := .agg ((T' : XT).elf (.slice b1 T'.lit.its.length d1) (.slice b2 T'.lit.ks.length d2) (.slice b3 T'.args.length d3) (pv) (0))) (by simp [results, Tryz.results67, go_sem, cr]) rfl (at_rsays rfl hW)
end
end Go.Proofs.YtdlkdecigpaaaaaGreatDoor
namespace Go.Proofs.YtdlkdecigpaaaaaGreatDoor
set_option linter.unusedVariables false
set_option linter.unusedSimpArgs false
open Go.RowKit

theorem quote_or {s : ByteArray} {q : Int} (h : isAt s q 34 = false) : (q < s.size ∧ (bt s q == 34) = false) ∨ ¬ q < s.size := by
  by_cases hl : q < s.size
  · left; refine ⟨hl, ?_⟩; simpa [isAt, hl] using h
  · exact .inr hl
theorem quote_at {s : ByteArray} {q : Int} (h : isAt s q 34 = true) : q < s.size ∧ bt s q = 34 := by
  simp only [isAt, Bool.and_eq_true, decide_eq_true_eq, beq_iff_eq] at h; exact h
theorem letter_mark {s : ByteArray} {i : Int} (h0 : 0 ≤ i) (h : letterAt s (blanks s i) = true) : markAt s i ⟨#[40]⟩ < 0 := by
  rcases Int.lt_or_le (markAt s i ⟨#[40]⟩) 0 with h1 | h1
  · exact h1
  · have := mark_byte h0 h1
    rw [show ((40 : UInt8).toNat : Int) = 40 from rfl, (letter_not h).2.2] at this; cases this
section
variable (s : ByteArray) (i : Int) (w : World)
set_option maxRecDepth 20000 in
set_option maxHeartbeats 4000000 in
theorem rone_num (h0 : 0 ≤ i) (h1 : i ≤ s.size) (hs : s.size ≤ 4000) (hd : digitAt s (blanks s i) = true) (HN : ∀ W, Calls Tryz.prog 120 #[.string s, .int .i64 (blanks s i)] W (RSays (numR s (blanks s i)) W)) :
    Calls Tryz.prog 88 #[.string s, .int .i64 i] w (RSays (numR s (blanks s i)) w) := by
  have hB := Lib.hid (boxr_new w)
  have HBL := Lib.hid (fun W => blanks_any s i W h0 (by omega))
  have hq0 := blanks_ge s i
  have hq1 := blanks_le h0 h1
  have hbt := bt_at s (blanks s i)
  have hbr := bt_range s (blanks s i)
  have HDG := Lib.hid (fun W => digit8_any s (blanks s i) W (by omega))
  rw [hd] at HDG
  have HX := Lib.hid HN
  clear HN hbt hd
  generalize numR s (blanks s i) = r at *
  generalize blanks s i = q at *
  go_enter Tryz.func88, Tryz.ntmps88
  go_wp2_with (first
    | (go_at_call 30; (with_reducible refine (HBL.out _).mono ?_); rintro e w' ⟨rfl, rfl⟩)
    | (go_at_call 103; (with_reducible refine (HDG.out _).mono ?_); rintro e w' ⟨rfl, rfl⟩))
  refine (HX.out _).mono ?_
  rintro e1 w2 hx
  obtain ⟨T, vi, vk, va, p, c, rfl, hrep, hk1, ha⟩ := rsays_at hx
  obtain ⟨a1, c1, a2, c2, a3, c3, rfl, rfl, rfl⟩ := xrep_shape hrep
  have HT := Lib.hid (hB.out.told hrep hk1 ha)
  have HB3 := Lib.hid (hB.out.go hk1)
  have gb := cell_blk HB3.out.box
  have gf := frozen_blk HB3.out.box
  clear hx hrep hk1 ha
  go_wp2_with fail
  refine abs_post (F := fun W => ToldR (r) w.heap.size (T) (.slice a1 T.lit.its.length c1) (.slice a2 T.lit.ks.length c2) (.slice a3 T.args.length c3) (p) (c) w W) (HT.out) (fun W hW => ?_)
  have cr := cell_blk hW.blk
  exact bodyPost_ret (v := .agg ((T : XT).elf (.slice a1 T.lit.its.length c1) (.slice a2 T.lit.ks.length c2) (.slice a3 T.args.length c3) (p) (c))) (by simp [results, Tryz.results88, go_sem, cr]) rfl (at_rsays rfl hW)
theorem textR_ok (q : Int) (hc : (strF s q).2.2 = 0) : textR s q = .ok (litT (textV (strF s q).1.text)) (strF s q).1.stop := by unfold textR; rw [if_pos hc]
theorem textR_err (q : Int) (hc : (strF s q).2.2 ≠ 0) : textR s q = .err (strF s q).2.1 (strF s q).2.2 := by unfold textR; rw [if_neg hc]
set_option maxRecDepth 20000 in
set_option maxHeartbeats 4000000 in
theorem rone_text_err (h0 : 0 ≤ i) (h1 : i ≤ s.size) (hs : s.size ≤ 4000) (hq : isAt s (blanks s i) 34 = true) (hc : (strF s (blanks s i)).2.2 ≠ 0) :
    Calls Tryz.prog 88 #[.string s, .int .i64 i] w (RSays (textR s (blanks s i)) w) := by
  have hB := Lib.hid (boxr_new w)
  have HBL := Lib.hid (fun W => blanks_any s i W h0 (by omega))
  have hq0 := blanks_ge s i
  have hq1 := blanks_le h0 h1
  have hbt := bt_at s (blanks s i)
  have hbr := bt_range s (blanks s i)
  have HDG := Lib.hid (fun W => digit8_any s (blanks s i) W (by omega))
  rw [textR_err s _ hc]
  obtain ⟨hl, hb34⟩ := quote_at hq
  have hdg : digitAt s (blanks s i) = false := by simp [digitAt, digitB, hb34]
  rw [hdg] at HDG
  have hc34 : (bt s (blanks s i) == 34) = true := by rw [hb34]; rfl
  have HNT : Hid (∀ W, Calls Tryz.prog 89 #[.string s, .int .i64 (blanks s i)] W (Next5Says (strF s (blanks s i)) W)) := Lib.hid (fun W => by have h := next5_any s (blanks s i) W (by omega) hq1 hs; rw [nextq_str hq] at h; exact h)
  generalize strF s (blanks s i) = x at *
  obtain ⟨tk, xp, xc⟩ := x
  obtain ⟨k1, k2, k3, k4, k5⟩ := tk
  have HNX : Hid (∀ W, Calls Tryz.prog 89 #[.string s, .int .i64 (blanks s i)] W fun e' w' => e' = .returned (.tuple #[.agg #[.int .i64 k1, .string k2, .int .i64 k3, .int .i64 k4, .int .i64 k5], .int .i64 xp, .int .i64 xc]) ∧ Below W.heap.size W w') := Lib.hid HNT.out
  clear HNT
  have hcc : (xc == 0) = false := by rw [beq_eq_false_iff_ne]; exact hc
  have HX := Lib.hid (fun W => rwrong_any xp xc W)
  clear hq hc hb34 hdg
  generalize blanks s i = q at *
  go_enter Tryz.func88, Tryz.ntmps88
  go_upto_region 7 with (first
    | (go_at_call 30; (with_reducible refine (HBL.out _).mono ?_); rintro e w' ⟨rfl, rfl⟩)
    | (go_at_call 103; (with_reducible refine (HDG.out _).mono ?_); rintro e w' ⟨rfl, rfl⟩)
    | (go_at_call 89; (with_reducible refine (HNX.out _).mono ?_); rintro e w5 ⟨rfl, hb5⟩; have H5 := Lib.hid (hB.out.go (Keeps.below hb5)); clear hb5; have gb5 := cell_blk H5.out.box; have gbf5 := frozen_blk H5.out.box; have hl5 := hk_lt H5.out.box))
  refine abs_world (F := fun W => BoxR w W) (by exact H5.out.go ((Keeps.refl _ _).alloc _)) (fun W6 HW6 => ?_)
  have H6 := Lib.hid HW6
  clear HW6 gb5 gbf5 hl5 H5
  go_wp2_with fail
  refine (HX.out _).mono ?_
  rintro e1 w2 hx
  obtain ⟨T, vi, vk, va, p, c, rfl, hrep, hk1, ha⟩ := rsays_at hx
  obtain ⟨a1, c1, a2, c2, a3, c3, rfl, rfl, rfl⟩ := xrep_shape hrep
  have HT := Lib.hid (H6.out.told hrep hk1 ha)
  have HB3 := Lib.hid (H6.out.go hk1)
  have gb := cell_blk HB3.out.box
  have gf := frozen_blk HB3.out.box
  clear hx hrep hk1 ha
  go_wp2_with fail
  refine abs_post (F := fun W => ToldR (.err xp xc) w.heap.size (T) (.slice a1 T.lit.its.length c1) (.slice a2 T.lit.ks.length c2) (.slice a3 T.args.length c3) (p) (c) w W) (HT.out) (fun W hW => ?_)
  have cr := cell_blk hW.blk
  exact bodyPost_ret (v := .agg ((T : XT).elf (.slice a1 T.lit.its.length c1) (.slice a2 T.lit.ks.length c2) (.slice a3 T.args.length c3) (p) (c))) (by simp [results, Tryz.results88, go_sem, cr]) rfl (at_rsays rfl hW)
set_option maxRecDepth 20000 in
set_option maxHeartbeats 4000000 in
theorem rone_text_ok (h0 : 0 ≤ i) (h1 : i ≤ s.size) (hs : s.size ≤ 4000) (hq : isAt s (blanks s i) 34 = true) (hc : (strF s (blanks s i)).2.2 = 0) :
    Calls Tryz.prog 88 #[.string s, .int .i64 i] w (RSays (textR s (blanks s i)) w) := by
  have hB := Lib.hid (boxr_new w)
  have HBL := Lib.hid (fun W => blanks_any s i W h0 (by omega))
  have hq0 := blanks_ge s i
  have hq1 := blanks_le h0 h1
  have hbt := bt_at s (blanks s i)
  have hbr := bt_range s (blanks s i)
  have HDG := Lib.hid (fun W => digit8_any s (blanks s i) W (by omega))
  rw [textR_ok s _ hc]
  obtain ⟨hl, hb34⟩ := quote_at hq
  have hdg : digitAt s (blanks s i) = false := by simp [digitAt, digitB, hb34]
  rw [hdg] at HDG
  have hc34 : (bt s (blanks s i) == 34) = true := by rw [hb34]; rfl
  have HNT : Hid (∀ W, Calls Tryz.prog 89 #[.string s, .int .i64 (blanks s i)] W (Next5Says (strF s (blanks s i)) W)) := Lib.hid (fun W => by have h := next5_any s (blanks s i) W (by omega) hq1 hs; rw [nextq_str hq] at h; exact h)
  generalize strF s (blanks s i) = x at *
  obtain ⟨tk, xp, xc⟩ := x
  obtain ⟨k1, k2, k3, k4, k5⟩ := tk
  have HNX : Hid (∀ W, Calls Tryz.prog 89 #[.string s, .int .i64 (blanks s i)] W fun e' w' => e' = .returned (.tuple #[.agg #[.int .i64 k1, .string k2, .int .i64 k3, .int .i64 k4, .int .i64 k5], .int .i64 xp, .int .i64 xc]) ∧ Below W.heap.size W w') := Lib.hid HNT.out
  clear HNT
  have hc' : xc = 0 := hc
  subst hc'
  have HX := Lib.hid (fun W => rliteral_any 3 false 0 k2 k5 W)
  clear hq hb34 hdg hc
  generalize blanks s i = q at *
  go_enter Tryz.func88, Tryz.ntmps88
  go_upto_region 8 with (first
    | (go_at_call 30; (with_reducible refine (HBL.out _).mono ?_); rintro e w' ⟨rfl, rfl⟩)
    | (go_at_call 103; (with_reducible refine (HDG.out _).mono ?_); rintro e w' ⟨rfl, rfl⟩)
    | (go_at_call 89; (with_reducible refine (HNX.out _).mono ?_); rintro e w5 ⟨rfl, hb5⟩; have H5 := Lib.hid (hB.out.go (Keeps.below hb5)); clear hb5; have gb5 := cell_blk H5.out.box; have gbf5 := frozen_blk H5.out.box; have hl5 := hk_lt H5.out.box))
  refine abs_world (F := fun W => BoxR w W ∧ W.heap[w5.heap.size]? = some (.cells #[.int .i64 k1, .string k2, .int .i64 k3, .int .i64 k4, .int .i64 k5] 143 (0, 0))) (by exact ⟨H5.out.go ((Keeps.refl _ _).alloc _), new_blk _ _⟩) (fun W6 HW6 => ?_)
  have H6 := Lib.hid HW6.1
  have gk := cell_blk HW6.2
  clear HW6 gb5 gbf5 hl5 H5
  go_wp2_with fail
  refine (HX.out _).mono ?_
  rintro e1 w2 hx
  obtain ⟨T, vi, vk, va, p, c, rfl, hrep, hk1, ha⟩ := rsays_at hx
  obtain ⟨a1, c1, a2, c2, a3, c3, rfl, rfl, rfl⟩ := xrep_shape hrep
  have HT := Lib.hid (H6.out.told hrep hk1 ha)
  have HB3 := Lib.hid (H6.out.go hk1)
  have gb := cell_blk HB3.out.box
  have gf := frozen_blk HB3.out.box
  clear hx hrep hk1 ha
  go_wp2_with fail
  refine abs_post (F := fun W => ToldR (.ok (litT (textV k2)) k5) w.heap.size (T) (.slice a1 T.lit.its.length c1) (.slice a2 T.lit.ks.length c2) (.slice a3 T.args.length c3) (p) (c) w W) (HT.out) (fun W hW => ?_)
  have cr := cell_blk hW.blk
  exact bodyPost_ret (v := .agg ((T : XT).elf (.slice a1 T.lit.its.length c1) (.slice a2 T.lit.ks.length c2) (.slice a3 T.args.length c3) (p) (c))) (by simp [results, Tryz.results88, go_sem, cr]) rfl (at_rsays rfl hW)
set_option maxRecDepth 20000 in
set_option maxHeartbeats 4000000 in
theorem rone_true (h0 : 0 ≤ i) (h1 : i ≤ s.size) (hs : s.size ≤ 4000) (hd : digitAt s (blanks s i) = false) (hq : isAt s (blanks s i) 34 = false) (hm : markAt s i ⟨#[40]⟩ < 0) (hw : wordAt s i = trueS) :
    Calls Tryz.prog 88 #[.string s, .int .i64 i] w (RSays (.ok (litT (boolV true)) (wordAtEnd s i)) w) := by
  have hB := Lib.hid (boxr_new w)
  have HBL := Lib.hid (fun W => blanks_any s i W h0 (by omega))
  have hq0 := blanks_ge s i
  have hq1 := blanks_le h0 h1
  have hbt := bt_at s (blanks s i)
  have hbr := bt_range s (blanks s i)
  have HDG := Lib.hid (fun W => digit8_any s (blanks s i) W (by omega))
  have HMK := Lib.hid (fun W => rmark_any s ⟨#[40]⟩ i W h0 h1 (by omega) (by decide))
  have HWD := Lib.hid (fun W => word_any s i W h0 (by omega))
  rw [hd] at HDG
  have hor := quote_or hq
  clear hq hd
  have f_true : ((wordAt s i).toList == [116, 114, 117, 101]) = true := by rw [hw]; decide +kernel
  have f_false : ((wordAt s i).toList == [102, 97, 108, 115, 101]) = false := by rw [hw]; decide +kernel
  have HX := Lib.hid (fun W => rliteral_any 1 true 0 eS (wordAtEnd s i) W)
  clear hw
  generalize markAt s i ⟨#[40]⟩ = m at *
  generalize wordAt s i = x at *
  generalize wordAtEnd s i = y at *
  generalize blanks s i = q at *
  go_enter Tryz.func88, Tryz.ntmps88
  rcases hor with ⟨hl, hb34⟩ | hl
  all_goals
    go_wp2_with (first
      | (go_at_call 30; (with_reducible refine (HBL.out _).mono ?_); rintro e w' ⟨rfl, rfl⟩)
      | (go_at_call 103; (with_reducible refine (HDG.out _).mono ?_); rintro e w' ⟨rfl, rfl⟩)
      | (go_at_call 66; (with_reducible refine (HMK.out _).mono ?_); rintro e w' ⟨rfl, rfl⟩)
      | (go_at_call 58; (with_reducible refine (HWD.out _).mono ?_); rintro e w' ⟨rfl, rfl⟩))
    refine (HX.out _).mono ?_
    rintro e1 w2 hx
    obtain ⟨T, vi, vk, va, p, c, rfl, hrep, hk1, ha⟩ := rsays_at hx
    obtain ⟨a1, c1, a2, c2, a3, c3, rfl, rfl, rfl⟩ := xrep_shape hrep
    have HT := Lib.hid (hB.out.told hrep hk1 ha)
    have HB3 := Lib.hid (hB.out.go hk1)
    have gb := cell_blk HB3.out.box
    have gf := frozen_blk HB3.out.box
    clear hx hrep hk1 ha
    go_wp2_with fail
    refine abs_post (F := fun W => ToldR (.ok (litT (boolV true)) y) w.heap.size (T) (.slice a1 T.lit.its.length c1) (.slice a2 T.lit.ks.length c2) (.slice a3 T.args.length c3) (p) (c) w W) (HT.out) (fun W hW => ?_)
    have cr := cell_blk hW.blk
    exact bodyPost_ret (v := .agg ((T : XT).elf (.slice a1 T.lit.its.length c1) (.slice a2 T.lit.ks.length c2) (.slice a3 T.args.length c3) (p) (c))) (by simp [results, Tryz.results88, go_sem, cr]) rfl (at_rsays rfl hW)
set_option maxRecDepth 20000 in
set_option maxHeartbeats 4000000 in
theorem rone_false (h0 : 0 ≤ i) (h1 : i ≤ s.size) (hs : s.size ≤ 4000) (hd : digitAt s (blanks s i) = false) (hq : isAt s (blanks s i) 34 = false) (hm : markAt s i ⟨#[40]⟩ < 0) (hw : wordAt s i = falseS) :
    Calls Tryz.prog 88 #[.string s, .int .i64 i] w (RSays (.ok (litT (boolV false)) (wordAtEnd s i)) w) := by
  have hB := Lib.hid (boxr_new w)
  have HBL := Lib.hid (fun W => blanks_any s i W h0 (by omega))
  have hq0 := blanks_ge s i
  have hq1 := blanks_le h0 h1
  have hbt := bt_at s (blanks s i)
  have hbr := bt_range s (blanks s i)
  have HDG := Lib.hid (fun W => digit8_any s (blanks s i) W (by omega))
  have HMK := Lib.hid (fun W => rmark_any s ⟨#[40]⟩ i W h0 h1 (by omega) (by decide))
  have HWD := Lib.hid (fun W => word_any s i W h0 (by omega))
  rw [hd] at HDG
  have hor := quote_or hq
  clear hq hd
  have f_true : ((wordAt s i).toList == [116, 114, 117, 101]) = false := by rw [hw]; decide +kernel
  have f_false : ((wordAt s i).toList == [102, 97, 108, 115, 101]) = true := by rw [hw]; decide +kernel
  have HX := Lib.hid (fun W => rliteral_any 1 false 0 eS (wordAtEnd s i) W)
  clear hw
  generalize markAt s i ⟨#[40]⟩ = m at *
  generalize wordAt s i = x at *
  generalize wordAtEnd s i = y at *
  generalize blanks s i = q at *
  go_enter Tryz.func88, Tryz.ntmps88
  rcases hor with ⟨hl, hb34⟩ | hl
  all_goals
    go_wp2_with (first
      | (go_at_call 30; (with_reducible refine (HBL.out _).mono ?_); rintro e w' ⟨rfl, rfl⟩)
      | (go_at_call 103; (with_reducible refine (HDG.out _).mono ?_); rintro e w' ⟨rfl, rfl⟩)
      | (go_at_call 66; (with_reducible refine (HMK.out _).mono ?_); rintro e w' ⟨rfl, rfl⟩)
      | (go_at_call 58; (with_reducible refine (HWD.out _).mono ?_); rintro e w' ⟨rfl, rfl⟩))
    refine (HX.out _).mono ?_
    rintro e1 w2 hx
    obtain ⟨T, vi, vk, va, p, c, rfl, hrep, hk1, ha⟩ := rsays_at hx
    obtain ⟨a1, c1, a2, c2, a3, c3, rfl, rfl, rfl⟩ := xrep_shape hrep
    have HT := Lib.hid (hB.out.told hrep hk1 ha)
    have HB3 := Lib.hid (hB.out.go hk1)
    have gb := cell_blk HB3.out.box
    have gf := frozen_blk HB3.out.box
    clear hx hrep hk1 ha
    go_wp2_with fail
    refine abs_post (F := fun W => ToldR (.ok (litT (boolV false)) y) w.heap.size (T) (.slice a1 T.lit.its.length c1) (.slice a2 T.lit.ks.length c2) (.slice a3 T.args.length c3) (p) (c) w W) (HT.out) (fun W hW => ?_)
    have cr := cell_blk hW.blk
    exact bodyPost_ret (v := .agg ((T : XT).elf (.slice a1 T.lit.its.length c1) (.slice a2 T.lit.ks.length c2) (.slice a3 T.args.length c3) (p) (c))) (by simp [results, Tryz.results88, go_sem, cr]) rfl (at_rsays rfl hW)
set_option maxRecDepth 20000 in
set_option maxHeartbeats 4000000 in
theorem rone_null (h0 : 0 ≤ i) (h1 : i ≤ s.size) (hs : s.size ≤ 4000) (hd : digitAt s (blanks s i) = false) (hq : isAt s (blanks s i) 34 = false) (hm : markAt s i ⟨#[40]⟩ < 0) (hw : wordAt s i = nullS) :
    Calls Tryz.prog 88 #[.string s, .int .i64 i] w (RSays (.ok (litT VT.zero) (wordAtEnd s i)) w) := by
  have hB := Lib.hid (boxr_new w)
  have HBL := Lib.hid (fun W => blanks_any s i W h0 (by omega))
  have hq0 := blanks_ge s i
  have hq1 := blanks_le h0 h1
  have hbt := bt_at s (blanks s i)
  have hbr := bt_range s (blanks s i)
  have HDG := Lib.hid (fun W => digit8_any s (blanks s i) W (by omega))
  have HMK := Lib.hid (fun W => rmark_any s ⟨#[40]⟩ i W h0 h1 (by omega) (by decide))
  have HWD := Lib.hid (fun W => word_any s i W h0 (by omega))
  rw [hd] at HDG
  have hor := quote_or hq
  clear hq hd
  have f_true : ((wordAt s i).toList == [116, 114, 117, 101]) = false := by rw [hw]; decide +kernel
  have f_false : ((wordAt s i).toList == [102, 97, 108, 115, 101]) = false := by rw [hw]; decide +kernel
  have f_null : ((wordAt s i).toList == [110, 117, 108, 108]) = true := by rw [hw]; decide +kernel
  have HX := Lib.hid (fun W => rliteral_any 0 false 0 eS (wordAtEnd s i) W)
  clear hw
  generalize markAt s i ⟨#[40]⟩ = m at *
  generalize wordAt s i = x at *
  generalize wordAtEnd s i = y at *
  generalize blanks s i = q at *
  go_enter Tryz.func88, Tryz.ntmps88
  rcases hor with ⟨hl, hb34⟩ | hl
  all_goals
    go_wp2_with (first
      | (go_at_call 30; (with_reducible refine (HBL.out _).mono ?_); rintro e w' ⟨rfl, rfl⟩)
      | (go_at_call 103; (with_reducible refine (HDG.out _).mono ?_); rintro e w' ⟨rfl, rfl⟩)
      | (go_at_call 66; (with_reducible refine (HMK.out _).mono ?_); rintro e w' ⟨rfl, rfl⟩)
      | (go_at_call 58; (with_reducible refine (HWD.out _).mono ?_); rintro e w' ⟨rfl, rfl⟩))
    refine (HX.out _).mono ?_
    rintro e1 w2 hx
    obtain ⟨T, vi, vk, va, p, c, rfl, hrep, hk1, ha⟩ := rsays_at hx
    obtain ⟨a1, c1, a2, c2, a3, c3, rfl, rfl, rfl⟩ := xrep_shape hrep
    have HT := Lib.hid (hB.out.told hrep hk1 ha)
    have HB3 := Lib.hid (hB.out.go hk1)
    have gb := cell_blk HB3.out.box
    have gf := frozen_blk HB3.out.box
    clear hx hrep hk1 ha
    go_wp2_with fail
    refine abs_post (F := fun W => ToldR (.ok (litT VT.zero) y) w.heap.size (T) (.slice a1 T.lit.its.length c1) (.slice a2 T.lit.ks.length c2) (.slice a3 T.args.length c3) (p) (c) w W) (HT.out) (fun W hW => ?_)
    have cr := cell_blk hW.blk
    exact bodyPost_ret (v := .agg ((T : XT).elf (.slice a1 T.lit.its.length c1) (.slice a2 T.lit.ks.length c2) (.slice a3 T.args.length c3) (p) (c))) (by simp [results, Tryz.results88, go_sem, cr]) rfl (at_rsays rfl hW)
set_option maxRecDepth 20000 in
set_option maxHeartbeats 4000000 in
theorem rone_this (h0 : 0 ≤ i) (h1 : i ≤ s.size) (hs : s.size ≤ 4000) (hd : digitAt s (blanks s i) = false) (hq : isAt s (blanks s i) 34 = false) (hm : markAt s i ⟨#[40]⟩ < 0) (hw : wordAt s i = thisS) :
    Calls Tryz.prog 88 #[.string s, .int .i64 i] w (RSays (.ok (.mk thisS eS VT.zero []) (wordAtEnd s i)) w) := by
  have hB := Lib.hid (boxr_new w)
  have HBL := Lib.hid (fun W => blanks_any s i W h0 (by omega))
  have hq0 := blanks_ge s i
  have hq1 := blanks_le h0 h1
  have hbt := bt_at s (blanks s i)
  have hbr := bt_range s (blanks s i)
  have HDG := Lib.hid (fun W => digit8_any s (blanks s i) W (by omega))
  have HMK := Lib.hid (fun W => rmark_any s ⟨#[40]⟩ i W h0 h1 (by omega) (by decide))
  have HWD := Lib.hid (fun W => word_any s i W h0 (by omega))
  rw [hd] at HDG
  have hor := quote_or hq
  clear hq hd
  have f_true : ((wordAt s i).toList == [116, 114, 117, 101]) = false := by rw [hw]; decide +kernel
  have f_false : ((wordAt s i).toList == [102, 97, 108, 115, 101]) = false := by rw [hw]; decide +kernel
  have f_null : ((wordAt s i).toList == [110, 117, 108, 108]) = false := by rw [hw]; decide +kernel
  have f_this : ((wordAt s i).toList == [116, 104, 105, 115]) = true := by rw [hw]; decide +kernel
  clear hw
  have HT := Lib.hid (toldr_new (r := .ok (.mk thisS eS VT.zero []) (wordAtEnd s i)) thisS eS 0 false 0 eS w (p := wordAtEnd s i) (c := 0) ⟨rfl, rfl, rfl⟩)
  generalize markAt s i ⟨#[40]⟩ = m at *
  generalize wordAt s i = x at *
  generalize wordAtEnd s i = y at *
  generalize blanks s i = q at *
  go_enter Tryz.func88, Tryz.ntmps88
  rcases hor with ⟨hl, hb34⟩ | hl
  all_goals
    go_wp2_with (first
      | (go_at_call 30; (with_reducible refine (HBL.out _).mono ?_); rintro e w' ⟨rfl, rfl⟩)
      | (go_at_call 103; (with_reducible refine (HDG.out _).mono ?_); rintro e w' ⟨rfl, rfl⟩)
      | (go_at_call 66; (with_reducible refine (HMK.out _).mono ?_); rintro e w' ⟨rfl, rfl⟩)
      | (go_at_call 58; (with_reducible refine (HWD.out _).mono ?_); rintro e w' ⟨rfl, rfl⟩))
    refine abs_post (F := fun W => ToldR (.ok (.mk thisS eS VT.zero []) y) w.heap.size (.mk thisS eS VT.zero []) (.slice none 0 0) (.slice none 0 0) (.slice none 0 0) (y) (0) w W) (HT.out) (fun W hW => ?_)
    have cr := cell_blk hW.blk
    exact bodyPost_ret (v := .agg ((.mk thisS eS VT.zero [] : XT).elf (.slice none 0 0) (.slice none 0 0) (.slice none 0 0) (y) (0))) (by simp [results, Tryz.results88, go_sem, cr]) rfl (at_rsays rfl hW)
set_option maxRecDepth 20000 in
set_option maxHeartbeats 4000000 in
theorem rone_call (h0 : 0 ≤ i) (h1 : i ≤ s.size) (hs : s.size ≤ 4000) (hd : digitAt s (blanks s i) = false) (hq : isAt s (blanks s i) 34 = false) (hm : markAt s i ⟨#[40]⟩ < 0) (hz : wordAt s i ≠ trueS ∧ wordAt s i ≠ falseS ∧ wordAt s i ≠ nullS ∧ wordAt s i ≠ thisS) (r : Res) (ha : 0 < argsN (wordAt s i)) (HC : ∀ W, Calls Tryz.prog 122 #[.string s, .string (wordAt s i), .int .i64 (wordAtEnd s i)] W (RSays r W)) :
    Calls Tryz.prog 88 #[.string s, .int .i64 i] w (RSays (r) w) := by
  have hB := Lib.hid (boxr_new w)
  have HBL := Lib.hid (fun W => blanks_any s i W h0 (by omega))
  have hq0 := blanks_ge s i
  have hq1 := blanks_le h0 h1
  have hbt := bt_at s (blanks s i)
  have hbr := bt_range s (blanks s i)
  have HDG := Lib.hid (fun W => digit8_any s (blanks s i) W (by omega))
  have HMK := Lib.hid (fun W => rmark_any s ⟨#[40]⟩ i W h0 h1 (by omega) (by decide))
  have HWD := Lib.hid (fun W => word_any s i W h0 (by omega))
  rw [hd] at HDG
  have hor := quote_or hq
  clear hq hd
  have f_true := tl_ne (l := [116, 114, 117, 101]) hz.1
  have f_false := tl_ne (l := [102, 97, 108, 115, 101]) hz.2.1
  have f_null := tl_ne (l := [110, 117, 108, 108]) hz.2.2.1
  have f_this := tl_ne (l := [116, 104, 105, 115]) hz.2.2.2
  have HAR := Lib.hid (fun W => rargs_any (wordAt s i) W)
  have HRS := Lib.hid (fun W => rreserved_any (wordAt s i) W)
  have hgt : decide ((argsN (wordAt s i) : Int) > 0) = true := by simpa using ha
  have hgt2 : decide ((0 : Int) < (argsN (wordAt s i) : Int)) = true := by simpa using ha
  have HX := Lib.hid HC
  clear HC hz
  generalize markAt s i ⟨#[40]⟩ = m at *
  generalize wordAt s i = x at *
  generalize wordAtEnd s i = y at *
  generalize blanks s i = q at *
  go_enter Tryz.func88, Tryz.ntmps88
  rcases hor with ⟨hl, hb34⟩ | hl
  all_goals
    go_wp2_with (first
      | (go_at_call 30; (with_reducible refine (HBL.out _).mono ?_); rintro e w' ⟨rfl, rfl⟩)
      | (go_at_call 103; (with_reducible refine (HDG.out _).mono ?_); rintro e w' ⟨rfl, rfl⟩)
      | (go_at_call 66; (with_reducible refine (HMK.out _).mono ?_); rintro e w' ⟨rfl, rfl⟩)
      | (go_at_call 58; (with_reducible refine (HWD.out _).mono ?_); rintro e w' ⟨rfl, rfl⟩)
      | (go_at_call 55; (with_reducible refine (HAR.out _).mono ?_); rintro e w' ⟨rfl, rfl⟩))
    refine (HX.out _).mono ?_
    rintro e1 w2 hx
    obtain ⟨T, vi, vk, va, p, c, rfl, hrep, hk1, ha⟩ := rsays_at hx
    obtain ⟨a1, c1, a2, c2, a3, c3, rfl, rfl, rfl⟩ := xrep_shape hrep
    have HT := Lib.hid (hB.out.told hrep hk1 ha)
    have HB3 := Lib.hid (hB.out.go hk1)
    have gb := cell_blk HB3.out.box
    have gf := frozen_blk HB3.out.box
    clear hx hrep hk1 ha
    go_wp2_with fail
    refine abs_post (F := fun W => ToldR (r) w.heap.size (T) (.slice a1 T.lit.its.length c1) (.slice a2 T.lit.ks.length c2) (.slice a3 T.args.length c3) (p) (c) w W) (HT.out) (fun W hW => ?_)
    have cr := cell_blk hW.blk
    exact bodyPost_ret (v := .agg ((T : XT).elf (.slice a1 T.lit.its.length c1) (.slice a2 T.lit.ks.length c2) (.slice a3 T.args.length c3) (p) (c))) (by simp [results, Tryz.results88, go_sem, cr]) rfl (at_rsays rfl hW)
set_option maxRecDepth 20000 in
set_option maxHeartbeats 4000000 in
theorem rone_bad (h0 : 0 ≤ i) (h1 : i ≤ s.size) (hs : s.size ≤ 4000) (hd : digitAt s (blanks s i) = false) (hq : isAt s (blanks s i) 34 = false) (hm : markAt s i ⟨#[40]⟩ < 0) (hz : wordAt s i ≠ trueS ∧ wordAt s i ≠ falseS ∧ wordAt s i ≠ nullS ∧ wordAt s i ≠ thisS) (ha : argsN (wordAt s i) = 0) (hb : wordAt s i = eS ∨ (wordAt s i ≠ eS ∧ resB (wordAt s i) = true)) :
    Calls Tryz.prog 88 #[.string s, .int .i64 i] w (RSays (.err (blanks s i) 1) w) := by
  have hB := Lib.hid (boxr_new w)
  have HBL := Lib.hid (fun W => blanks_any s i W h0 (by omega))
  have hq0 := blanks_ge s i
  have hq1 := blanks_le h0 h1
  have hbt := bt_at s (blanks s i)
  have hbr := bt_range s (blanks s i)
  have HDG := Lib.hid (fun W => digit8_any s (blanks s i) W (by omega))
  have HMK := Lib.hid (fun W => rmark_any s ⟨#[40]⟩ i W h0 h1 (by omega) (by decide))
  have HWD := Lib.hid (fun W => word_any s i W h0 (by omega))
  rw [hd] at HDG
  have hor := quote_or hq
  clear hq hd
  have f_true := tl_ne (l := [116, 114, 117, 101]) hz.1
  have f_false := tl_ne (l := [102, 97, 108, 115, 101]) hz.2.1
  have f_null := tl_ne (l := [110, 117, 108, 108]) hz.2.2.1
  have f_this := tl_ne (l := [116, 104, 105, 115]) hz.2.2.2
  have HAR := Lib.hid (fun W => rargs_any (wordAt s i) W)
  have HRS := Lib.hid (fun W => rreserved_any (wordAt s i) W)
  clear HAR
  have HAR : Hid (∀ W, Calls Tryz.prog 55 #[.string (wordAt s i)] W fun e w' => e = .returned (.int .i64 0) ∧ W = w') := Lib.hid (fun W => by have h := rargs_any (wordAt s i) W; rw [ha] at h; exact h)
  have HX := Lib.hid (fun W => rwrong_any (blanks s i) 1 W)
  have hb2 : ((wordAt s i).toList.isEmpty = true) ∨ ((wordAt s i).toList.isEmpty = false ∧ resB (wordAt s i) = true) := by
    rcases hb with h | h
    · left; rw [h]; rw [toList_nil rfl]; rfl
    · exact .inr ⟨wo_nil h.1, h.2⟩
  clear hz ha hb
  generalize markAt s i ⟨#[40]⟩ = m at *
  generalize wordAt s i = x at *
  generalize wordAtEnd s i = y at *
  generalize blanks s i = q at *
  rcases hb2 with hb2 | ⟨hb2, hb3⟩
  all_goals
    try rw [hb3] at HRS
    go_enter Tryz.func88, Tryz.ntmps88
    rcases hor with ⟨hl, hb34⟩ | hl
    all_goals
      go_wp2_with (first
        | (go_at_call 30; (with_reducible refine (HBL.out _).mono ?_); rintro e w' ⟨rfl, rfl⟩)
        | (go_at_call 103; (with_reducible refine (HDG.out _).mono ?_); rintro e w' ⟨rfl, rfl⟩)
        | (go_at_call 66; (with_reducible refine (HMK.out _).mono ?_); rintro e w' ⟨rfl, rfl⟩)
        | (go_at_call 58; (with_reducible refine (HWD.out _).mono ?_); rintro e w' ⟨rfl, rfl⟩)
        | (go_at_call 55; (with_reducible refine (HAR.out _).mono ?_); rintro e w' ⟨rfl, rfl⟩)
        | (go_at_call 59; (with_reducible refine (HRS.out _).mono ?_); rintro e w' ⟨rfl, rfl⟩))
      refine (HX.out _).mono ?_
      rintro e1 w2 hx
      obtain ⟨T, vi, vk, va, p, c, rfl, hrep, hk1, ha⟩ := rsays_at hx
      obtain ⟨a1, c1, a2, c2, a3, c3, rfl, rfl, rfl⟩ := xrep_shape hrep
      have HT := Lib.hid (hB.out.told hrep hk1 ha)
      have HB3 := Lib.hid (hB.out.go hk1)
      have gb := cell_blk HB3.out.box
      have gf := frozen_blk HB3.out.box
      clear hx hrep hk1 ha
      go_wp2_with fail
      refine abs_post (F := fun W => ToldR (.err q 1) w.heap.size (T) (.slice a1 T.lit.its.length c1) (.slice a2 T.lit.ks.length c2) (.slice a3 T.args.length c3) (p) (c) w W) (HT.out) (fun W hW => ?_)
      have cr := cell_blk hW.blk
      exact bodyPost_ret (v := .agg ((T : XT).elf (.slice a1 T.lit.its.length c1) (.slice a2 T.lit.ks.length c2) (.slice a3 T.args.length c3) (p) (c))) (by simp [results, Tryz.results88, go_sem, cr]) rfl (at_rsays rfl hW)
set_option maxRecDepth 20000 in
set_option maxHeartbeats 4000000 in
theorem rone_var (h0 : 0 ≤ i) (h1 : i ≤ s.size) (hs : s.size ≤ 4000) (hd : digitAt s (blanks s i) = false) (hq : isAt s (blanks s i) 34 = false) (hm : markAt s i ⟨#[40]⟩ < 0) (hz : wordAt s i ≠ trueS ∧ wordAt s i ≠ falseS ∧ wordAt s i ≠ nullS ∧ wordAt s i ≠ thisS) (ha : argsN (wordAt s i) = 0) (hw : wordAt s i ≠ eS) (hb : resB (wordAt s i) = false) :
    Calls Tryz.prog 88 #[.string s, .int .i64 i] w (RSays (.ok (.mk varS (wordAt s i) VT.zero []) (wordAtEnd s i)) w) := by
  have hB := Lib.hid (boxr_new w)
  have HBL := Lib.hid (fun W => blanks_any s i W h0 (by omega))
  have hq0 := blanks_ge s i
  have hq1 := blanks_le h0 h1
  have hbt := bt_at s (blanks s i)
  have hbr := bt_range s (blanks s i)
  have HDG := Lib.hid (fun W => digit8_any s (blanks s i) W (by omega))
  have HMK := Lib.hid (fun W => rmark_any s ⟨#[40]⟩ i W h0 h1 (by omega) (by decide))
  have HWD := Lib.hid (fun W => word_any s i W h0 (by omega))
  rw [hd] at HDG
  have hor := quote_or hq
  clear hq hd
  have f_true := tl_ne (l := [116, 114, 117, 101]) hz.1
  have f_false := tl_ne (l := [102, 97, 108, 115, 101]) hz.2.1
  have f_null := tl_ne (l := [110, 117, 108, 108]) hz.2.2.1
  have f_this := tl_ne (l := [116, 104, 105, 115]) hz.2.2.2
  have HAR := Lib.hid (fun W => rargs_any (wordAt s i) W)
  have HRS := Lib.hid (fun W => rreserved_any (wordAt s i) W)
  clear HAR
  have HAR : Hid (∀ W, Calls Tryz.prog 55 #[.string (wordAt s i)] W fun e w' => e = .returned (.int .i64 0) ∧ W = w') := Lib.hid (fun W => by have h := rargs_any (wordAt s i) W; rw [ha] at h; exact h)
  have hne := wo_nil hw
  rw [hb] at HRS
  have HT := Lib.hid (toldr_new (r := .ok (.mk varS (wordAt s i) VT.zero []) (wordAtEnd s i)) varS (wordAt s i) 0 false 0 eS w (p := wordAtEnd s i) (c := 0) ⟨rfl, rfl, rfl⟩)
  clear hz ha hb hw
  generalize markAt s i ⟨#[40]⟩ = m at *
  generalize wordAt s i = x at *
  generalize wordAtEnd s i = y at *
  generalize blanks s i = q at *
  go_enter Tryz.func88, Tryz.ntmps88
  rcases hor with ⟨hl, hb34⟩ | hl
  all_goals
    go_wp2_with (first
      | (go_at_call 30; (with_reducible refine (HBL.out _).mono ?_); rintro e w' ⟨rfl, rfl⟩)
      | (go_at_call 103; (with_reducible refine (HDG.out _).mono ?_); rintro e w' ⟨rfl, rfl⟩)
      | (go_at_call 66; (with_reducible refine (HMK.out _).mono ?_); rintro e w' ⟨rfl, rfl⟩)
      | (go_at_call 58; (with_reducible refine (HWD.out _).mono ?_); rintro e w' ⟨rfl, rfl⟩)
      | (go_at_call 55; (with_reducible refine (HAR.out _).mono ?_); rintro e w' ⟨rfl, rfl⟩)
      | (go_at_call 59; (with_reducible refine (HRS.out _).mono ?_); rintro e w' ⟨rfl, rfl⟩))
    refine abs_post (F := fun W => ToldR (.ok (.mk varS x VT.zero []) y) w.heap.size (.mk varS x VT.zero []) (.slice none 0 0) (.slice none 0 0) (.slice none 0 0) (y) (0) w W) (HT.out) (fun W hW => ?_)
    have cr := cell_blk hW.blk
    exact bodyPost_ret (v := .agg ((.mk varS x VT.zero [] : XT).elf (.slice none 0 0) (.slice none 0 0) (.slice none 0 0) (y) (0))) (by simp [results, Tryz.results88, go_sem, cr]) rfl (at_rsays rfl hW)
end
end Go.Proofs.YtdlkdecigpaaaaaGreatDoor
