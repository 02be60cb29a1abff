/- ExprBrackets: the law's walk. -/
import Derived.Test.YtdlkdecigpaaaaaGreatDoorMp39
import Derived.Test.YtdlkdecigpaaaaaGreatDoorMpBL
namespace Go.Proofs.YtdlkdecigpaaaaaGreatDoor
set_option linter.unusedVariables false
set_option linter.unusedSimpArgs false
open Go.RowKit

theorem u8_rangeB {x : Int} (h : (Lit.int .u8 x).wf = true) : 0 ≤ x ∧ x ≤ 255 := by
  simp only [Lit.wf, Bool.and_eq_true, decide_eq_true_eq] at h
  have h1 : IntKind.u8.min = 0 := rfl
  have h2 : IntKind.u8.max = 255 := rfl
  omega
theorem three_held {g y z : Nat} {W W' : World} (h1 : g < W.heap.size) (h2 : y < W.heap.size) (h3 : z < W.heap.size) (h : Keeps [] W W') : (∀ o, W'.cell? ⟨g, o, none⟩ = W.cell? ⟨g, o, none⟩) ∧ (∀ o, W'.cell? ⟨y, o, none⟩ = W.cell? ⟨y, o, none⟩) ∧ (∀ o, W'.cell? ⟨z, o, none⟩ = W.cell? ⟨z, o, none⟩) := ⟨one_held h1 h, one_held h2 h, one_held h3 h⟩
/-- The sign of a number. -/
def opJ (m : Nat) : ByteArray := opsA.getD m eS
abbrev opsV : Array Value := #[.string orS, .string andS, .string ⟨#[61, 61]⟩, .string ⟨#[33, 61]⟩, .string ⟨#[60]⟩, .string ⟨#[60, 61]⟩, .string ⟨#[62]⟩, .string ⟨#[62, 61]⟩, .string ⟨#[43]⟩, .string ⟨#[45]⟩, .string ⟨#[42]⟩, .string ⟨#[47]⟩, .string ⟨#[37]⟩]
theorem op_cases {m : Nat} (h : m < 13) : m = 0 ∨ m = 1 ∨ m = 2 ∨ m = 3 ∨ m = 4 ∨ m = 5 ∨ m = 6 ∨ m = 7 ∨ m = 8 ∨ m = 9 ∨ m = 10 ∨ m = 11 ∨ m = 12 := by omega
theorem op_ix (m : Nat) (h : m < 13) : ∀ W : World, (Instr.index 73 (.agg opsV) (.int .u8 (m : Int))).run Tryz.prog W = .ok (.string (opJ m)) W := by
  intro W
  rcases op_cases h with rfl | rfl | rfl | rfl | rfl | rfl | rfl | rfl | rfl | rfl | rfl | rfl | rfl <;> kernel_rfl
theorem opJ_in (m : Nat) (h : m < 13) : opJ m ∈ opsA ∧ (opJ m).size ≤ 3 := by
  rcases op_cases h with rfl | rfl | rfl | rfl | rfl | rfl | rfl | rfl | rfl | rfl | rfl | rfl | rfl <;> exact ⟨by simp [opJ, opsA], by decide⟩
/-- A text whose tree was told, and no error. -/
theorem told_ok {s : ByteArray} {r : Res} (hr : Par s (.lev 0) 0 r) (hc : (parseR s r).2.2 = 0) : ∃ p : Int, r = .ok (parseR s r).1 p ∧ blanks s p = s.size ∧ XGood (parseR s r).1 ∧ (parseR s r).1.depth ≤ 32 := by
  have hg := told_good hr hc
  cases r with
  | err p c => exact absurd (show c = 0 from hc) (par_code hr)
  | ok T p =>
    have hp := par_pos hr (Int.le_refl _) (by omega)
    have hb := blanks_le (s := s) (i := p) hp.1.1 hp.1.2
    by_cases h1 : blanks s p < s.size
    · simp only [parseR] at hc; rw [if_pos h1] at hc; exact absurd (show (1 : Int) = 0 from hc) (by decide)
    · by_cases h2 : 32 < T.depth
      · simp only [parseR] at hc; rw [if_neg h1, if_pos h2] at hc; exact absurd (show (6 : Int) = 0 from hc) (by decide)
      · have e : parseR s (.ok T p) = (T, 0, 0) := by simp only [parseR]; rw [if_neg h1, if_neg h2]
        rw [e] at hg ⊢
        exact ⟨p, rfl, by omega, hg⟩
theorem whole_parse {u : ByteArray} {T : XT} (h : Par u (.lev 0) 0 (.ok T u.size)) : parseR u (.ok T u.size) = if 32 < T.depth then (XT.zero, 0, 6) else (T, 0, 0) := by
  simp only [parseR]
  rw [blanks_end, if_neg (Int.lt_irrefl _)]
theorem bin_depth (op : ByteArray) (A B : XT) : (binT op A B).depth = max A.depth B.depth + 1 := by
  rw [depth_args]
  show XT.deepL [A, B] + 1 = _
  rw [deepL_cons, deepL_cons]
  show max A.depth (max B.depth 0) + 1 = _
  omega
/-- Two trees of the document's and one of the program's, in blocks of their own. -/
structure BrW (A B Y : XT) (ea eb ey : Nat) (x1 x2 x3 z1 z2 z3 j1 j2 j3 : Value) (SA SB SY : Nat → Prop) (w W : World) : Prop where
  kp : Keeps [] w W
  blA : W.heap[ea]? = some (.cells (A.nine x1 x2 x3) 30 (0, 0))
  rpA : A.Rep W SA x1 x2 x3
  blB : W.heap[eb]? = some (.cells (B.nine z1 z2 z3) 30 (0, 0))
  rpB : B.Rep W SB z1 z2 z3
  blY : W.heap[ey]? = some (.cells (Y.nine j1 j2 j3) 52 (0, 0))
  rpY : Y.Rep W SY j1 j2 j3
theorem BrW.go {A B Y : XT} {ea eb ey : Nat} {x1 x2 x3 z1 z2 z3 j1 j2 j3 : Value} {SA SB SY : Nat → Prop} {w W W' : World} (h : BrW A B Y ea eb ey x1 x2 x3 z1 z2 z3 j1 j2 j3 SA SB SY w W) (k : Keeps [] W W') : BrW A B Y ea eb ey x1 x2 x3 z1 z2 z3 j1 j2 j3 SA SB SY w W' :=
  ⟨h.kp.trans k, k.same h.blA, h.rpA.keep (kc_keeps k fun _ _ => by simp), k.same h.blB, h.rpB.keep (kc_keeps k fun _ _ => by simp), k.same h.blY, h.rpY.keep (kc_keeps k fun _ _ => by simp)⟩
section
variable (s t : ByteArray) (n : Int) (w : World)
set_option maxRecDepth 20000 in
set_option maxHeartbeats 8000000 in
theorem brackets_walk (hv : VarOk w) (hs : s.size ≤ 140737488351232) (ht : t.size ≤ 140737488351232) (hn : (Lit.int .u8 n).wf = true) :
    Calls Tryz.prog 9 #[.string s, .string t, .int .u8 n] w fun e w' => e = .returned (.bool true) ∧ Below w.heap.size w w' := by
  have hn1 : 0 ≤ n ∧ n ≤ 255 := u8_rangeB hn
  obtain ⟨n0, n1⟩ := hn1
  have HA := Lib.hid (fun (W : World) (k : Keeps [] w W) => awake8_any W (hv.keeps k (by simp)))
  have HE := Lib.hid (fun (u : ByteArray) (r : Res) (h : u.size ≤ 2048) (hr : Par u (.lev 0) 0 r) (W : World) (k : Keeps [] w W) => eParse_any u W r h (hv.keeps k (by simp)) hr)
  obtain ⟨r1, hr1⟩ := par_any s 0 (Int.le_refl _) (by omega)
  obtain ⟨r2, hr2⟩ := par_any t 0 (Int.le_refl _) (by omega)
  have HR1 := Lib.hid hr1
  have HR2 := Lib.hid hr2
  obtain ⟨m, hm⟩ : ∃ m : Nat, n % 13 = m := ⟨(n % 13).toNat, by omega⟩
  have m1 : m < 13 := by omega
  clear hr1 hr2 hv hn
  go_enter Tryz.func9, Tryz.ntmps9
  go_wp2_with fail
  refine (HA.out _ (Keeps.refl _ _)).mono ?_
  rintro e1 w1 ⟨rfl, hk1⟩
  have HK1 : Hid (Keeps [] w w1) := Lib.hid hk1
  clear hk1
  by_cases h6 : s.size ≤ 600 ∧ t.size ≤ 600
  · obtain ⟨h6, h7⟩ := h6
    have HP1 := Lib.hid (fun W => rParse_any s W r1 (by omega) HR1.out)
    have HP2 := Lib.hid (fun W => rParse_any t W r2 (by omega) HR2.out)
    have HG1 := Lib.hid (fun hc => told_ok HR1.out hc)
    have HG2 := Lib.hid (fun hc => told_ok HR2.out hc)
    clear HA
    go_wp2_with fail
    refine (HP1.out _).mono ?_
    rintro e2 w2 ⟨vi, vk, va, rfl, hrep, hk2⟩
    generalize parseR s r1 = q1 at *
    obtain ⟨A, pl1, cd1⟩ := q1
    dsimp only at hrep
    obtain ⟨x1, y1, x2, y2, x3, y3, rfl, rfl, rfl⟩ := xrep_shape hrep
    have HK2 := Lib.hid (HK1.out.trans hk2)
    have HT2 := Lib.hid hrep
    clear hrep hk2 HP1
    dsimp only
    go_upto_region 4 with fail
    refine abs_world (F := fun W => Keeps [] w W ∧ W.heap[w2.heap.size]? = some (.cells (A.nine (.slice x1 A.lit.its.length y1) (.slice x2 A.lit.ks.length y2) (.slice x3 A.args.length y3)) 30 (0, 0)) ∧ A.Rep W (w1.heap.size ≤ ·) (.slice x1 A.lit.its.length y1) (.slice x2 A.lit.ks.length y2) (.slice x3 A.args.length y3))
      (by exact ⟨HK2.out.alloc _, new_blk _ _, HT2.out.keep (kc_alloc _)⟩) (fun W3 HW3 => ?_)
    have H3 := Lib.hid HW3
    clear HW3 HK2 HT2 HK1
    go_wp2_with fail
    refine (HP2.out _).mono ?_
    rintro e4 w4 ⟨ui, uk, ua, rfl, hrep, hk4⟩
    generalize parseR t r2 = q2 at *
    obtain ⟨B, pl2, cd2⟩ := q2
    dsimp only at hrep
    obtain ⟨z1, v1, z2, v2, z3, v3, rfl, rfl, rfl⟩ := xrep_shape hrep
    have HK4 := Lib.hid (And.intro (H3.out.1.trans hk4) (And.intro (hk4.same H3.out.2.1) (H3.out.2.2.keep (kc_keeps hk4 fun _ _ => by simp))))
    have HT4 := Lib.hid hrep
    clear hrep hk4 HP2 H3
    dsimp only
    go_upto_region 5 with fail
    refine abs_world (F := fun W => Keeps [] w W ∧ W.heap[w2.heap.size]? = some (.cells (A.nine (.slice x1 A.lit.its.length y1) (.slice x2 A.lit.ks.length y2) (.slice x3 A.args.length y3)) 30 (0, 0)) ∧ A.Rep W (w1.heap.size ≤ ·) (.slice x1 A.lit.its.length y1) (.slice x2 A.lit.ks.length y2) (.slice x3 A.args.length y3) ∧
        W.heap[w4.heap.size]? = some (.cells (B.nine (.slice z1 B.lit.its.length v1) (.slice z2 B.lit.ks.length v2) (.slice z3 B.args.length v3)) 30 (0, 0)) ∧ B.Rep W (W3.heap.size ≤ ·) (.slice z1 B.lit.its.length v1) (.slice z2 B.lit.ks.length v2) (.slice z3 B.args.length v3))
      (by exact ⟨HK4.out.1.alloc _, hk_alloc HK4.out.2.1 _, HK4.out.2.2.keep (kc_alloc _), new_blk _ _, HT4.out.keep (kc_alloc _)⟩) (fun W5 HW5 => ?_)
    have H5 := Lib.hid HW5
    clear HW5 HK4 HT4
    by_cases hc1 : cd1 = 0
    · subst hc1
      by_cases hc2 : cd2 = 0
      · subst hc2
        obtain ⟨p1, e1, b1, g1, d1⟩ := HG1.out rfl
        obtain ⟨p2, e2, b2, g2, d2⟩ := HG2.out rfl
        dsimp only at e1 e2 g1 g2 d1 d2
        have hp1 := HR1.out
        have hp2 := HR2.out
        rw [e1] at hp1
        rw [e2] at hp2
        obtain ⟨ho1, ho2⟩ := opJ_in m m1
        have IX := op_ix m m1
        have hX := br_two hp1 b1
        have hY := bi_par ho1 hp1 b1 hp2 b2
        have hXr := whole_parse hX
        rw [if_neg (by omega)] at hXr
        have hYr := whole_parse hY
        rw [bin_depth] at hYr
        have zX : ((⟨#[40, 40]⟩ : ByteArray) ++ s ++ (⟨#[41, 41]⟩ : ByteArray)).size ≤ 2048 := by rw [app_size, app_size]; show 2 + s.size + 2 ≤ 2048; omega
        have zY : (biS s (opJ m) t).size ≤ 2048 := by rw [biS_size]; omega
        have HX := Lib.hid (HE.out _ _ zX hX)
        have HY := Lib.hid (HE.out _ _ zY hY)
        rw [hXr] at HX
        rw [hYr] at HY
        have HLA := Lib.hid (And.intro g1.leafy (show A.depth ≤ 40 by omega))
        have HLY : Hid (XLeafy (binT (opJ m) A B) ∧ (binT (opJ m) A B).depth ≤ 40) := Lib.hid ⟨.mk rfl rfl (by simp [binT, XT.args]) (fun U h => by simp [binT, XT.args] at h; rcases h with rfl | rfl; exact g1.leafy; exact g2.leafy), by rw [bin_depth]; omega⟩
        have HGA := Lib.hid g1
        have HGB := Lib.hid g2
        have HD := Lib.hid (And.intro d1 d2)
        clear HE HG1 HG2 HR1 HR2 e1 e2 b1 b2 g1 g2 hp1 hp2 hX hY hXr hYr zX zY ho1 d1 d2
        unfold biS at HY
        generalize opJ m = op at *
        have s1 : ¬ 9223372036854775807 < 2 + s.size := by omega
        have s2 : ¬ 9223372036854775807 < 2 + s.size + 2 := by omega
        have s3 : ¬ 9223372036854775807 < 1 + s.size := by omega
        have s4 : ¬ 9223372036854775807 < 1 + s.size + 1 := by omega
        have s5 : ¬ 9223372036854775807 < 1 + s.size + 1 + op.size := by omega
        have s6 : ¬ 9223372036854775807 < 1 + s.size + 1 + op.size + 1 := by omega
        have s7 : ¬ 9223372036854775807 < 1 + s.size + 1 + op.size + 1 + t.size := by omega
        have s8 : ¬ 9223372036854775807 < 1 + s.size + 1 + op.size + 1 + t.size + 1 := by omega
        go_wp2_with fail
        refine (HX.out _ H5.out.1).mono ?_
        rintro e6 w6 ⟨vi, vk, va, rfl, hrep, hk6⟩
        dsimp only at hrep
        obtain ⟨n1, o1, n2, o2, n3, o3, rfl, rfl, rfl⟩ := xrep_shape hrep
        have HK6 := Lib.hid hk6
        have HT6 := Lib.hid hrep
        clear hrep hk6 HX s1 s2
        dsimp only
        go_upto_region 8 with fail
        refine abs_world (F := fun W => Keeps [] w W ∧ W.heap[w2.heap.size]? = some (.cells (A.nine (.slice x1 A.lit.its.length y1) (.slice x2 A.lit.ks.length y2) (.slice x3 A.args.length y3)) 30 (0, 0)) ∧ A.Rep W (w1.heap.size ≤ ·) (.slice x1 A.lit.its.length y1) (.slice x2 A.lit.ks.length y2) (.slice x3 A.args.length y3) ∧
            W.heap[w4.heap.size]? = some (.cells (B.nine (.slice z1 B.lit.its.length v1) (.slice z2 B.lit.ks.length v2) (.slice z3 B.args.length v3)) 30 (0, 0)) ∧ B.Rep W (W3.heap.size ≤ ·) (.slice z1 B.lit.its.length v1) (.slice z2 B.lit.ks.length v2) (.slice z3 B.args.length v3) ∧
            W.heap[w6.heap.size]? = some (.cells (A.nine (.slice n1 A.lit.its.length o1) (.slice n2 A.lit.ks.length o2) (.slice n3 A.args.length o3)) 52 (0, 0)) ∧ A.Rep W (W5.heap.size ≤ ·) (.slice n1 A.lit.its.length o1) (.slice n2 A.lit.ks.length o2) (.slice n3 A.args.length o3))
          (by exact ⟨(H5.out.1.trans HK6.out).alloc _, hk_alloc (HK6.out.same H5.out.2.1) _, H5.out.2.2.1.keep (kc_keeps (HK6.out.alloc _) fun _ _ => by simp), hk_alloc (HK6.out.same H5.out.2.2.2.1) _, H5.out.2.2.2.2.keep (kc_keeps (HK6.out.alloc _) fun _ _ => by simp), new_blk _ _, HT6.out.keep (kc_alloc _)⟩) (fun W7 HW7 => ?_)
        have H7 := Lib.hid HW7
        clear HW7 H5 HK6 HT6
        obtain ⟨TY, cdY, hq, hq1, hq2⟩ : ∃ (TY : XT) (cdY : Int), (if 32 < max A.depth B.depth + 1 then (XT.zero, (0 : Int), (6 : Int)) else (binT op A B, 0, 0)) = (TY, 0, cdY) ∧ (32 < max A.depth B.depth + 1 → cdY = 6) ∧ (¬ 32 < max A.depth B.depth + 1 → TY = binT op A B ∧ cdY = 0) := by
          by_cases h : 32 < max A.depth B.depth + 1
          · exact ⟨XT.zero, 6, by rw [if_pos h], fun _ => rfl, fun h2 => (h2 h).elim⟩
          · exact ⟨binT op A B, 0, by rw [if_neg h], fun h2 => (h h2).elim, fun _ => ⟨rfl, rfl⟩⟩
        rw [hq] at HY
        have HQ := Lib.hid (And.intro hq1 hq2)
        clear hq hq1 hq2
        go_wp2_with fail
        refine (HY.out _ H7.out.1).mono ?_
        rintro e8 w8 ⟨vi, vk, va, rfl, hrep, hk8⟩
        dsimp only at hrep
        obtain ⟨j1, l1, j2, l2, j3, l3, rfl, rfl, rfl⟩ := xrep_shape hrep
        have HK8 := Lib.hid hk8
        have HT8 := Lib.hid hrep
        clear hrep hk8 HY s3 s4 s5 s6 s7 s8
        dsimp only
        go_upto_region 10 with fail
        refine abs_world (F := fun W => BrW A B TY w2.heap.size w4.heap.size w8.heap.size (.slice x1 A.lit.its.length y1) (.slice x2 A.lit.ks.length y2) (.slice x3 A.args.length y3) (.slice z1 B.lit.its.length v1) (.slice z2 B.lit.ks.length v2) (.slice z3 B.args.length v3) (.slice j1 TY.lit.its.length l1) (.slice j2 TY.lit.ks.length l2) (.slice j3 TY.args.length l3) (w1.heap.size ≤ ·) (W3.heap.size ≤ ·) (W7.heap.size ≤ ·) w W ∧ W.heap[w6.heap.size]? = some (.cells (A.nine (.slice n1 A.lit.its.length o1) (.slice n2 A.lit.ks.length o2) (.slice n3 A.args.length o3)) 52 (0, 0)) ∧ A.Rep W (W5.heap.size ≤ ·) (.slice n1 A.lit.its.length o1) (.slice n2 A.lit.ks.length o2) (.slice n3 A.args.length o3))
          (by exact ⟨⟨(H7.out.1.trans HK8.out).alloc _, hk_alloc (HK8.out.same H7.out.2.1) _, H7.out.2.2.1.keep (kc_keeps (HK8.out.alloc _) fun _ _ => by simp), hk_alloc (HK8.out.same H7.out.2.2.2.1) _, H7.out.2.2.2.2.1.keep (kc_keeps (HK8.out.alloc _) fun _ _ => by simp), new_blk _ _, HT8.out.keep (kc_alloc _)⟩, hk_alloc (HK8.out.same H7.out.2.2.2.2.2.1) _, H7.out.2.2.2.2.2.2.keep (kc_keeps (HK8.out.alloc _) fun _ _ => by simp)⟩) (fun W9 HW9 => ?_)
        have H9 := Lib.hid HW9
        clear HW9 H7 HK8 HT8
        have gt := cell_blk H9.out.2.1
        have ge := cell_blk H9.out.1.blA
        have hlt1 := hk_lt H9.out.2.1
        have hle1 := hk_lt H9.out.1.blA
        go_region_held3 (fun W' => (∀ o, W'.cell? ⟨w6.heap.size, o, none⟩ = W9.cell? ⟨w6.heap.size, o, none⟩) ∧ (∀ o, W'.cell? ⟨w2.heap.size, o, none⟩ = W9.cell? ⟨w2.heap.size, o, none⟩))
          ((refine two_heldE hlt1 hle1 ?_; (repeat (first | with_reducible exact Keeps.refl _ _ | with_reducible exact (KC1.out) | with_reducible exact (KR1.out) | with_reducible refine Keeps.drew ?_)); done))
          (first
          | (go_at_call 27; refine (xref_any 40 A _ _ _ _ _ HLA.out.2 HLA.out.1 (H9.out.2.2.keep (by (repeat (first | with_reducible exact Kc.refl _ _ | with_reducible exact kc_drew))))).mono ?_; rintro e' wq1 hx; obtain ⟨vi, vk, va, rfl, hrep, hk⟩ := xref_at hx; obtain ⟨i1, k1, i2, k2, i3, k3, rfl, rfl, rfl⟩ := xrep_shape hrep; have KR1 : Hid (Keeps [] W9 wq1) := Lib.hid (Keeps.trans (by (repeat (first | with_reducible exact Keeps.refl _ _ | with_reducible refine Keeps.drew ?_))) hk); have HRR1 := Lib.hid hrep; clear hrep hk hx)
          | (go_at_call 26; refine (rsame_any 40 A A _ _ _ _ _ _ _ _ _ HLA.out.2 HLA.out.1 HLA.out.1 HRR1.out (H9.out.1.rpA.keep (kc_keeps KR1.out fun _ _ => by simp))).mono ?_; rintro e' wc1 hx; obtain ⟨rfl, hk⟩ := sm_at (c := true) hx ⟨fun _ => rfl, fun _ => rfl⟩; have KC1 : Hid (Keeps [] W9 wc1) := Lib.hid (KR1.out.trans hk); clear hk hx))
        all_goals
          refine ‹∀ (a : Act) (w : World), _ → _› _ _ ?_
          refine abs_world (F := fun W => BrW A B TY w2.heap.size w4.heap.size w8.heap.size (.slice x1 A.lit.its.length y1) (.slice x2 A.lit.ks.length y2) (.slice x3 A.args.length y3) (.slice z1 B.lit.its.length v1) (.slice z2 B.lit.ks.length v2) (.slice z3 B.args.length v3) (.slice j1 TY.lit.its.length l1) (.slice j2 TY.lit.ks.length l2) (.slice j3 TY.args.length l3) (w1.heap.size ≤ ·) (W3.heap.size ≤ ·) (W7.heap.size ≤ ·) w W) (by exact H9.out.1.go KC1.out) (fun W10 HW10 => ?_)
          have H10 := Lib.hid HW10
          clear HW10 H9 gt ge hlt1 hle1 KR1 KC1 HRR1
          have gA := cell_blk H10.out.blA
          have HDA := Lib.hid (rdepth_any 1000000 A _ _ _ _ W10 (by have := HD.out; omega) (Nat.le_refl _) HGA.out H10.out.rpA)
          obtain ⟨d1, d2⟩ := HD.out
          go_upto_region 12 with fail
          by_cases hA : A.depth = 32
          · have eA : ((A.depth : Int) == 32) = true := by rw [hA]; rfl
            obtain rfl : cdY = 6 := HQ.out.1 (by omega)
            clear d1 d2 hA
            go_wp2_with (go_at_call 31; refine HDA.out.mono ?_; rintro e' w11 ⟨rfl, hk⟩; have HK := Lib.hid (H10.out.kp.trans hk); clear hk)
            go_ret
            exact ⟨rfl, HK.out.nil_below⟩
          · have eA : ((A.depth : Int) == 32) = false := by rw [beq_eq_false_iff_ne]; omega
            have HDB := Lib.hid (fun (W : World) (k : Keeps [] W10 W) => rdepth_any 1000000 B _ _ _ _ W (by have := HD.out; omega) (Nat.le_refl _) HGB.out (H10.out.go k).rpB)
            by_cases hB : B.depth = 32
            · have eB : ((B.depth : Int) == 32) = true := by rw [hB]; rfl
              obtain rfl : cdY = 6 := HQ.out.1 (by omega)
              clear d1 d2 hA hB
              go_wp2_with fail
              refine HDA.out.mono ?_
              rintro e' w11 ⟨rfl, hk⟩
              have HK := Lib.hid (And.intro (H10.out.kp.trans hk) hk)
              have gB := cell_blk (H10.out.go hk).blB
              clear hk
              go_wp2_with fail
              refine (HDB.out _ HK.out.2).mono ?_
              rintro e' w12 ⟨rfl, hk⟩
              have HK2 := Lib.hid (HK.out.1.trans hk)
              clear hk
              go_wp2_with fail
              go_ret
              exact ⟨rfl, HK2.out.nil_below⟩
            · have eB : ((B.depth : Int) == 32) = false := by rw [beq_eq_false_iff_ne]; omega
              obtain ⟨rfl, rfl⟩ := HQ.out.2 (by omega)
              clear d1 d2 hA hB
              go_wp2_with fail
              refine HDA.out.mono ?_
              rintro e' w11 ⟨rfl, hk⟩
              have HK := Lib.hid (And.intro (H10.out.go hk) hk)
              have gB := cell_blk (H10.out.go hk).blB
              clear hk
              go_wp2_with fail
              refine (HDB.out _ HK.out.2).mono ?_
              rintro e' W14 ⟨rfl, hk⟩
              have H14 := Lib.hid (HK.out.1.go hk)
              clear hk HK H10 gA gB HDA HDB
              go_upto_region 14 with fail
              have gA := cell_blk H14.out.blA
              have gB := cell_blk H14.out.blB
              have gY := cell_blk H14.out.blY
              have hA1 := hk_lt H14.out.blA
              have hB1 := hk_lt H14.out.blB
              have hY1 := hk_lt H14.out.blY
              go_region_held3 (fun W' => (∀ o, W'.cell? ⟨w2.heap.size, o, none⟩ = W14.cell? ⟨w2.heap.size, o, none⟩) ∧ (∀ o, W'.cell? ⟨w4.heap.size, o, none⟩ = W14.cell? ⟨w4.heap.size, o, none⟩) ∧ (∀ o, W'.cell? ⟨w8.heap.size, o, none⟩ = W14.cell? ⟨w8.heap.size, o, none⟩))
                ((refine three_held hA1 hB1 hY1 ?_; (repeat (first | with_reducible exact Keeps.refl _ _ | with_reducible exact (KC2.out) | with_reducible exact (KR2.out) | with_reducible refine Keeps.drew ?_ | with_reducible refine Keeps.alloc ?_ _)); done))
                (first
                | (go_at_call 27; refine (xref_any 40 (binT op A B) _ _ _ _ _ HLY.out.2 HLY.out.1 (H14.out.rpY.keep (by (repeat (first | with_reducible exact Kc.refl _ _ | with_reducible refine Kc.trans ?_ (kc_alloc _) | with_reducible refine Kc.trans ?_ kc_drew))))).mono ?_; rintro e' wq2 hx; obtain ⟨vi, vk, va, rfl, hrep, hk⟩ := xref_at hx; obtain ⟨i1, k1, i2, k2, i3, k3, rfl, rfl, rfl⟩ := xrep_shape hrep; (try (first | (have hRW := hk.same (new_blk W14 _); have HRW := Lib.hid hRW; clear hRW) | (have hRW := hk.same (hk_drew (new_blk W14 _)); have HRW := Lib.hid hRW; clear hRW) | (have hRW := hk.same (new_blk W14.drew _); have HRW := Lib.hid hRW; clear hRW))); have KR2 : Hid (Keeps [] W14 wq2) := Lib.hid (Keeps.trans (by (repeat (first | with_reducible exact Keeps.refl _ _ | with_reducible refine Keeps.drew ?_ | with_reducible refine Keeps.alloc ?_ _))) hk); have HRR2 := Lib.hid hrep; clear hrep hk hx)
                | (go_at_call 26; first
                  | (have hRW2 := HRW.out; refine (rsame_any 40 (binT op A B) (binT op A B) _ _ _ (.slice none 0 0) (.slice none 0 0) (.slice (some ⟨W14.heap.size, 0, none⟩) 2 2) _ (fun _ => True) _ HLY.out.2 HLY.out.1 HLY.out.1 (HRR2.out.keep (by (repeat (first | with_reducible exact Kc.refl _ _ | with_reducible exact kc_drew)))) (bin_rep op eS (by exact hRW2) trivial ((H14.out.rpA.keep (kc_keeps KR2.out fun _ _ => by simp)).mono fun _ _ => trivial) ((H14.out.rpB.keep (kc_keeps KR2.out fun _ _ => by simp)).mono fun _ _ => trivial))).mono ?_; rintro e' wc2 hx; obtain ⟨rfl, hk⟩ := sm_at (c := true) hx ⟨fun _ => rfl, fun _ => rfl⟩; have KC2 : Hid (Keeps [] W14 wc2) := Lib.hid (KR2.out.trans hk); clear hk hx)
                  | (refine (rsame_any 40 (binT op A B) (binT op A B) _ _ _ (.slice none 0 0) (.slice none 0 0) (.slice (some ⟨wq2.heap.size, 0, none⟩) 2 2) _ (fun _ => True) _ HLY.out.2 HLY.out.1 HLY.out.1 (HRR2.out.keep (by (repeat (first | with_reducible exact Kc.refl _ _ | with_reducible refine Kc.trans ?_ (kc_alloc _) | with_reducible refine Kc.trans ?_ kc_drew)))) (bin_rep op eS (by exact new_blk wq2 (.cells (A.nine (.slice x1 A.lit.its.length y1) (.slice x2 A.lit.ks.length y2) (.slice x3 A.args.length y3) ++ B.nine (.slice z1 B.lit.its.length v1) (.slice z2 B.lit.ks.length v2) (.slice z3 B.args.length v3)) 30)) trivial (((H14.out.rpA.keep (kc_keeps KR2.out fun _ _ => by simp)).keep (by (repeat (first | with_reducible exact Kc.refl _ _ | with_reducible refine Kc.trans ?_ (kc_alloc _) | with_reducible refine Kc.trans ?_ kc_drew)))).mono fun _ _ => trivial) (((H14.out.rpB.keep (kc_keeps KR2.out fun _ _ => by simp)).keep (by (repeat (first | with_reducible exact Kc.refl _ _ | with_reducible refine Kc.trans ?_ (kc_alloc _) | with_reducible refine Kc.trans ?_ kc_drew)))).mono fun _ _ => trivial))).mono ?_; rintro e' wc2 hx; obtain ⟨rfl, hk⟩ := sm_at (c := true) hx ⟨fun _ => rfl, fun _ => rfl⟩; have KC2 : Hid (Keeps [] W14 wc2) := Lib.hid (Keeps.trans (by (repeat (first | with_reducible exact (KR2.out) | with_reducible refine Keeps.drew ?_ | with_reducible refine Keeps.alloc ?_ _))) hk); clear hk hx)))
              all_goals
                refine ‹∀ (a : Act) (w : World), _ → _› _ _ ?_
                go_wp2_with fail
                go_ret
                exact ⟨rfl, (H14.out.kp.trans KC2.out).nil_below⟩
      · have e2 : (cd2 != 0) = true := by simpa using hc2
        go_wp2_with fail
        go_ret
        exact ⟨rfl, H5.out.1.nil_below⟩
    · have e1 : (cd1 != 0) = true := by simpa using hc1
      go_wp2_with fail
      go_ret
      exact ⟨rfl, H5.out.1.nil_below⟩
  · by_cases h8 : s.size ≤ 600
    · have h9 : ¬ t.size ≤ 600 := fun h => h6 ⟨h8, h⟩
      clear h6
      go_wp2_with fail
      refine (HA.out _ HK1.out).mono ?_
      rintro e2 w2 ⟨rfl, hk2⟩
      have HK2 := Lib.hid (HK1.out.trans hk2)
      clear hk2
      go_wp2_with fail
      go_ret
      exact ⟨rfl, HK2.out.nil_below⟩
    · clear h6
      go_wp2_with fail
      refine (HA.out _ HK1.out).mono ?_
      rintro e2 w2 ⟨rfl, hk2⟩
      have HK2 := Lib.hid (HK1.out.trans hk2)
      clear hk2
      go_wp2_with fail
      go_ret
      exact ⟨rfl, HK2.out.nil_below⟩
end
end Go.Proofs.YtdlkdecigpaaaaaGreatDoor
