/- SortsGrow: the law's walk. -/
import Derived.Test.YtdlkdecigpaaaaaGreatDoorMpGB
import Derived.Test.YtdlkdecigpaaaaaGreatDoorMp34
import Derived.Test.YtdlkdecigpaaaaaGreatDoorMpSG
import Derived.Test.YtdlkdecigpaaaaaGreatDoorMpTR
namespace Go.Proofs.YtdlkdecigpaaaaaGreatDoor
set_option linter.unusedVariables false
set_option linter.unusedSimpArgs false
open Go.RowKit

theorem par_ex (s : ByteArray) : ∃ r, Par s (.lev 0) 0 r := par_all s _ (.lev 0) 0 (Nat.le_refl _) (Int.le_refl _) (by omega) (by simp [goodG])
/-- What is known of a tree that was parsed. -/
theorem parse_good {s : ByteArray} {r : Res} (hr : Par s (.lev 0) 0 r) (hc : (parseR s r).2.2 = 0) : XGood (parseR s r).1 ∧ (parseR s r).1.depth ≤ 32 := by
  cases r with
  | err p c => exact absurd (show c = 0 from hc) (par_code hr)
  | ok T p =>
    simp only [parseR] at hc ⊢
    by_cases h1 : blanks s p < s.size
    · rw [if_pos h1] at hc; exact absurd (show (1 : Int) = 0 from hc) (by decide)
    · rw [if_neg h1] at hc ⊢
      by_cases h2 : 32 < T.depth
      · rw [if_pos h2] at hc; exact absurd (show (6 : Int) = 0 from hc) (by decide)
      · rw [if_neg h2]
        exact ⟨par_good hr (by simp [goodG]) (Int.le_refl _) (by omega), by show T.depth ≤ 32; omega⟩
theorem two_held0 {g y : Nat} {W W' : World} (h1 : g < W.heap.size) (h2 : y < W.heap.size) (h : Keeps [] W W') : (∀ o, W'.cell? ⟨g, o, none⟩ = W.cell? ⟨g, o, none⟩) ∧ (∀ o, W'.cell? ⟨y, o, none⟩ = W.cell? ⟨y, o, none⟩) := ⟨one_held h1 h, one_held h2 h⟩
theorem nat_sub (a b : Nat) : (a % 64) &&& ((a ||| b) % 64) = a % 64 := by
  apply Nat.eq_of_testBit_eq
  intro i
  rw [Nat.testBit_and, show (64 : Nat) = 2 ^ 6 from rfl, Nat.testBit_mod_two_pow, Nat.testBit_mod_two_pow, Nat.testBit_or]
  cases decide (i < 6) <;> cases a.testBit i <;> simp
theorem u8_or (x y : Int) (hx0 : 0 ≤ x) (hx1 : x ≤ 255) (hy0 : 0 ≤ y) (hy1 : y ≤ 255) : (0 ≤ bits BinOp.or IntKind.u8 x y ∧ bits BinOp.or IntKind.u8 x y ≤ 255) ∧ SubS (x % 64) (bits BinOp.or IntKind.u8 x y % 64) := by
  obtain ⟨a, rfl⟩ := Int.eq_ofNat_of_zero_le hx0
  obtain ⟨b, rfl⟩ := Int.eq_ofNat_of_zero_le hy0
  have ha : a < 2 ^ 8 := by omega
  have hb : b < 2 ^ 8 := by omega
  have hab : a ||| b < 2 ^ 8 := Nat.or_lt_two_pow ha hb
  have e : bits BinOp.or IntKind.u8 (a : Int) (b : Int) = ((a ||| b : Nat) : Int) := by
    show IntKind.u8.wrap ((BitVec.ofInt 8 (a : Int) ||| BitVec.ofInt 8 (b : Int)).toNat : Int) = _
    rw [BitVec.toNat_or, BitVec.ofInt_natCast, BitVec.ofInt_natCast, BitVec.toNat_ofNat, BitVec.toNat_ofNat, Nat.mod_eq_of_lt ha, Nat.mod_eq_of_lt hb]
    have h2 : a ||| b < 256 := hab
    generalize a ||| b = c at *
    show (c : Int) % 256 = c
    omega
  rw [e]
  refine ⟨⟨by omega, by have h2 : a ||| b < 256 := hab; omega⟩, ?_⟩
  have hr := sub_refl (a := (a : Int) % 64) (by omega) (by omega)
  have hp : ((a : Int) % 64) = ((a % 64 : Nat) : Int) := by omega
  have hq : (((a ||| b : Nat) : Int) % 64) = (((a ||| b) % 64 : Nat) : Int) := by omega
  unfold SubS at hr ⊢
  rw [bits_and] at hr ⊢
  rw [BitVec.and_self] at hr
  rw [show bvI ((a : Int) % 64) &&& bvI (((a ||| b : Nat) : Int) % 64) = bvI ((a : Int) % 64) from ?_]
  · exact hr
  · rw [hp, hq]
    show BitVec.ofInt 64 _ &&& BitVec.ofInt 64 _ = BitVec.ofInt 64 _
    rw [BitVec.ofInt_natCast, BitVec.ofInt_natCast]
    apply BitVec.eq_of_toNat_eq
    have h1 : a % 64 % 2 ^ 64 = a % 64 := Nat.mod_eq_of_lt (by omega)
    have h2 : (a ||| b) % 64 % 2 ^ 64 = (a ||| b) % 64 := Nat.mod_eq_of_lt (by omega)
    rw [BitVec.toNat_and, BitVec.toNat_ofNat, BitVec.toNat_ofNat, h1, h2]
    exact nat_sub a b
theorem env3_sub {b c b' c' a a' : Int} (h1 : SubS (b % 64) (b' % 64)) (h2 : SubS (c % 64) (c' % 64)) : ∀ q, SubS ((env3 a b c).sorts.getD q 0) ((env3 a' b' c').sorts.getD q 0) := by
  intro q
  match q with
  | 0 => exact h1
  | 1 => exact h2
  | q + 2 => exact (show SubS 0 0 from sub_refl (by decide) (by decide))
section
variable (s : ByteArray) (n0 n1 n2 m0 m1 m2 : Int) (w : World)
set_option maxRecDepth 20000 in
set_option maxHeartbeats 4000000 in
theorem grow_walk (hv : VarOk w) (hs : s.size ≤ 140737488351232) (a00 : 0 ≤ n0) (a01 : n0 ≤ 255) (a10 : 0 ≤ n1) (a11 : n1 ≤ 255) (a20 : 0 ≤ n2) (a21 : n2 ≤ 255) (b00 : 0 ≤ m0) (b01 : m0 ≤ 255) (b10 : 0 ≤ m1) (b11 : m1 ≤ 255) (b20 : 0 ≤ m2) (b21 : m2 ≤ 255) :
    Calls Tryz.prog 3 #[.string s, .agg #[.int .u8 n0, .int .u8 n1, .int .u8 n2], .agg #[.int .u8 m0, .int .u8 m1, .int .u8 m2]] w fun e w' => e = .returned (.bool true) ∧ Below w.heap.size w w' := by
  have HA := Lib.hid (fun (W : World) (k : Keeps [] w W) => awake9_any W (hv.keeps k (by simp)))
  obtain ⟨r, hr⟩ := par_ex s
  have HR := Lib.hid hr
  clear hr hv
  go_enter Tryz.func3, Tryz.ntmps3
  go_wp2_with fail
  refine (HA.out _ (((Keeps.refl _ _).alloc _).alloc _)).mono ?_
  rintro e1 w1 ⟨rfl, hk1⟩
  have HN := Lib.hid (hk1.same (hk_alloc (new_blk w (.cells #[.int .u8 n0, .int .u8 n1, .int .u8 n2] 22)) (.cells #[.int .u8 m0, .int .u8 m1, .int .u8 m2] 22)))
  have HM := Lib.hid (hk1.same (new_blk1 w (.cells #[.int .u8 n0, .int .u8 n1, .int .u8 n2] 22) (.cells #[.int .u8 m0, .int .u8 m1, .int .u8 m2] 22)))
  have HK1 : Hid (Keeps [] w w1) := Lib.hid ((((Keeps.refl _ _).alloc _).alloc _).trans hk1)
  clear hk1
  by_cases h6 : s.size ≤ 600
  · have HP := Lib.hid (fun W => rParse_any s W r (by omega) HR.out)
    go_wp2_with fail
    refine (HP.out _).mono ?_
    rintro e2 w2 ⟨vi, vk, va, rfl, hrep, hk2⟩
    have HG := Lib.hid (fun hc => parse_good HR.out hc)
    generalize parseR s r = q at *
    obtain ⟨T, pl, cd⟩ := q
    obtain ⟨x1, y1, x2, y2, x3, y3, rfl, rfl, rfl⟩ := xrep_shape hrep
    have HK2 := Lib.hid (HK1.out.trans hk2)
    have HN2 := Lib.hid (hk2.same HN.out)
    have HM2 := Lib.hid (hk2.same HM.out)
    have HT2 := Lib.hid hrep
    clear hrep hk2 HN HM HP
    by_cases hc : cd = 0
    · obtain ⟨hg, hd⟩ := HG.out hc
      have HGD := Lib.hid hg
      have hcd : cd = 0 := hc
      subst hcd
      clear HG hc hg
      go_upto_region 6 with fail
      refine abs_world (F := fun W => Keeps [] w W ∧ W.heap[w.heap.size]? = some (.cells #[.int .u8 n0, .int .u8 n1, .int .u8 n2] 22 (0, 0)) ∧ W.heap[w.heap.size + 1]? = some (.cells #[.int .u8 m0, .int .u8 m1, .int .u8 m2] 22 (0, 0)) ∧ W.heap[w2.heap.size]? = some (.cells (T.nine (.slice x1 T.lit.its.length y1) (.slice x2 T.lit.ks.length y2) (.slice x3 T.args.length y3)) 30 (0, 0)) ∧ T.Rep W (w1.heap.size ≤ ·) (.slice x1 T.lit.its.length y1) (.slice x2 T.lit.ks.length y2) (.slice x3 T.args.length y3))
        (by exact ⟨HK2.out.alloc _, hk_alloc HN2.out _, hk_alloc HM2.out _, new_blk _ _, HT2.out.keep (kc_alloc _)⟩) (fun W3 HW3 => ?_)
      have H3 := Lib.hid HW3
      clear HW3 HK2 HN2 HM2 HT2 HA HK1
      have gn := cell_blk H3.out.2.1
      have hln := hk_lt H3.out.2.1
      go_wp2_with fail
      refine (env_any n0 n1 n2 _ a00 a01 a10 a11 a20 a21).mono ?_
      rintro e4 w4 ⟨g1, g2, q, rfl, ⟨q0, q1, q2, q3, q4, q5, n6, n7, rfl⟩, he4, hk4⟩
      have HE4 := Lib.hid he4
      have HK4 := Lib.hid hk4
      clear he4 hk4 gn hln
      have gn := cell_blk (HK4.out.same H3.out.2.1)
      have gm := cell_blk (HK4.out.same H3.out.2.2.1)
      go_upto_region 7 with fail
      refine abs_world (F := fun W => Keeps [] w W ∧ W.heap[w.heap.size]? = some (.cells #[.int .u8 n0, .int .u8 n1, .int .u8 n2] 22 (0, 0)) ∧ W.heap[w.heap.size + 1]? = some (.cells #[.int .u8 m0, .int .u8 m1, .int .u8 m2] 22 (0, 0)) ∧ W.heap[w2.heap.size]? = some (.cells (T.nine (.slice x1 T.lit.its.length y1) (.slice x2 T.lit.ks.length y2) (.slice x3 T.args.length y3)) 30 (0, 0)) ∧ T.Rep W (w1.heap.size ≤ ·) (.slice x1 T.lit.its.length y1) (.slice x2 T.lit.ks.length y2) (.slice x3 T.args.length y3) ∧
          W.heap[w4.heap.size]? = some (.cells #[.int .i64 (n0 % 64), .slice (some ⟨g1, 0, none⟩) 2 2, .slice (some ⟨g2, 0, none⟩) 2 2] 36 (0, 0)) ∧ EnvAt (env3 n0 n1 n2) (.slice (some ⟨g1, 0, none⟩) 2 2) (.slice (some ⟨g2, 0, none⟩) 2 2) W (W3.heap.size ≤ ·))
        (by exact ⟨((H3.out.1.trans HK4.out).alloc _).alloc _, hk_alloc (hk_alloc (HK4.out.same H3.out.2.1) _) _, hk_alloc (hk_alloc (HK4.out.same H3.out.2.2.1) _) _, hk_alloc (hk_alloc (HK4.out.same H3.out.2.2.2.1) _) _, H3.out.2.2.2.2.keep (kc_keeps ((HK4.out.alloc _).alloc _) fun _ _ => by simp), hk_alloc (new_blk _ _) _, HE4.out.keep ((kc_alloc _).trans (kc_alloc _))⟩) (fun W5 HW5 => ?_)
      have H5 := Lib.hid HW5
      clear HW5 HE4 HK4 gn gm H3
      have gn := cell_blk H5.out.2.1
      have gm := cell_blk H5.out.2.2.1
      have hln := hk_lt H5.out.2.1
      have hlm := hk_lt H5.out.2.2.1
      have HO0 := Lib.hid (u8_or n0 m0 a00 a01 b00 b01)
      have HO1 := Lib.hid (u8_or n1 m1 a10 a11 b10 b11)
      have HO2 := Lib.hid (u8_or n2 m2 a20 a21 b20 b21)
      have HEV := Lib.hid (fun W => env_any (bits BinOp.or IntKind.u8 n0 m0) (bits BinOp.or IntKind.u8 n1 m1) (bits BinOp.or IntKind.u8 n2 m2) W HO0.out.1.1 HO0.out.1.2 HO1.out.1.1 HO1.out.1.2 HO2.out.1.1 HO2.out.1.2)
      go_wp2_with fail
      refine (HEV.out _).mono ?_
      clear HEV
      rintro e6 w6 ⟨k1, k2, q', rfl, ⟨r0, r1, r2, r3, r4, r5, j6, j7, rfl⟩, he6, hk6⟩
      generalize bits BinOp.or IntKind.u8 n0 m0 = o0 at *
      generalize bits BinOp.or IntKind.u8 n1 m1 = o1 at *
      generalize bits BinOp.or IntKind.u8 n2 m2 = o2 at *
      have HE6 := Lib.hid he6
      have HK6 := Lib.hid hk6
      clear he6 hk6 gn gm hln hlm
      have HS1 := Lib.hid (fun (vi vk va vN vS : Value) (S S2 : Nat → Prop) (W : World) (hr : T.Rep W S vi vk va) (he : EnvAt (env3 n0 n1 n2) vN vS W S2) => scheck_any (env3 n0 n1 n2) 40 T vi vk va vN vS S S2 W (by omega) (by decide) HGD.out hr he)
      have HS2 := Lib.hid (fun (vi vk va vN vS : Value) (S S2 : Nat → Prop) (W : World) (hr : T.Rep W S vi vk va) (he : EnvAt (env3 o0 o1 o2) vN vS W S2) => scheck_any (env3 o0 o1 o2) 40 T vi vk va vN vS S S2 W (by omega) (by decide) HGD.out hr he)
      have HGR := Lib.hid (chk_grow (E := env3 n0 n1 n2) (F := env3 o0 o1 o2) HO0.out.2 rfl (env3_sub HO1.out.2 HO2.out.2) HGD.out)
      generalize chk (env3 n0 n1 n2) T = ca at *
      generalize chk (env3 o0 o1 o2) T = cb at *
      obtain ⟨ca1, ca2⟩ := ca
      obtain ⟨cb1, cb2⟩ := cb
      have hor : (ca2 = 0 ∧ cb2 = 0 ∧ bits BinOp.and IntKind.i64 ca1 cb1 = ca1) ∨ ((ca2 == 0) = false ∧ ¬ ca2 = 0) := by
        by_cases hz : ca2 = 0
        · obtain ⟨h1, h2⟩ := HGR.out hz; exact .inl ⟨hz, h1, h2⟩
        · exact .inr ⟨by rw [beq_eq_false_iff_ne]; exact hz, hz⟩
      clear HGR
      rcases hor with ⟨rfl, rfl, hb2⟩ | ⟨hne, hnz⟩
      all_goals
        go_upto_region 8 with fail
        refine abs_world (F := fun W => Keeps [] w W ∧ W.heap[w2.heap.size]? = some (.cells (T.nine (.slice x1 T.lit.its.length y1) (.slice x2 T.lit.ks.length y2) (.slice x3 T.args.length y3)) 30 (0, 0)) ∧ T.Rep W (w1.heap.size ≤ ·) (.slice x1 T.lit.its.length y1) (.slice x2 T.lit.ks.length y2) (.slice x3 T.args.length y3) ∧
            (W.heap[w4.heap.size]? = some (.cells #[.int .i64 (n0 % 64), .slice (some ⟨g1, 0, none⟩) 2 2, .slice (some ⟨g2, 0, none⟩) 2 2] 36 (0, 0)) ∧ EnvAt (env3 n0 n1 n2) (.slice (some ⟨g1, 0, none⟩) 2 2) (.slice (some ⟨g2, 0, none⟩) 2 2) W (W3.heap.size ≤ ·)) ∧
            (W.heap[w6.heap.size]? = some (.cells #[.int .i64 (o0 % 64), .slice (some ⟨k1, 0, none⟩) 2 2, .slice (some ⟨k2, 0, none⟩) 2 2] 36 (0, 0)) ∧ EnvAt (env3 o0 o1 o2) (.slice (some ⟨k1, 0, none⟩) 2 2) (.slice (some ⟨k2, 0, none⟩) 2 2) W (W5.heap.size ≤ ·)))
          (by exact ⟨((H5.out.1.trans HK6.out).alloc _).alloc _, hk_alloc (hk_alloc (HK6.out.same H5.out.2.2.2.1) _) _, H5.out.2.2.2.2.1.keep (kc_keeps ((HK6.out.alloc _).alloc _) fun _ _ => by simp), ⟨hk_alloc (hk_alloc (HK6.out.same H5.out.2.2.2.2.2.1) _) _, H5.out.2.2.2.2.2.2.keep (kc_keeps ((HK6.out.alloc _).alloc _) fun _ _ => by simp)⟩, hk_alloc (new_blk _ _) _, HE6.out.keep ((kc_alloc _).trans (kc_alloc _))⟩) (fun W7 HW7 => ?_)
        have H7 := Lib.hid HW7
        clear HW7 HE6 HK6 H5
        have gt := cell_blk H7.out.2.1
        have ge := cell_blk H7.out.2.2.2.1.1
        have hlt1 := hk_lt H7.out.2.1
        have hle1 := hk_lt H7.out.2.2.2.1.1
        have HTR1 := Lib.hid H7.out.2.2.1
        have HEN1 := Lib.hid H7.out.2.2.2.1.2
        go_region_held3 (fun W' => (∀ o, W'.cell? ⟨w2.heap.size, o, none⟩ = W7.cell? ⟨w2.heap.size, o, none⟩) ∧ (∀ o, W'.cell? ⟨w4.heap.size, o, none⟩ = W7.cell? ⟨w4.heap.size, o, none⟩))
          ((refine two_held0 hlt1 hle1 ?_; (repeat (first | with_reducible exact Keeps.refl _ _ | with_reducible exact (KC1.out) | with_reducible exact (KR1.out) | with_reducible refine Keeps.drew ?_)); done))
          (first
            | (go_at_call 18; refine (xreal_any 40 T _ _ _ _ _ (by omega) HGD.out (HTR1.out.keep (by (repeat (first | with_reducible exact Kc.refl _ _ | with_reducible exact kc_drew))))).mono ?_; rintro e' wr hx; obtain ⟨vi, vk, va, rfl, hrep, hk⟩ := xreal_at hx; obtain ⟨p1, q1, p2, q2, p3, q3, rfl, rfl, rfl⟩ := xrep_shape hrep; have KR1 : Hid (Keeps [] W7 wr) := Lib.hid (Keeps.trans (by (repeat (first | with_reducible exact Keeps.refl _ _ | with_reducible refine Keeps.drew ?_))) hk); have HRR1 := Lib.hid hrep; clear hrep hk hx)
            | (go_at_call 17; refine (HS1.out _ _ _ _ _ _ _ _ HRR1.out (HEN1.out.keep (kc_keeps KR1.out fun _ _ => by simp))).mono ?_; rintro e' wc1 ⟨rfl, hk⟩; have KC1 : Hid (Keeps [] W7 wc1) := Lib.hid (KR1.out.trans hk); clear hk))
        refine ‹∀ (a : Act) (w : World), _ → _› _ _ ?_
        refine abs_world (F := fun W => Keeps [] w W ∧ W.heap[w2.heap.size]? = some (.cells (T.nine (.slice x1 T.lit.its.length y1) (.slice x2 T.lit.ks.length y2) (.slice x3 T.args.length y3)) 30 (0, 0)) ∧ T.Rep W (w1.heap.size ≤ ·) (.slice x1 T.lit.its.length y1) (.slice x2 T.lit.ks.length y2) (.slice x3 T.args.length y3) ∧
            (W.heap[w6.heap.size]? = some (.cells #[.int .i64 (o0 % 64), .slice (some ⟨k1, 0, none⟩) 2 2, .slice (some ⟨k2, 0, none⟩) 2 2] 36 (0, 0)) ∧ EnvAt (env3 o0 o1 o2) (.slice (some ⟨k1, 0, none⟩) 2 2) (.slice (some ⟨k2, 0, none⟩) 2 2) W (W5.heap.size ≤ ·)))
          (by exact ⟨H7.out.1.trans KC1.out, KC1.out.same H7.out.2.1, H7.out.2.2.1.keep (kc_keeps KC1.out fun _ _ => by simp), KC1.out.same H7.out.2.2.2.2.1, H7.out.2.2.2.2.2.keep (kc_keeps KC1.out fun _ _ => by simp)⟩) (fun W8 HW8 => ?_)
        have H8 := Lib.hid HW8
        clear HW8 H7 gt ge hlt1 hle1 HTR1 HEN1 KR1 KC1 HRR1
        have gt := cell_blk H8.out.2.1
        have ge := cell_blk H8.out.2.2.2.1
        have hlt2 := hk_lt H8.out.2.1
        have hle2 := hk_lt H8.out.2.2.2.1
        have HTR2 := Lib.hid H8.out.2.2.1
        have HEN2 := Lib.hid H8.out.2.2.2.2
        go_upto_region 9 with fail
        go_region_held3 (fun W' => (∀ o, W'.cell? ⟨w2.heap.size, o, none⟩ = W8.cell? ⟨w2.heap.size, o, none⟩) ∧ (∀ o, W'.cell? ⟨w6.heap.size, o, none⟩ = W8.cell? ⟨w6.heap.size, o, none⟩))
          ((refine two_held0 hlt2 hle2 ?_; (repeat (first | with_reducible exact Keeps.refl _ _ | with_reducible exact (KC2.out) | with_reducible exact (KR2.out) | with_reducible refine Keeps.drew ?_)); done))
          (first
            | (go_at_call 18; refine (xreal_any 40 T _ _ _ _ _ (by omega) HGD.out (HTR2.out.keep (by (repeat (first | with_reducible exact Kc.refl _ _ | with_reducible exact kc_drew))))).mono ?_; rintro e' wr hx; obtain ⟨vi, vk, va, rfl, hrep, hk⟩ := xreal_at hx; obtain ⟨p1, q1, p2, q2, p3, q3, rfl, rfl, rfl⟩ := xrep_shape hrep; have KR2 : Hid (Keeps [] W8 wr) := Lib.hid (Keeps.trans (by (repeat (first | with_reducible exact Keeps.refl _ _ | with_reducible refine Keeps.drew ?_))) hk); have HRR2 := Lib.hid hrep; clear hrep hk hx)
            | (go_at_call 17; refine (HS2.out _ _ _ _ _ _ _ _ HRR2.out (HEN2.out.keep (kc_keeps KR2.out fun _ _ => by simp))).mono ?_; rintro e' wc2 ⟨rfl, hk⟩; have KC2 : Hid (Keeps [] W8 wc2) := Lib.hid (KR2.out.trans hk); clear hk))
        refine ‹∀ (a : Act) (w : World), _ → _› _ _ ?_
        have HKE := Lib.hid (H8.out.1.trans KC2.out)
        clear H8 gt ge hlt2 hle2 HTR2 HEN2 KR2 KC2 HRR2
        go_wp2_with fail
        go_ret
        first
        | exact ⟨rfl, HKE.out.nil_below⟩
        | exact ⟨ret_bool (a := bits BinOp.and IntKind.i64 ca1 cb1 == ca1) (b := true) (by rw [hb2]; simp), HKE.out.nil_below⟩
    · have hne : (cd == 0) = false := by rw [beq_eq_false_iff_ne]; exact hc
      clear HG hc
      go_wp2_with fail
      go_ret
      exact ⟨rfl, (HK2.out.alloc _).nil_below⟩
  · go_wp2_with fail
    refine (HA.out _ HK1.out).mono ?_
    rintro e2 w2 ⟨rfl, hk2⟩
    have HK2 := Lib.hid (HK1.out.trans hk2)
    clear hk2
    go_wp2_with fail
    go_ret
    exact ⟨rfl, HK2.out.nil_below⟩
end
end Go.Proofs.YtdlkdecigpaaaaaGreatDoor
