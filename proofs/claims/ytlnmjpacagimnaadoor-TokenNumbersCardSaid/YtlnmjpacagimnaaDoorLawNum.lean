/- TokenNumbers: any integer's text, with blanks about it, is one Num of it. -/
import Derived.Test.YtlnmjpacagimnaaDoorNumTok
namespace Go.Proofs.YtlnmjpacagimnaaDoor
set_option linter.unusedVariables false
set_option linter.unusedSimpArgs false
open Go.RowKit

theorem u8_rangeN {x : Int} (h : (Lit.int .u8 x).wf = true) : 0 ≤ x ∧ x ≤ 255 := by
  simp only [Lit.wf, Bool.and_eq_true, decide_eq_true_eq] at h
  have h1 : IntKind.u8.min = 0 := rfl
  have h2 : IntKind.u8.max = 255 := rfl
  omega
theorem i64_rangeN {x : Int} (h : (Lit.int .i64 x).wf = true) : -9223372036854775808 ≤ x ∧ x ≤ 9223372036854775807 := by
  simp only [Lit.wf, Bool.and_eq_true, decide_eq_true_eq] at h
  have h1 : IntKind.i64.min = -9223372036854775808 := rfl
  have h2 : IntKind.i64.max = 9223372036854775807 := rfl
  omega
def blkS : ByteArray := ⟨#[32, 10, 9, 13]⟩
theorem blk_bt : ∀ k : Nat, k < 4 → blankB (bt (blkS.extract k (k + 1)) 0) = true ∧ (blkS.extract k (k + 1)).size = 1 := by decide +kernel
theorem allBlank_app {a : ByteArray} {k : Nat} (hk : k < 4) (h : AllBlank a) : AllBlank (a ++ blkS.extract k (k + 1)) ∧ (a ++ blkS.extract k (k + 1)).size = a.size + 1 := by
  obtain ⟨h1, h2⟩ := blk_bt k hk
  have hz : (a ++ blkS.extract k (k + 1)).size = a.size + 1 := by rw [ByteArray.size_append, h2]
  refine ⟨fun j hj => ?_, hz⟩
  by_cases hja : j < a.size
  · rw [bt_left hja]; exact h j hja
  · obtain rfl : j = a.size + 0 := by omega
    rw [bt_right (by omega)]; simpa using h1
set_option maxRecDepth 20000 in
set_option maxHeartbeats 4000000 in
theorem nums_nat (n m : Int) (fr : Bool) (w : World) (hv : VarOk w) (hn1 : -9223372036854775808 ≤ n) (hn2 : n ≤ 9223372036854775807) (hm0 : 0 ≤ m) (hm1 : m ≤ 255) :
    Calls Tryd.prog 5 #[.int .i64 n, .int .u8 m, .bool fr] w fun e w' => e = .returned (.bool true) ∧ Below w.heap.size w w' := by
  have HV := Lib.hid hv
  have HK := Lib.hid (fun W (hb : Below w.heap.size w W) => HV.out.keeps (Keeps.below (S := []) hb) (by simp))
  have HW0 := Lib.hid (awake_any w hv)
  have HNN := Lib.hid (And.intro hn1 hn2)
  have HOF := Lib.hid (fun W => of_num n W hn1 hn2)
  clear hv hn1 hn2
  go_enter Tryd.func5, Tryd.ntmps5
  go_wp2_with fail
  refine HW0.out.mono ?_
  rintro e' w1 ⟨rfl, hb1⟩
  have HB1 := Lib.hid hb1
  clear hb1
  go_wp2
  go_loop [7, 22] (fun sv kv => ∃ (a : ByteArray) (k : Nat), sv = .string a ∧ kv = .int .u8 k ∧ (k : Int) ≤ m % 7 ∧ a.size ≤ 7 ∧ Hid (AllBlank a ∧ a.size = k)) (fun _ kv => 7 - (intOf kv).toNat)
  case atStart => exact ⟨⟨#[]⟩, 0, rfl, rfl, by omega, by decide, Lib.hid ⟨fun j h => absurd h (Nat.not_lt_zero j), rfl⟩⟩
  case round =>
    obtain ⟨a, k, rfl, rfl, hk, ha7, H⟩ := hrel
    have hm7 : 0 ≤ m % 7 ∧ m % 7 ≤ 6 := by omega
    obtain ⟨hm7a, hm7b⟩ := hm7
    by_cases hlt : (k : Int) < m % 7
    · have hd : 0 ≤ m / 7 % 4 ∧ m / 7 % 4 ≤ 3 := by omega
      obtain ⟨hd0, hd1⟩ := hd
      have HA := Lib.hid (allBlank_app (k := (m / 7 % 4).toNat) (by omega) H.out.1)
      have HE : Hid ((m / 7 % 4 + 1).toNat = (m / 7 % 4).toNat + 1) := Lib.hid (by omega)
      go_wp2
      go_round
      case rel => exact ⟨_, k + 1, rfl, by go_num, by omega, by rw [HE.out]; have h1 := HA.out.2; unfold blkS at h1; have h2 := H.out.2; omega, Lib.hid (by rw [HE.out]; have h1 := HA.out; unfold blkS at h1; exact ⟨h1.1, by rw [h1.2, H.out.2]⟩)⟩
      case measure => simp [intOf]; omega
    · have HAB := Lib.hid H.out.1
      clear H
      have HOF1 := Lib.hid (HOF.out w1)
      go_wp2_with fail
      refine HOF1.out.mono ?_
      rintro e' w2 ⟨va, rfl, hnv, hb2⟩
      have HB2 := Lib.hid (bl_step HB1.out hb2)
      have HTX := Lib.hid (text2_any va n w2 hnv HNN.out.1 HNN.out.2)
      obtain ⟨v1, A1, n1, k1, rfl⟩ := hnv.shape
      clear hb2 hnv HOF HOF1
      go_wp2_with fail
      refine HTX.out.mono ?_
      rintro e' w3 ⟨s, rfl, hst, hb3⟩
      have HB3 := Lib.hid (bl_step HB2.out hb3)
      have HS := Lib.hid hst
      have hs4 : s.size ≤ 401 := by obtain ⟨_, _, _, _, _, _, _, _, _, _, h⟩ := text_parts hst; exact h
      clear hb3 hst HTX
      cases fr with
      | true =>
        have HA1 := Lib.hid (fun W (hb : Below w.heap.size w W) => all_any (a ++ s ++ ⟨#[46, 48]⟩) W (by rw [ctx_size]; show a.size + s.size + 2 ≤ 4000; omega) (HK.out W hb))
        have HA2 := Lib.hid (fun W (hb : Below w.heap.size w W) => all_any (a ++ s ++ ⟨#[69, 43, 48, 48]⟩) W (by rw [ctx_size]; show a.size + s.size + 4 ≤ 4000; omega) (HK.out W hb))
        rw [num_frac HAB.out HS.out rfl] at HA1
        rw [num_expo HAB.out HS.out rfl] at HA2
        have HA1b := Lib.hid (HA1.out w3 HB3.out)
        go_wp2_with fail
        refine HA1b.out.mono ?_
        rintro e' w4 ⟨v4, rfl, _, hb4⟩
        have HB4 := Lib.hid (bl_step HB3.out hb4)
        have HA2b := Lib.hid (HA2.out w4 HB4.out)
        clear hb4 HA1 HA1b
        go_wp2_with fail
        refine HA2b.out.mono ?_
        rintro e' w5 ⟨v5, rfl, _, hb5⟩
        have HB5 := Lib.hid (bl_step HB4.out hb5)
        clear hb5 HA2 HA2b
        go_wp2
        go_ret
        exact ⟨rfl, HB5.out⟩
      | false =>
        have HA1 := Lib.hid (all_any (a ++ s ++ a) w3 (by rw [ctx_size]; omega) (HK.out w3 HB3.out))
        obtain ⟨tk, hall⟩ := num_plain HAB.out HS.out HNN.out.1 HNN.out.2 HAB.out
        rw [hall] at HA1
        clear hall
        go_wp2_with fail
        refine HA1.out.mono ?_
        rintro e' w4 ⟨v, rfl, ho, hb⟩
        obtain ⟨g, cap, rfl, hg⟩ := own_shape ho (by simp)
        have c0 : w4.cell? ⟨g, 0, none⟩ = some (.int .i64 3) := tk_cell ho (j := 0) (k := 0) rfl rfl
        have c2 : w4.cell? ⟨g, 2, none⟩ = some (.int .i64 n) := tk_cell ho (j := 0) (k := 2) rfl rfl
        have c3 : w4.cell? ⟨g, 3, none⟩ = some (.int .i64 a.size) := tk_cell ho (j := 0) (k := 3) rfl rfl
        have c4 : w4.cell? ⟨g, 4, none⟩ = some (.int .i64 ((a.size : Int) + s.size)) := tk_cell ho (j := 0) (k := 4) rfl rfl
        have HB4 := Lib.hid (bl_step HB3.out hb)
        clear ho hb HA1
        simp only [List.length_cons, List.length_nil, Nat.zero_add, Nat.reduceAdd]
        go_wp2
        go_ret
        exact ⟨rfl, HB4.out⟩
theorem nums_walk (n m : Int) (fr : Bool) (w : World) (hv : VarOk w) (hn : (Lit.int .i64 n).wf = true) (hm : (Lit.int .u8 m).wf = true) :
    Calls Tryd.prog 5 #[.int .i64 n, .int .u8 m, .bool fr] w fun e w' => e = .returned (.bool true) ∧ Below w.heap.size w w' :=
  nums_nat n m fr w hv (i64_rangeN hn).1 (i64_rangeN hn).2 (u8_rangeN hm).1 (u8_rangeN hm).2
end Go.Proofs.YtlnmjpacagimnaaDoor
