/- ExprDeeps: the law's walk. -/
import Derived.Test.YtdlkdecigpaaaaaGreatDoorMpDQE
import Derived.Test.YtdlkdecigpaaaaaGreatDoorMp35
namespace Go.Proofs.YtdlkdecigpaaaaaGreatDoor
set_option linter.unusedVariables false
set_option linter.unusedSimpArgs false
open Go.RowKit

theorem deep_ix (q j : Nat) (hq : q < 4) : ∀ W : World, (Instr.index 76 (.agg #[.string (⟨#[110, 111, 116, 32]⟩ ++ deepS q j), .string (⟨#[45]⟩ ++ deepS q j), .string (deepS q j ++ ⟨#[32, 43, 32, 49]⟩), .string (deepS q j ++ ⟨#[91, 48, 93]⟩)]) (.int .u8 (q : Int))).run Tryz.prog W = .ok (.string (deepS q (j + 1))) W := by
  intro W
  rcases (by omega : q = 0 ∨ q = 1 ∨ q = 2 ∨ q = 3) with rfl | rfl | rfl | rfl
  · rw [← deep_0]; kernel_rfl
  · rw [← deep_1]; kernel_rfl
  · rw [← deep_2]; kernel_rfl
  · rw [← deep_3]; kernel_rfl
theorem xzero_op : XT.zero.op.toList.isEmpty = true := by rw [show XT.zero.op = eS from rfl, toList_nil rfl]; rfl
set_option maxRecDepth 20000 in
set_option maxHeartbeats 4000000 in
theorem deeps_walk (n kind : Int) (w : World) (hv : VarOk w) (hn : (Lit.int .u8 n).wf = true) (hk : (Lit.int .u8 kind).wf = true) : Calls Tryz.prog 10 #[.int .u8 n, .int .u8 kind] w fun e w' => e = .returned (.bool true) ∧ Below w.heap.size w w' := by
  have hn1 : 0 ≤ n ∧ n ≤ 255 := u8_rangeE hn
  have hk1 : 0 ≤ kind ∧ kind ≤ 255 := u8_rangeE hk
  obtain ⟨n0, n1⟩ := hn1
  obtain ⟨k0, k1⟩ := hk1
  have HA := Lib.hid (awake8_any w hv)
  obtain ⟨m, hm⟩ : ∃ m : Nat, n % 50 = m := ⟨(n % 50).toNat, by omega⟩
  obtain ⟨q, hq⟩ : ∃ q : Nat, kind % 4 = q := ⟨(kind % 4).toNat, by omega⟩
  have m1 : m < 50 := by omega
  have q1 : q < 4 := by omega
  obtain ⟨T, r, hT, hg, hpar, hR⟩ := deeps_par q m q1 m1
  have HP := Lib.hid (fun (W : World) (k : Keeps [] w W) => eParse_any (deepS q m) W r (by have := deep_size q m; omega) (hv.keeps k (by simp)) hpar)
  rw [hR] at HP
  have HT := Lib.hid hT
  have HG := Lib.hid hg
  clear hR hpar hv hn hk hT hg
  go_enter Tryz.func10, Tryz.ntmps10
  go_wp2_with (go_at_call 24; refine HA.out.mono ?_; rintro e w1 ⟨rfl, hk1⟩; have HK1 := Lib.hid hk1; clear hk1)
  go_loopw [6, 16] (fun v i W => ∃ (j : Nat) (x : ByteArray), j ≤ m ∧ i = .int .i64 j ∧ v = .string x ∧ Hid (x = deepS q j ∧ Keeps [] w W)) (fun _ i _ => m - (intOf i).toNat)
  case atStart => exact ⟨0, _, by omega, rfl, rfl, Lib.hid ⟨rfl, HK1.out⟩⟩
  case round =>
    obtain ⟨j, x, hj, rfl, rfl, HX⟩ := hrel
    by_cases hlt : j < m
    · have hxs : x.size ≤ 1 + 4 * j := by rw [HX.out.1]; exact deep_size q j
      have IX := deep_ix q j q1
      rw [← HX.out.1] at IX
      have s1 : ¬ 9223372036854775807 < 4 + x.size := by omega
      have s2 : ¬ 9223372036854775807 < 1 + x.size := by omega
      have s3 : ¬ 9223372036854775807 < x.size + 4 := by omega
      have s4 : ¬ 9223372036854775807 < x.size + 3 := by omega
      have hlt2 : (j : Int) < (m : Int) := by omega
      go_wp2_with fail
      go_roundw
      case rel => exact ⟨j + 1, _, by omega, by go_num, rfl, Lib.hid ⟨rfl, HX.out.2⟩⟩
      case measure => simp [intOf]; omega
    · obtain rfl : j = m := by omega
      have HPX := Lib.hid (HP.out _ HX.out.2)
      rw [← HX.out.1] at HPX
      by_cases hd : 31 < j
      · rw [if_pos hd] at HPX
        go_wp2_with fail
        refine HPX.out.mono ?_
        rintro e2 w2 ⟨vi, vk, va, rfl, hr, hk2⟩
        dsimp only at hr
        obtain ⟨a1, c1, a2, c2, a3, c3, rfl, rfl, rfl⟩ := xrep_shape hr
        have HK2 := Lib.hid (HX.out.2.trans hk2)
        clear hr hk2
        go_wp2_with fail
        go_ret
        exact ⟨ret_bool xzero_op, (HK2.out.alloc _).nil_below⟩
      · rw [if_neg hd] at HPX
        go_wp2_with fail
        refine HPX.out.mono ?_
        rintro e2 w2 ⟨vi, vk, va, rfl, hr, hk2⟩
        dsimp only at hr
        obtain ⟨a1, c1, a2, c2, a3, c3, rfl, rfl, rfl⟩ := xrep_shape hr
        have HK2 := Lib.hid (And.intro ((HX.out.2.trans hk2).alloc (.cells (T.nine (.slice a1 T.lit.its.length c1) (.slice a2 T.lit.ks.length c2) (.slice a3 T.args.length c3)) 52)) (hr.keep (kc_alloc (.cells (T.nine (.slice a1 T.lit.its.length c1) (.slice a2 T.lit.ks.length c2) (.slice a3 T.args.length c3)) 52))))
        clear hr hk2
        dsimp only
        go_wp2_with (go_at_call 32; refine (edepth_any 1000000 T _ _ _ _ _ (by have := HT.out; omega) (Nat.le_refl _) HG.out HK2.out.2).mono ?_; rintro e' w3 ⟨rfl, hk3⟩; have HK3 := Lib.hid (HK2.out.1.trans hk3); clear hk3)
        go_ret
        exact ⟨ret_bool (by rw [HT.out]; simp), HK3.out.nil_below⟩
end Go.Proofs.YtdlkdecigpaaaaaGreatDoor
