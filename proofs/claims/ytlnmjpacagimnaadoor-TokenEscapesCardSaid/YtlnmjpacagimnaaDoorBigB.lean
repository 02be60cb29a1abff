/- The document's figures: clean, Of. -/
import Derived.Test.YtlnmjpacagimnaaDoorBigA
namespace Go.Proofs.YtlnmjpacagimnaaDoor
set_option linter.unusedVariables false
set_option linter.unusedSimpArgs false
open Go.RowKit

theorem trim_zero {l : List Int} {k : Nat} (h : l[k]? = some 0) : trimF l (k + 1) = trimF l k := by conv => lhs; unfold trimF; rw [if_pos h]
theorem trim_stop {l : List Int} {k : Nat} (h : l[k]? ≠ some 0) : trimF l (k + 1) = k + 1 := by conv => lhs; unfold trimF; rw [if_neg h]
set_option maxRecDepth 20000 in
set_option maxHeartbeats 2000000 in
theorem clean_any (l : List Int) (b : Bool) (v : Value) (w : World) (hv : RdI w v l) (hl : l.length ≤ 1000000) :
    Calls Tryd.prog 63 #[.agg #[.bool b, v]] w fun e w' => ∃ f, e = .returned (.agg #[.bool (b && decide (0 < trimF l l.length)), f]) ∧ RdI w' f (l.take (trimF l l.length)) ∧ Below w.heap.size w w' := by
  obtain ⟨A, c, rfl⟩ := hv.open
  have HV := Lib.hid hv
  obtain ⟨hcc, hcm⟩ := hv.cap
  clear hv
  have hk := trim_le l l.length
  have HK : Hid (trimF l l.length = trimF l l.length) := Lib.hid rfl
  generalize hk0 : trimF l l.length = k0 at *
  go_enter Tryd.func63, Tryd.ntmps63
  go_wp2
  have HW : Hid (Below w.heap.size w ((w.alloc (.cells #[.bool b, .slice A l.length c] 39)).alloc (.cells #[.bool false, .slice none 0 0] 39))) := Lib.hid (bl_alloc (bl_alloc (Below.refl _ _) _) _)
  have HT := Lib.hid hk0
  clear hk0
  go_loop [3] (fun t => ∃ k : Nat, k ≤ l.length ∧ t = .int .i64 k ∧ Hid (trimF l k = k0)) (fun t => (intOf t).toNat)
  case atStart => exact ⟨l.length, by omega, rfl, Lib.hid HT.out⟩
  case round =>
    obtain ⟨k, hkl, rfl, H⟩ := hrel
    cases k with
    | zero =>
      have HZ : Hid (k0 = 0) := Lib.hid H.out.symm
      cases b
      all_goals
        rw [show ((0 : Nat) : Int) = 0 from rfl]
        go_upto_region 4 with (fail)
        go_region
        go_wp2
        refine bodyPost_ret (v := .agg #[.bool false, .slice A 0 c]) (by simp [results, Tryd.results63, go_sem]) rfl ⟨.slice A 0 c, (by first | rfl | (rw [HZ.out]; rfl)), ?_, ?_⟩
        · rw [HZ.out]; exact (HV.out.take 0 (by omega)).below (by (repeat (first | (with_reducible exact Below.refl _ _) | refine bl_drew ?_ | refine bl_drewN ?_ _ | refine bl_alloc ?_ _ | refine bl_set ?_ (Nat.le_refl _) _ | refine bl_set ?_ (Nat.le_succ _) _)))
        · (repeat (first | (with_reducible exact Below.refl _ _) | refine bl_drew ?_ | refine bl_drewN ?_ _ | refine bl_alloc ?_ _ | refine bl_set ?_ (Nat.le_refl _) _ | refine bl_set ?_ (Nat.le_succ _) _))
    | succ k =>
      obtain ⟨x, hx⟩ : ∃ x, l[k]? = some x := ⟨l[k], List.getElem?_eq_getElem (by omega)⟩
      obtain ⟨g, hA, hc⟩ := (HV.out.below HW.out).cell hx
      subst hA
      have hkI : (k : Int) < l.length := by omega
      have e1 : ((k + 1 : Nat) : Int) = (k : Int) + 1 := by omega
      rw [e1]
      clear e1
      by_cases h0 : x = 0
      · have h0b : (x == 0) = true := by simp [h0]
        have HN := Lib.hid ((trim_zero (by rw [hx, h0])).symm.trans H.out)
        clear hx h0
        go_wp2
        go_round
        case rel => exact ⟨k, by omega, rfl, HN⟩
        case measure => simp [intOf] <;> omega
      · have h0b : (x == 0) = false := by simp [h0]
        have HN := Lib.hid ((trim_stop (by rw [hx]; simp [h0])).symm.trans H.out)
        have hkc : (k : Int) + 1 ≤ c := by omega
        clear hx h0
        cases b
        all_goals
          go_upto_region 4 with (fail)
          go_region
          go_wp2
        · refine bodyPost_ret (v := .agg #[.bool false, .slice (some ⟨g, 0, none⟩) (k + 1) c]) (by simp [results, Tryd.results63, go_sem]) rfl ⟨.slice (some ⟨g, 0, none⟩) (k + 1) c, rfl, ?_, ?_⟩
          · rw [← HN.out]; exact (HV.out.take (k + 1) (by omega)).below (by (repeat (first | (with_reducible exact Below.refl _ _) | refine bl_drew ?_ | refine bl_drewN ?_ _ | refine bl_alloc ?_ _ | refine bl_set ?_ (Nat.le_refl _) _ | refine bl_set ?_ (Nat.le_succ _) _)))
          · (repeat (first | (with_reducible exact Below.refl _ _) | refine bl_drew ?_ | refine bl_drewN ?_ _ | refine bl_alloc ?_ _ | refine bl_set ?_ (Nat.le_refl _) _ | refine bl_set ?_ (Nat.le_succ _) _))
        · refine bodyPost_ret (v := .agg #[.bool true, .slice (some ⟨g, 0, none⟩) (k + 1) c]) (by simp [results, Tryd.results63, go_sem]) rfl ⟨.slice (some ⟨g, 0, none⟩) (k + 1) c, by rw [← HN.out]; simp, ?_, ?_⟩
          · rw [← HN.out]; exact (HV.out.take (k + 1) (by omega)).below (by (repeat (first | (with_reducible exact Below.refl _ _) | refine bl_drew ?_ | refine bl_drewN ?_ _ | refine bl_alloc ?_ _ | refine bl_set ?_ (Nat.le_refl _) _ | refine bl_set ?_ (Nat.le_succ _) _)))
          · (repeat (first | (with_reducible exact Below.refl _ _) | refine bl_drew ?_ | refine bl_drewN ?_ _ | refine bl_alloc ?_ _ | refine bl_set ?_ (Nat.le_refl _) _ | refine bl_set ?_ (Nat.le_succ _) _))

theorem natAbs_mod (z : Int) (h : z ≠ 0) : (z.tmod 10000).natAbs = z.natAbs % 10000 := by
  rcases Int.lt_or_le z 0 with hz | hz
  · obtain ⟨n, rfl⟩ : ∃ n : Nat, z = -(n : Int) := ⟨(-z).toNat, by omega⟩
    rw [Int.neg_tmod, Int.natAbs_neg, Int.natAbs_neg]; rfl
  · obtain ⟨n, rfl⟩ := Int.eq_ofNat_of_zero_le hz
    rfl
end Go.Proofs.YtlnmjpacagimnaaDoor
