/- The document's numbers: Fits. -/
import Derived.Test.YtlnmjpacagimnaaDoorBigE
namespace Go.Proofs.YtlnmjpacagimnaaDoor
set_option linter.unusedVariables false
set_option linter.unusedSimpArgs false
open Go.RowKit

theorem of_num (z : Int) (w : World) (h1 : -9223372036854775808 ≤ z) (h2 : z ≤ 9223372036854775807) :
    Calls Tryd.prog 15 #[.int .i64 z] w fun e w' => ∃ v, e = .returned v ∧ NumV w' v z ∧ Below w.heap.size w w' :=
  (of_any z w h1 h2).mono fun e w' h => by
    obtain ⟨f, l, he, hr, hc, hv, _, hb⟩ := h
    exact ⟨_, he, ⟨f, l, rfl, hr, hc, hv⟩, hb⟩
theorem pow5 {k : Nat} (h : 5 ≤ k) : (9223372036854775808 : Int) < 10000 ^ k := by
  have e : k = 5 + (k - 5) := by omega
  rw [e, Int.pow_add]
  have := pow_pos' (k - 5)
  have h6 : (10000 : Int) ^ 5 * 1 ≤ 10000 ^ 5 * 10000 ^ (k - 5) := Int.mul_le_mul_of_nonneg_left (by omega) (by decide)
  have : (10000 : Int) ^ 5 = 100000000000000000000 := by decide
  omega
abbrev Two (g : Nat) (a b : Value) (W : World) : Prop := W.cell? ⟨g, 0, none⟩ = some a ∧ W.cell? ⟨g, 1, none⟩ = some b
def OneBox (va : Array Value) (w W : World) : Prop := W.heap[w.heap.size]? = some (.cells va 39 (0, 0)) ∧ Below w.heap.size w W
theorem oneBox (va : Array Value) (w : World) : OneBox va w (w.alloc (.cells va 39)) := ⟨new_blk _ _, bl_alloc (Below.refl _ _) _⟩
section
variable {w W W1 : World} {g : Nat} {a b : Value} {va : Array Value}
theorem two_drew (H : Two g a b W) : Two g a b W.drew := H
theorem OneBox.drew (H : OneBox va w W) : OneBox va w W.drew := ⟨H.1, bl_drew H.2⟩
theorem OneBox.step (H : OneBox va w W) (hb : Below W.heap.size W W1) : OneBox va w W1 := ⟨hk_below H.1 hb, bl_step H.2 hb⟩
theorem OneBox.two (H : OneBox #[a, b] w W) : Two w.heap.size a b W := ⟨cell_blk H.1 0, cell_blk H.1 1⟩
end
def fitsB (z : Int) : Bool := !decide (z < -9223372036854775808) && !decide (9223372036854775807 < z)
set_option maxRecDepth 20000 in
set_option maxHeartbeats 2000000 in
theorem fits_any (va : Value) (x : Int) (k : Nat) (w : World) (ha : NumV w va x) (hx : (x.natAbs : Int) < 10000 ^ k) (hk : k ≤ 100000) (hk5 : 5 ≤ k) :
    Calls Tryd.prog 52 #[va] w fun e w' => e = .returned (.bool (fitsB x)) ∧ Below w.heap.size w w' := by
  have HA := Lib.hid ha
  obtain ⟨p, A, n, c, rfl⟩ := ha.shape
  have HL1 := Lib.hid (fun (W : World) (v1 v2 : Value) (h : NumV W v1 x) (h2 : NumV W v2 (-9223372036854775808)) => lessN_any v1 v2 x (-9223372036854775808) k W h h2 hx (by have := pow5 hk5; omega) hk)
  have HL2 := Lib.hid (fun (W : World) (v1 v2 : Value) (h : NumV W v1 9223372036854775807) (h2 : NumV W v2 x) => lessN_any v1 v2 9223372036854775807 x k W h h2 (by have := pow5 hk5; omega) hx hk)
  have HF : Hid (fitsB x = (!decide (x < -9223372036854775808) && !decide (9223372036854775807 < x))) := Lib.hid rfl
  clear ha hx hk hk5
  generalize decide (x < -9223372036854775808) = q1 at *
  generalize decide (9223372036854775807 < x) = q2 at *
  generalize fitsB x = r at *
  cases q1 with
  | true =>
    cases r with
    | true => exact absurd HF.out (by simp)
    | false =>
      clear HL2 HF
      go_enter Tryd.func52, Tryd.ntmps52
      go_upto_region 1 with (fail)
      refine abs_world (F := OneBox #[.bool p, .slice A n c] w) (oneBox _ w) ?_
      intro wr hbx
      have HX := Lib.hid hbx
      have K0 := hbx.two
      have HA := Lib.hid (HA.out.below hbx.2)
      clear hbx
      go_region_with (first
        | (go_at_call 15; (refine (of_num _ _ (by decide) (by decide)).mono ?_); rintro e w1 ⟨v1, rfl, hn1, hb1⟩; have HN1 := Lib.hid hn1; obtain ⟨q1, A1, n1, k1, rfl⟩ := hn1.shape; replace hb1 := bl_undrew hb1; have HX1 := Lib.hid (HX.out.step hb1); have K1 := HX1.out.two; have HA1 := Lib.hid (HA.out.below hb1); clear hn1 hb1)
        | (go_at_call 66; refine (HL1.out _ _ _ HA1.out HN1.out).mono ?_; rintro e w2 ⟨rfl, hb2⟩; have HX2 := Lib.hid (HX1.out.step hb2); have K2 := HX2.out.two; have HA2 := Lib.hid (HA1.out.below hb2); clear hb2)
        )
      all_goals
        clear K0 K1 K2
        go_wp2
        go_ret
        exact ⟨rfl, HX2.out.2⟩
  | false =>
    cases q2 with
    | true =>
      cases r with
      | true => exact absurd HF.out (by simp)
      | false =>
        clear HF
        go_enter Tryd.func52, Tryd.ntmps52
        go_upto_region 1 with (fail)
        refine abs_world (F := OneBox #[.bool p, .slice A n c] w) (oneBox _ w) ?_
        intro wr hbx
        have HX := Lib.hid hbx
        have K0 := hbx.two
        have HA := Lib.hid (HA.out.below hbx.2)
        clear hbx
        go_region_with (first
          | (go_at_call 15; have hthere := HX2; clear hthere; (refine (of_num _ _ (by decide) (by decide)).mono ?_); rintro e w3 ⟨v1, rfl, hn1, hb1⟩; have HN3 := Lib.hid hn1; obtain ⟨q3, A3, n3, k3, rfl⟩ := hn1.shape; have HX3 := Lib.hid (HX2.out.step hb1); have K3 := HX3.out.two; have HA3 := Lib.hid (HA2.out.below hb1); clear hn1 hb1)
          | (go_at_call 66; have hthere := HX3; clear hthere; refine (HL2.out _ _ _ HN3.out HA3.out).mono ?_; rintro e w4 ⟨rfl, hb2⟩; have HX4 := Lib.hid (HX3.out.step hb2); have K4 := HX4.out.two; have HA4 := Lib.hid (HA3.out.below hb2); clear hb2)
          | (go_at_call 15; (refine (of_num _ _ (by decide) (by decide)).mono ?_); rintro e w1 ⟨v1, rfl, hn1, hb1⟩; have HN1 := Lib.hid hn1; obtain ⟨q1, A1, n1, k1, rfl⟩ := hn1.shape; replace hb1 := bl_undrew hb1; have HX1 := Lib.hid (HX.out.step hb1); have K1 := HX1.out.two; have HA1 := Lib.hid (HA.out.below hb1); clear hn1 hb1)
          | (go_at_call 66; refine (HL1.out _ _ _ HA1.out HN1.out).mono ?_; rintro e w2 ⟨rfl, hb2⟩; have HX2 := Lib.hid (HX1.out.step hb2); have K2 := HX2.out.two; have HA2 := Lib.hid (HA1.out.below hb2); clear hb2)
          )
        all_goals
          clear K0 K1 K2 K3 K4
          go_wp2
          go_ret
          exact ⟨rfl, HX4.out.2⟩
    | false =>
      cases r with
      | false => exact absurd HF.out (by simp)
      | true =>
        clear HF
        go_enter Tryd.func52, Tryd.ntmps52
        go_upto_region 1 with (fail)
        refine abs_world (F := OneBox #[.bool p, .slice A n c] w) (oneBox _ w) ?_
        intro wr hbx
        have HX := Lib.hid hbx
        have K0 := hbx.two
        have HA := Lib.hid (HA.out.below hbx.2)
        clear hbx
        go_region_with (first
          | (go_at_call 15; have hthere := HX2; clear hthere; (refine (of_num _ _ (by decide) (by decide)).mono ?_); rintro e w3 ⟨v1, rfl, hn1, hb1⟩; have HN3 := Lib.hid hn1; obtain ⟨q3, A3, n3, k3, rfl⟩ := hn1.shape; have HX3 := Lib.hid (HX2.out.step hb1); have K3 := HX3.out.two; have HA3 := Lib.hid (HA2.out.below hb1); clear hn1 hb1)
          | (go_at_call 66; have hthere := HX3; clear hthere; refine (HL2.out _ _ _ HN3.out HA3.out).mono ?_; rintro e w4 ⟨rfl, hb2⟩; have HX4 := Lib.hid (HX3.out.step hb2); have K4 := HX4.out.two; have HA4 := Lib.hid (HA3.out.below hb2); clear hb2)
          | (go_at_call 15; (refine (of_num _ _ (by decide) (by decide)).mono ?_); rintro e w1 ⟨v1, rfl, hn1, hb1⟩; have HN1 := Lib.hid hn1; obtain ⟨q1, A1, n1, k1, rfl⟩ := hn1.shape; replace hb1 := bl_undrew hb1; have HX1 := Lib.hid (HX.out.step hb1); have K1 := HX1.out.two; have HA1 := Lib.hid (HA.out.below hb1); clear hn1 hb1)
          | (go_at_call 66; refine (HL1.out _ _ _ HA1.out HN1.out).mono ?_; rintro e w2 ⟨rfl, hb2⟩; have HX2 := Lib.hid (HX1.out.step hb2); have K2 := HX2.out.two; have HA2 := Lib.hid (HA1.out.below hb2); clear hb2)
          )
        all_goals
          clear K0 K1 K2 K3 K4
          go_wp2
          go_ret
          exact ⟨rfl, HX4.out.2⟩
end Go.Proofs.YtlnmjpacagimnaaDoor
