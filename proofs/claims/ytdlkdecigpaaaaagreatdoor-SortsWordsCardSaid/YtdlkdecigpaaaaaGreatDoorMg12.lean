/- Put together: The document's figures: clean, Of; The document's Of: an integer's figures. -/
import Derived.Test.YtdlkdecigpaaaaaGreatDoorMg11
namespace Go.Proofs.YtdlkdecigpaaaaaGreatDoor
set_option linter.unusedVariables false
set_option linter.unusedSimpArgs false
open Go.RowKit

theorem trim_zero {l : List Int} {k : Nat} (h : l[k]? = some 0) : trimF l (k + 1) = trimF l k := by conv => lhs; unfold trimF; rw [if_pos h]
theorem trim_stop {l : List Int} {k : Nat} (h : l[k]? ≠ some 0) : trimF l (k + 1) = k + 1 := by conv => lhs; unfold trimF; rw [if_neg h]
set_option maxRecDepth 20000 in
set_option maxHeartbeats 2000000 in
theorem clean_any (l : List Int) (b : Bool) (v : Value) (w : World) (hv : RdI w v l) (hl : l.length ≤ 1000000) :
    Calls Tryz.prog 158 #[.agg #[.bool b, v]] w fun e w' => ∃ f, e = .returned (.agg #[.bool (b && decide (0 < trimF l l.length)), f]) ∧ RdI w' f (l.take (trimF l l.length)) ∧ Below w.heap.size w w' := by
  obtain ⟨A, c, rfl⟩ := hv.open
  have HV := Lib.hid hv
  obtain ⟨hcc, hcm⟩ := hv.cap
  clear hv
  have hk := trim_le l l.length
  have HK : Hid (trimF l l.length = trimF l l.length) := Lib.hid rfl
  generalize hk0 : trimF l l.length = k0 at *
  go_enter Tryz.func158, Tryz.ntmps158
  go_wp2
  have HW : Hid (Below w.heap.size w ((w.alloc (.cells #[.bool b, .slice A l.length c] 155)).alloc (.cells #[.bool false, .slice none 0 0] 155))) := Lib.hid (bl_alloc (bl_alloc (Below.refl _ _) _) _)
  have HT := Lib.hid hk0
  clear hk0
  go_loop [3] (fun t => ∃ k : Nat, k ≤ l.length ∧ t = .int .i64 k ∧ Hid (trimF l k = k0)) (fun t => (intOf t).toNat)
  case atStart => exact ⟨l.length, by omega, rfl, Lib.hid HT.out⟩
  case round =>
    obtain ⟨k, hkl, rfl, H⟩ := hrel
    cases k with
    | zero =>
      have HZ : Hid (k0 = 0) := Lib.hid H.out.symm
      cases b
      all_goals
        rw [show ((0 : Nat) : Int) = 0 from rfl]
        go_upto_region 4 with (fail)
        go_region
        go_wp2
        refine bodyPost_ret (v := .agg #[.bool false, .slice A 0 c]) (by simp [results, Tryz.results158, go_sem]) rfl ⟨.slice A 0 c, (by first | rfl | (rw [HZ.out]; rfl)), ?_, ?_⟩
        · rw [HZ.out]; exact (HV.out.take 0 (by omega)).below (by (repeat (first | (with_reducible exact Below.refl _ _) | refine bl_drew ?_ | refine bl_drewN ?_ _ | refine bl_alloc ?_ _ | refine bl_set ?_ (Nat.le_refl _) _ | refine bl_set ?_ (Nat.le_succ _) _)))
        · (repeat (first | (with_reducible exact Below.refl _ _) | refine bl_drew ?_ | refine bl_drewN ?_ _ | refine bl_alloc ?_ _ | refine bl_set ?_ (Nat.le_refl _) _ | refine bl_set ?_ (Nat.le_succ _) _))
    | succ k =>
      obtain ⟨x, hx⟩ : ∃ x, l[k]? = some x := ⟨l[k], List.getElem?_eq_getElem (by omega)⟩
      obtain ⟨g, hA, hc⟩ := (HV.out.below HW.out).cell hx
      subst hA
      have hkI : (k : Int) < l.length := by omega
      have e1 : ((k + 1 : Nat) : Int) = (k : Int) + 1 := by omega
      rw [e1]
      clear e1
      by_cases h0 : x = 0
      · have h0b : (x == 0) = true := by simp [h0]
        have HN := Lib.hid ((trim_zero (by rw [hx, h0])).symm.trans H.out)
        clear hx h0
        go_wp2
        go_round
        case rel => exact ⟨k, by omega, rfl, HN⟩
        case measure => simp [intOf] <;> omega
      · have h0b : (x == 0) = false := by simp [h0]
        have HN := Lib.hid ((trim_stop (by rw [hx]; simp [h0])).symm.trans H.out)
        have hkc : (k : Int) + 1 ≤ c := by omega
        clear hx h0
        cases b
        all_goals
          go_upto_region 4 with (fail)
          go_region
          go_wp2
        · refine bodyPost_ret (v := .agg #[.bool false, .slice (some ⟨g, 0, none⟩) (k + 1) c]) (by simp [results, Tryz.results158, go_sem]) rfl ⟨.slice (some ⟨g, 0, none⟩) (k + 1) c, rfl, ?_, ?_⟩
          · rw [← HN.out]; exact (HV.out.take (k + 1) (by omega)).below (by (repeat (first | (with_reducible exact Below.refl _ _) | refine bl_drew ?_ | refine bl_drewN ?_ _ | refine bl_alloc ?_ _ | refine bl_set ?_ (Nat.le_refl _) _ | refine bl_set ?_ (Nat.le_succ _) _)))
          · (repeat (first | (with_reducible exact Below.refl _ _) | refine bl_drew ?_ | refine bl_drewN ?_ _ | refine bl_alloc ?_ _ | refine bl_set ?_ (Nat.le_refl _) _ | refine bl_set ?_ (Nat.le_succ _) _))
        · refine bodyPost_ret (v := .agg #[.bool true, .slice (some ⟨g, 0, none⟩) (k + 1) c]) (by simp [results, Tryz.results158, go_sem]) rfl ⟨.slice (some ⟨g, 0, none⟩) (k + 1) c, by rw [← HN.out]; simp, ?_, ?_⟩
          · rw [← HN.out]; exact (HV.out.take (k + 1) (by omega)).below (by (repeat (first | (with_reducible exact Below.refl _ _) | refine bl_drew ?_ | refine bl_drewN ?_ _ | refine bl_alloc ?_ _ | refine bl_set ?_ (Nat.le_refl _) _ | refine bl_set ?_ (Nat.le_succ _) _)))
          · (repeat (first | (with_reducible exact Below.refl _ _) | refine bl_drew ?_ | refine bl_drewN ?_ _ | refine bl_alloc ?_ _ | refine bl_set ?_ (Nat.le_refl _) _ | refine bl_set ?_ (Nat.le_succ _) _))

theorem natAbs_mod (z : Int) (h : z ≠ 0) : (z.tmod 10000).natAbs = z.natAbs % 10000 := by
  rcases Int.lt_or_le z 0 with hz | hz
  · obtain ⟨n, rfl⟩ : ∃ n : Nat, z = -(n : Int) := ⟨(-z).toNat, by omega⟩
    rw [Int.neg_tmod, Int.natAbs_neg, Int.natAbs_neg]; rfl
  · obtain ⟨n, rfl⟩ := Int.eq_ofNat_of_zero_le hz
    rfl
end Go.Proofs.YtdlkdecigpaaaaaGreatDoor
namespace Go.Proofs.YtdlkdecigpaaaaaGreatDoor
set_option linter.unusedVariables false
set_option linter.unusedSimpArgs false
open Go.RowKit

/-- The box of a number that is made: its sign, its figures so far. -/
def OfBox (z : Int) (w W : World) (acc : List Int) : Prop :=
  ∃ v, W.heap[w.heap.size]? = some (.cells #[.bool false, .slice none 0 0] 155 (0, 0)) ∧ W.heap[w.heap.size + 1]? = some (.cells #[.bool (decide (z < 0)), v] 155 (0, 0)) ∧ W.ownsRow w.heap.size 3 1 v acc.length (intV acc) ∧ Below w.heap.size w W
def OfSays (z n : Int) (acc : List Int) : Prop :=
  (z.natAbs : Int) = valF acc + 10000 ^ acc.length * n.natAbs ∧ Dig acc ∧ (0 ≤ z ∧ 0 ≤ n ∨ z ≤ 0 ∧ n ≤ 0) ∧ (n = 0 → acc.getLast? ≠ some 0)
theorem ofBox_kept {w W w2 : World} {z : Int} {v : Value} {n : Nat} {xs : List Value} (b1 : W.heap[w.heap.size]? = some (.cells #[.bool false, .slice none 0 0] 155 (0, 0))) (b2 : W.heap[w.heap.size + 1]? = some (.cells #[.bool (decide (z < 0)), v] 155 (0, 0)))
    (ho : W.ownsRow w.heap.size 3 1 v n xs) (hg : W.grownBy w2 v.ownBlock) : w2.heap[w.heap.size]? = some (.cells #[.bool false, .slice none 0 0] 155 (0, 0)) ∧ w2.heap[w.heap.size + 1]? = some (.cells #[.bool (decide (z < 0)), v] 155 (0, 0)) := by
  have hne : ∀ k o d, W.heap[k]? = some (.cells o 155 d) → v.ownBlock ≠ some k := by
    intro k o d hk e
    rcases ho.2 with ⟨hv, _⟩ | ⟨g2, c2, cur2, hv, _, hg2, _⟩
    · rw [hv] at e; simp [Value.ownBlock] at e
    · rw [hv] at e; simp [Value.ownBlock] at e
      rw [e, hk] at hg2
      injection hg2 with hg2; injection hg2 with _ h5; exact absurd h5 (by decide)
  exact ⟨(hg.block _ (hk_lt b1) (hne _ _ _ b1).symm).trans b1, (hg.block _ (hk_lt b2) (hne _ _ _ b2).symm).trans b2⟩
theorem own_noN {W : World} {base k n : Nat} {o : Array Value} {d : Nat × Nat} {v : Value} {xs : List Value} (ho : W.ownsRow base 3 1 v n xs) (hk : W.heap[k]? = some (.cells o 155 d)) : v.ownBlock ≠ some k := by
  intro e
  rcases ho.2 with ⟨hv, _⟩ | ⟨g2, c2, cur2, hv, _, hg2, _⟩
  · rw [hv] at e; simp [Value.ownBlock] at e
  · rw [hv] at e; simp [Value.ownBlock] at e
    rw [e, hk] at hg2
    injection hg2 with hg2; injection hg2 with _ h5; exact absurd h5 (by decide)
theorem ofBox_step {w w2 : World} {z d : Int} {v v' : Value} {acc : List Int} (b1 : w2.heap[w.heap.size]? = some (.cells #[.bool false, .slice none 0 0] 155 (0, 0))) (b2 : w2.heap[w.heap.size + 1]? = some (.cells #[.bool (decide (z < 0)), v] 155 (0, 0)))
    (ho : w2.ownsRow w.heap.size 3 1 v' (acc ++ [d]).length (intV (acc ++ [d]))) (hb : Below w.heap.size w w2) : OfBox z w (w2.setCell ⟨w.heap.size + 1, 1, none⟩ v') (acc ++ [d]) :=
  ⟨v', hk_set b1 (by show w.heap.size ≠ w.heap.size + 1; omega) _, set_to b2 1 v' rfl, own_keeps ho ((Keeps.refl [w.heap.size + 1] _).set (.inl (by simp)) _) (fun b e hm => by simp at hm; subst hm; exact own_noN ho b2 e), bl_set hb (by show _ ≤ w.heap.size + 1; omega) _⟩
theorem ofBox_end {w W : World} {v : Value} {acc : List Int} (b1 : W.heap[w.heap.size]? = some (.cells #[.bool false, .slice none 0 0] 155 (0, 0))) (ho : W.ownsRow w.heap.size 3 1 v acc.length (intV acc)) (hb : Below w.heap.size w W) (x y : Value) :
    RdI ((W.setCell ⟨w.heap.size, 0, none⟩ x).setCell ⟨w.heap.size, 1, none⟩ y) v acc ∧ Below w.heap.size w ((W.setCell ⟨w.heap.size, 0, none⟩ x).setCell ⟨w.heap.size, 1, none⟩ y) :=
  ⟨.of_own (own_keeps ho (((Keeps.refl [w.heap.size] _).set (.inl (by simp)) _).set (.inl (by simp)) _) (fun b e hm => by simp at hm; subst hm; exact own_noN ho b1 e)), bl_set (bl_set hb (Nat.le_refl _) _) (Nat.le_refl _) _⟩
theorem ofSays_end {z n : Int} {acc : List Int} (h : OfSays z n acc) (hn : n = 0) : Can acc := ⟨h.2.1, h.2.2.2 hn⟩
theorem ofSays_val {z n : Int} {acc : List Int} (h : OfSays z n acc) (hn : n = 0) : valF acc = z.natAbs := by have := h.1; rw [hn] at this; simp at this; omega
theorem tmod_neg {n : Int} (h : n < 0) : n.tmod 10000 = -(-n % 10000) := by
  have := Int.neg_tmod (-n) 10000
  rw [Int.neg_neg] at this
  rw [this, Int.tmod_eq_emod_of_nonneg (by omega)]
theorem tdiv_neg {n : Int} (h : n < 0) : n.tdiv 10000 = -(-n / 10000) := by
  have := Int.neg_tdiv (-n) 10000
  rw [Int.neg_neg] at this
  rw [this, Int.tdiv_eq_ediv_of_nonneg (by omega)]
theorem tdiv_abs (n : Int) : (n.tdiv 10000).natAbs = n.natAbs / 10000 := by rw [Int.natAbs_tdiv]; rfl
theorem tdiv_abs2 (n : Int) (h : 0 ≤ n := by omega) : (n / 10000).natAbs = n.natAbs / 10000 := by omega
theorem tdiv_dec (n : Int) (h : n ≠ 0) : (n.tdiv 10000).natAbs < n.natAbs := by rw [tdiv_abs]; omega
theorem ofSays_len {z n : Int} {acc : List Int} (h : OfSays z n acc) (hn : n ≠ 0) (hz : z.natAbs ≤ 9223372036854775808) : acc.length ≤ 4 := by
  obtain ⟨h1, h2, _⟩ := h
  have h0 := valF_nonneg h2
  have hp := pow_pos' acc.length
  have hm : (10000 : Int) ^ acc.length * 1 ≤ 10000 ^ acc.length * n.natAbs := Int.mul_le_mul_of_nonneg_left (by omega) (by omega)
  by_cases hl : acc.length ≤ 4
  · exact hl
  · have h5 : (10000 : Int) ^ 5 ≤ 10000 ^ acc.length := by
      have : acc.length = 5 + (acc.length - 5) := by omega
      rw [this, Int.pow_add]
      have := pow_pos' (acc.length - 5)
      have h6 : (10000 : Int) ^ 5 * 1 ≤ 10000 ^ 5 * 10000 ^ (acc.length - 5) := Int.mul_le_mul_of_nonneg_left (by omega) (by decide)
      omega
    have : (10000 : Int) ^ 5 = 100000000000000000000 := by decide
    omega
theorem ofSays_step {z n d q : Int} {acc : List Int} (h : OfSays z n acc) (hn : n ≠ 0) (hd : d = n.natAbs % 10000) (hq : q = if 0 ≤ n then (n.natAbs / 10000 : Int) else -(n.natAbs / 10000 : Int)) : OfSays z q (acc ++ [d]) := by
  obtain ⟨h1, h2, h3, h4⟩ := h
  have hqa : (q.natAbs : Int) = n.natAbs / 10000 := by rw [hq]; split <;> omega
  refine ⟨?_, h2.app (Dig.one (by omega)), ?_, ?_⟩
  · rw [valF_app, List.length_append, List.length_singleton, Int.pow_succ, h1, hqa]
    simp only [valF, Int.mul_zero, Int.add_zero]
    rw [Int.mul_assoc, Int.add_assoc, ← Int.mul_add]
    congr 2
    omega
  · rw [hq]; split <;> omega
  · intro hq0
    rw [List.getLast?_concat]
    intro e; simp at e
    rw [hq] at hq0
    split at hq0 <;> omega
set_option maxRecDepth 20000 in
set_option maxHeartbeats 4000000 in
theorem of_any (z : Int) (w : World) (h1 : -9223372036854775808 ≤ z) (h2 : z ≤ 9223372036854775807) :
    Calls Tryz.prog 100 #[.int .i64 z] w fun e w' => ∃ f l, e = .returned (.agg #[.bool (decide (z < 0)), f]) ∧ RdI w' f l ∧ Can l ∧ valF l = z.natAbs ∧ l.length ≤ 5 ∧ Below w.heap.size w w' := by
  go_enter Tryz.func100, Tryz.ntmps100
  go_wp2
  have HB0 : Hid (OfBox z w ((w.alloc (.cells #[.bool false, .slice none 0 0] 155)).alloc (.cells #[.bool (decide (z < 0)), .slice none 0 0] 155)) []) := Lib.hid ⟨.slice none 0 0, hk_alloc (new_blk _ _) _, by have := new_blk (w.alloc (.cells #[.bool false, .slice none 0 0] 155)) (.cells #[.bool (decide (z < 0)), .slice none 0 0] 155); rw [World.size_alloc] at this; exact this, World.ownsRow_nil _ _ _ _, by (repeat (first | (with_reducible exact Below.refl _ _) | refine bl_drew ?_ | refine bl_drewN ?_ _ | refine bl_alloc ?_ _ | refine bl_set ?_ (Nat.le_refl _) _ | refine bl_set ?_ (Nat.le_succ _) _))⟩
  go_loopw [0] (fun t W => ∃ (n : Int) (acc : List Int), t = .int .i64 n ∧ n.natAbs ≤ z.natAbs ∧ acc.length ≤ 5 ∧ Hid (OfSays z n acc ∧ OfBox z w W acc)) (fun t _ => (intOf t).natAbs)
  case atStart => exact ⟨z, [], rfl, Nat.le_refl _, by simp, Lib.hid ⟨⟨by simp [valF], by simp [Dig], by omega, by simp⟩, HB0.out⟩⟩
  case round =>
    obtain ⟨n, acc, rfl, hnz, hacc, H⟩ := hrel
    have hsg := H.out.1.2.2.1
    have hn1 : -9223372036854775808 ≤ n := by omega
    have hn2 : n ≤ 9223372036854775807 := by omega
    clear hsg
    obtain ⟨v, b1, b2, ho, hbw⟩ := H.out.2
    obtain ⟨A, cap, rfl⟩ := own_slice ho
    have c2 := cell_blk b2
    have f2 := frozen_blk b2
    have c1 := cell_blk b1
    have f1 := frozen_blk b1
    have HBx := Lib.hid (And.intro b1 (And.intro b2 (And.intro ho hbw)))
    clear b1 b2 ho hbw
    by_cases hn : n = 0
    · have hnb : (n != 0) = false := by simp [hn]
      have HS := Lib.hid H.out.1
      have HN := Lib.hid hn
      clear hn hnz
      go_wp2
      have cr := cell_blk (set_to (set_to HBx.out.1 0 (.bool (decide (z < 0))) rfl) 1 (.slice A acc.length cap) rfl)
      refine bodyPost_ret (v := .agg #[.bool (decide (z < 0)), .slice A acc.length cap]) (by simp [results, Tryz.results100, go_sem, cr]) rfl ⟨.slice A acc.length cap, acc, rfl, (ofBox_end HBx.out.1 HBx.out.2.2.1 HBx.out.2.2.2 _ _).1, ofSays_end HS.out HN.out, ofSays_val HS.out HN.out, hacc, (ofBox_end HBx.out.1 HBx.out.2.2.1 HBx.out.2.2.2 _ _).2⟩
    · have hnb : (n != 0) = true := by simp [hn]
      have HN0 := Lib.hid hn
      have HZ := Lib.hid (And.intro hnz (And.intro h1 h2))
      have hl4 : acc.length ≤ 4 := ofSays_len H.out.1 hn (by omega)
      clear hn hnz h1 h2
      by_cases hs : 0 ≤ n
      · clear c2 f2 c1 f1
        have c2 := cell_blk HBx.out.2.1
        go_wp2_with (at_builtin; (with_reducible refine app_one rfl _ _ 153 rfl Tryz.underlying153 info_i rfl w.heap.size _ (intV acc) _ ?_ ?_ rfl (by rw [List.length_map]; exact HBx.out.2.2.1) HBx.out.2.2.2.size ?_ ?_ ?_); all_goals first | rfl | (rw [List.length_map]; omega) | skip)
        (rintro v' w2 ho hg g5 cap5 rfl
         have HD : Hid ((n % 10000 : Int) = n.natAbs % 10000) := Lib.hid (by omega)
         have HN := Lib.hid (And.intro ho hg)
         obtain ⟨b1, b2⟩ := ofBox_kept HBx.out.1 HBx.out.2.1 HBx.out.2.2.1 hg
         have c2 := cell_blk b2
         have f2 := frozen_blk b2
         have HM := Lib.hid (And.intro b1 b2)
         clear ho hg b1 b2
         go_wp2
         go_roundw
         case rel => exact ⟨n / 10000, acc ++ [n % 10000], rfl, by (have := HZ.out.1); (have := tdiv_abs n); omega, by simp; omega, Lib.hid ⟨ofSays_step H.out.1 HN0.out HD.out (by rw [if_pos (by omega)]; omega), ofBox_step HM.out.1 HM.out.2 (by have := HN.out.1; rw [intV_snoc] at this; rw [List.length_append]; exact this) (below_grown HBx.out.2.2.2 HN.out.2 HBx.out.2.2.1)⟩⟩
         case measure => (have := tdiv_abs n); (have := HN0.out); (have hms := tdiv_dec n this); first | exact hms | (simp only [intOf]; show (n / 10000).natAbs < n.natAbs; omega))
      · have hs' : n < 0 := by omega
        clear hs
        go_wp2_with (at_builtin; (with_reducible refine app_one rfl _ _ 153 rfl Tryz.underlying153 info_i rfl w.heap.size _ (intV acc) _ ?_ ?_ rfl (by rw [List.length_map]; exact HBx.out.2.2.1) HBx.out.2.2.2.size ?_ ?_ ?_); all_goals first | rfl | (rw [List.length_map]; omega) | skip)
        all_goals first
        | (rintro v' w2 ho hg g5 cap5 rfl
           have HD : Hid ((n.tmod 10000 : Int) = n.natAbs % 10000) := Lib.hid (by have ht := tmod_neg hs'; unfold wrap64 at *; omega)
           have HN := Lib.hid (And.intro ho hg)
           obtain ⟨b1, b2⟩ := ofBox_kept HBx.out.1 HBx.out.2.1 HBx.out.2.2.1 hg
           have c2 := cell_blk b2
           have f2 := frozen_blk b2
           have HM := Lib.hid (And.intro b1 b2)
           clear ho hg b1 b2
           go_wp2
           go_roundw
           case rel => exact ⟨n.tdiv 10000, acc ++ [n.tmod 10000], rfl, by (have := HZ.out.1); (have := tdiv_abs n); omega, by simp; omega, Lib.hid ⟨ofSays_step H.out.1 HN0.out HD.out (by have := tdiv_neg hs'; rw [if_neg (by omega)]; omega), ofBox_step HM.out.1 HM.out.2 (by have := HN.out.1; rw [intV_snoc] at this; rw [List.length_append]; exact this) (below_grown HBx.out.2.2.2 HN.out.2 HBx.out.2.2.1)⟩⟩
           case measure => (have := tdiv_abs n); (have := HN0.out); (have hms := tdiv_dec n this); first | exact hms | (simp only [intOf]; show (n / 10000).natAbs < n.natAbs; omega))
        | (rintro v' w2 ho hg g5 cap5 rfl
           have HD : Hid ((wrap64 (-n.tmod 10000) : Int) = n.natAbs % 10000) := Lib.hid (by have ht := tmod_neg hs'; unfold wrap64 at *; omega)
           have HN := Lib.hid (And.intro ho hg)
           obtain ⟨b1, b2⟩ := ofBox_kept HBx.out.1 HBx.out.2.1 HBx.out.2.2.1 hg
           have c2 := cell_blk b2
           have f2 := frozen_blk b2
           have HM := Lib.hid (And.intro b1 b2)
           clear ho hg b1 b2
           go_wp2
           go_roundw
           case rel => exact ⟨n.tdiv 10000, acc ++ [wrap64 (-n.tmod 10000)], rfl, by (have := HZ.out.1); (have := tdiv_abs n); omega, by simp; omega, Lib.hid ⟨ofSays_step H.out.1 HN0.out HD.out (by have := tdiv_neg hs'; rw [if_neg (by omega)]; omega), ofBox_step HM.out.1 HM.out.2 (by have := HN.out.1; rw [intV_snoc] at this; rw [List.length_append]; exact this) (below_grown HBx.out.2.2.2 HN.out.2 HBx.out.2.2.1)⟩⟩
           case measure => (have := tdiv_abs n); (have := HN0.out); (have hms := tdiv_dec n this); first | exact hms | (simp only [intOf]; show (n / 10000).natAbs < n.natAbs; omega))
end Go.Proofs.YtdlkdecigpaaaaaGreatDoor
