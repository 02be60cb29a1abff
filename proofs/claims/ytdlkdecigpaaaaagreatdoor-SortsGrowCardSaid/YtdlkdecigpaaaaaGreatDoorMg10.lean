/- Put together: The document's Of: an integer's figures; The document's numbers: Add, Neg. -/
import Derived.Test.YtdlkdecigpaaaaaGreatDoorMg7
import Derived.Deep.RegionHeld3
namespace Go.Proofs.YtdlkdecigpaaaaaGreatDoor
set_option linter.unusedVariables false
set_option linter.unusedSimpArgs false
open Go.RowKit

/-- The box of a number that is made: its sign, its figures so far. -/
def OfBox (z : Int) (w W : World) (acc : List Int) : Prop :=
  ∃ v, W.heap[w.heap.size]? = some (.cells #[.bool false, .slice none 0 0] 155 (0, 0)) ∧ W.heap[w.heap.size + 1]? = some (.cells #[.bool (decide (z < 0)), v] 155 (0, 0)) ∧ W.ownsRow w.heap.size 3 1 v acc.length (intV acc) ∧ Below w.heap.size w W
def OfSays (z n : Int) (acc : List Int) : Prop :=
  (z.natAbs : Int) = valF acc + 10000 ^ acc.length * n.natAbs ∧ Dig acc ∧ (0 ≤ z ∧ 0 ≤ n ∨ z ≤ 0 ∧ n ≤ 0) ∧ (n = 0 → acc.getLast? ≠ some 0)
theorem ofBox_kept {w W w2 : World} {z : Int} {v : Value} {n : Nat} {xs : List Value} (b1 : W.heap[w.heap.size]? = some (.cells #[.bool false, .slice none 0 0] 155 (0, 0))) (b2 : W.heap[w.heap.size + 1]? = some (.cells #[.bool (decide (z < 0)), v] 155 (0, 0)))
    (ho : W.ownsRow w.heap.size 3 1 v n xs) (hg : W.grownBy w2 v.ownBlock) : w2.heap[w.heap.size]? = some (.cells #[.bool false, .slice none 0 0] 155 (0, 0)) ∧ w2.heap[w.heap.size + 1]? = some (.cells #[.bool (decide (z < 0)), v] 155 (0, 0)) := by
  have hne : ∀ k o d, W.heap[k]? = some (.cells o 155 d) → v.ownBlock ≠ some k := by
    intro k o d hk e
    rcases ho.2 with ⟨hv, _⟩ | ⟨g2, c2, cur2, hv, _, hg2, _⟩
    · rw [hv] at e; simp [Value.ownBlock] at e
    · rw [hv] at e; simp [Value.ownBlock] at e
      rw [e, hk] at hg2
      injection hg2 with hg2; injection hg2 with _ h5; exact absurd h5 (by decide)
  exact ⟨(hg.block _ (hk_lt b1) (hne _ _ _ b1).symm).trans b1, (hg.block _ (hk_lt b2) (hne _ _ _ b2).symm).trans b2⟩
theorem own_noN {W : World} {base k n : Nat} {o : Array Value} {d : Nat × Nat} {v : Value} {xs : List Value} (ho : W.ownsRow base 3 1 v n xs) (hk : W.heap[k]? = some (.cells o 155 d)) : v.ownBlock ≠ some k := by
  intro e
  rcases ho.2 with ⟨hv, _⟩ | ⟨g2, c2, cur2, hv, _, hg2, _⟩
  · rw [hv] at e; simp [Value.ownBlock] at e
  · rw [hv] at e; simp [Value.ownBlock] at e
    rw [e, hk] at hg2
    injection hg2 with hg2; injection hg2 with _ h5; exact absurd h5 (by decide)
theorem ofBox_step {w w2 : World} {z d : Int} {v v' : Value} {acc : List Int} (b1 : w2.heap[w.heap.size]? = some (.cells #[.bool false, .slice none 0 0] 155 (0, 0))) (b2 : w2.heap[w.heap.size + 1]? = some (.cells #[.bool (decide (z < 0)), v] 155 (0, 0)))
    (ho : w2.ownsRow w.heap.size 3 1 v' (acc ++ [d]).length (intV (acc ++ [d]))) (hb : Below w.heap.size w w2) : OfBox z w (w2.setCell ⟨w.heap.size + 1, 1, none⟩ v') (acc ++ [d]) :=
  ⟨v', hk_set b1 (by show w.heap.size ≠ w.heap.size + 1; omega) _, set_to b2 1 v' rfl, own_keeps ho ((Keeps.refl [w.heap.size + 1] _).set (.inl (by simp)) _) (fun b e hm => by simp at hm; subst hm; exact own_noN ho b2 e), bl_set hb (by show _ ≤ w.heap.size + 1; omega) _⟩
theorem ofBox_end {w W : World} {v : Value} {acc : List Int} (b1 : W.heap[w.heap.size]? = some (.cells #[.bool false, .slice none 0 0] 155 (0, 0))) (ho : W.ownsRow w.heap.size 3 1 v acc.length (intV acc)) (hb : Below w.heap.size w W) (x y : Value) :
    RdI ((W.setCell ⟨w.heap.size, 0, none⟩ x).setCell ⟨w.heap.size, 1, none⟩ y) v acc ∧ Below w.heap.size w ((W.setCell ⟨w.heap.size, 0, none⟩ x).setCell ⟨w.heap.size, 1, none⟩ y) :=
  ⟨.of_own (own_keeps ho (((Keeps.refl [w.heap.size] _).set (.inl (by simp)) _).set (.inl (by simp)) _) (fun b e hm => by simp at hm; subst hm; exact own_noN ho b1 e)), bl_set (bl_set hb (Nat.le_refl _) _) (Nat.le_refl _) _⟩
theorem ofSays_end {z n : Int} {acc : List Int} (h : OfSays z n acc) (hn : n = 0) : Can acc := ⟨h.2.1, h.2.2.2 hn⟩
theorem ofSays_val {z n : Int} {acc : List Int} (h : OfSays z n acc) (hn : n = 0) : valF acc = z.natAbs := by have := h.1; rw [hn] at this; simp at this; omega
theorem tmod_neg {n : Int} (h : n < 0) : n.tmod 10000 = -(-n % 10000) := by
  have := Int.neg_tmod (-n) 10000
  rw [Int.neg_neg] at this
  rw [this, Int.tmod_eq_emod_of_nonneg (by omega)]
theorem tdiv_neg {n : Int} (h : n < 0) : n.tdiv 10000 = -(-n / 10000) := by
  have := Int.neg_tdiv (-n) 10000
  rw [Int.neg_neg] at this
  rw [this, Int.tdiv_eq_ediv_of_nonneg (by omega)]
theorem tdiv_abs (n : Int) : (n.tdiv 10000).natAbs = n.natAbs / 10000 := by rw [Int.natAbs_tdiv]; rfl
theorem tdiv_abs2 (n : Int) (h : 0 ≤ n := by omega) : (n / 10000).natAbs = n.natAbs / 10000 := by omega
theorem tdiv_dec (n : Int) (h : n ≠ 0) : (n.tdiv 10000).natAbs < n.natAbs := by rw [tdiv_abs]; omega
theorem ofSays_len {z n : Int} {acc : List Int} (h : OfSays z n acc) (hn : n ≠ 0) (hz : z.natAbs ≤ 9223372036854775808) : acc.length ≤ 4 := by
  obtain ⟨h1, h2, _⟩ := h
  have h0 := valF_nonneg h2
  have hp := pow_pos' acc.length
  have hm : (10000 : Int) ^ acc.length * 1 ≤ 10000 ^ acc.length * n.natAbs := Int.mul_le_mul_of_nonneg_left (by omega) (by omega)
  by_cases hl : acc.length ≤ 4
  · exact hl
  · have h5 : (10000 : Int) ^ 5 ≤ 10000 ^ acc.length := by
      have : acc.length = 5 + (acc.length - 5) := by omega
      rw [this, Int.pow_add]
      have := pow_pos' (acc.length - 5)
      have h6 : (10000 : Int) ^ 5 * 1 ≤ 10000 ^ 5 * 10000 ^ (acc.length - 5) := Int.mul_le_mul_of_nonneg_left (by omega) (by decide)
      omega
    have : (10000 : Int) ^ 5 = 100000000000000000000 := by decide
    omega
theorem ofSays_step {z n d q : Int} {acc : List Int} (h : OfSays z n acc) (hn : n ≠ 0) (hd : d = n.natAbs % 10000) (hq : q = if 0 ≤ n then (n.natAbs / 10000 : Int) else -(n.natAbs / 10000 : Int)) : OfSays z q (acc ++ [d]) := by
  obtain ⟨h1, h2, h3, h4⟩ := h
  have hqa : (q.natAbs : Int) = n.natAbs / 10000 := by rw [hq]; split <;> omega
  refine ⟨?_, h2.app (Dig.one (by omega)), ?_, ?_⟩
  · rw [valF_app, List.length_append, List.length_singleton, Int.pow_succ, h1, hqa]
    simp only [valF, Int.mul_zero, Int.add_zero]
    rw [Int.mul_assoc, Int.add_assoc, ← Int.mul_add]
    congr 2
    omega
  · rw [hq]; split <;> omega
  · intro hq0
    rw [List.getLast?_concat]
    intro e; simp at e
    rw [hq] at hq0
    split at hq0 <;> omega
set_option maxRecDepth 20000 in
set_option maxHeartbeats 4000000 in
theorem of_any (z : Int) (w : World) (h1 : -9223372036854775808 ≤ z) (h2 : z ≤ 9223372036854775807) :
    Calls Tryz.prog 100 #[.int .i64 z] w fun e w' => ∃ f l, e = .returned (.agg #[.bool (decide (z < 0)), f]) ∧ RdI w' f l ∧ Can l ∧ valF l = z.natAbs ∧ l.length ≤ 5 ∧ Below w.heap.size w w' := by
  go_enter Tryz.func100, Tryz.ntmps100
  go_wp2
  have HB0 : Hid (OfBox z w ((w.alloc (.cells #[.bool false, .slice none 0 0] 155)).alloc (.cells #[.bool (decide (z < 0)), .slice none 0 0] 155)) []) := Lib.hid ⟨.slice none 0 0, hk_alloc (new_blk _ _) _, by have := new_blk (w.alloc (.cells #[.bool false, .slice none 0 0] 155)) (.cells #[.bool (decide (z < 0)), .slice none 0 0] 155); rw [World.size_alloc] at this; exact this, World.ownsRow_nil _ _ _ _, by (repeat (first | (with_reducible exact Below.refl _ _) | refine bl_drew ?_ | refine bl_drewN ?_ _ | refine bl_alloc ?_ _ | refine bl_set ?_ (Nat.le_refl _) _ | refine bl_set ?_ (Nat.le_succ _) _))⟩
  go_loopw [0] (fun t W => ∃ (n : Int) (acc : List Int), t = .int .i64 n ∧ n.natAbs ≤ z.natAbs ∧ acc.length ≤ 5 ∧ Hid (OfSays z n acc ∧ OfBox z w W acc)) (fun t _ => (intOf t).natAbs)
  case atStart => exact ⟨z, [], rfl, Nat.le_refl _, by simp, Lib.hid ⟨⟨by simp [valF], by simp [Dig], by omega, by simp⟩, HB0.out⟩⟩
  case round =>
    obtain ⟨n, acc, rfl, hnz, hacc, H⟩ := hrel
    have hsg := H.out.1.2.2.1
    have hn1 : -9223372036854775808 ≤ n := by omega
    have hn2 : n ≤ 9223372036854775807 := by omega
    clear hsg
    obtain ⟨v, b1, b2, ho, hbw⟩ := H.out.2
    obtain ⟨A, cap, rfl⟩ := own_slice ho
    have c2 := cell_blk b2
    have f2 := frozen_blk b2
    have c1 := cell_blk b1
    have f1 := frozen_blk b1
    have HBx := Lib.hid (And.intro b1 (And.intro b2 (And.intro ho hbw)))
    clear b1 b2 ho hbw
    by_cases hn : n = 0
    · have hnb : (n != 0) = false := by simp [hn]
      have HS := Lib.hid H.out.1
      have HN := Lib.hid hn
      clear hn hnz
      go_wp2
      have cr := cell_blk (set_to (set_to HBx.out.1 0 (.bool (decide (z < 0))) rfl) 1 (.slice A acc.length cap) rfl)
      refine bodyPost_ret (v := .agg #[.bool (decide (z < 0)), .slice A acc.length cap]) (by simp [results, Tryz.results100, go_sem, cr]) rfl ⟨.slice A acc.length cap, acc, rfl, (ofBox_end HBx.out.1 HBx.out.2.2.1 HBx.out.2.2.2 _ _).1, ofSays_end HS.out HN.out, ofSays_val HS.out HN.out, hacc, (ofBox_end HBx.out.1 HBx.out.2.2.1 HBx.out.2.2.2 _ _).2⟩
    · have hnb : (n != 0) = true := by simp [hn]
      have HN0 := Lib.hid hn
      have HZ := Lib.hid (And.intro hnz (And.intro h1 h2))
      have hl4 : acc.length ≤ 4 := ofSays_len H.out.1 hn (by omega)
      clear hn hnz h1 h2
      by_cases hs : 0 ≤ n
      · clear c2 f2 c1 f1
        have c2 := cell_blk HBx.out.2.1
        go_wp2_with (at_builtin; (with_reducible refine app_one rfl _ _ 153 rfl Tryz.underlying153 info_i rfl w.heap.size _ (intV acc) _ ?_ ?_ rfl (by rw [List.length_map]; exact HBx.out.2.2.1) HBx.out.2.2.2.size ?_ ?_ ?_); all_goals first | rfl | (rw [List.length_map]; omega) | skip)
        (rintro v' w2 ho hg g5 cap5 rfl
         have HD : Hid ((n % 10000 : Int) = n.natAbs % 10000) := Lib.hid (by omega)
         have HN := Lib.hid (And.intro ho hg)
         obtain ⟨b1, b2⟩ := ofBox_kept HBx.out.1 HBx.out.2.1 HBx.out.2.2.1 hg
         have c2 := cell_blk b2
         have f2 := frozen_blk b2
         have HM := Lib.hid (And.intro b1 b2)
         clear ho hg b1 b2
         go_wp2
         go_roundw
         case rel => exact ⟨n / 10000, acc ++ [n % 10000], rfl, by (have := HZ.out.1); (have := tdiv_abs n); omega, by simp; omega, Lib.hid ⟨ofSays_step H.out.1 HN0.out HD.out (by rw [if_pos (by omega)]; omega), ofBox_step HM.out.1 HM.out.2 (by have := HN.out.1; rw [intV_snoc] at this; rw [List.length_append]; exact this) (below_grown HBx.out.2.2.2 HN.out.2 HBx.out.2.2.1)⟩⟩
         case measure => (have := tdiv_abs n); (have := HN0.out); (have hms := tdiv_dec n this); first | exact hms | (simp only [intOf]; show (n / 10000).natAbs < n.natAbs; omega))
      · have hs' : n < 0 := by omega
        clear hs
        go_wp2_with (at_builtin; (with_reducible refine app_one rfl _ _ 153 rfl Tryz.underlying153 info_i rfl w.heap.size _ (intV acc) _ ?_ ?_ rfl (by rw [List.length_map]; exact HBx.out.2.2.1) HBx.out.2.2.2.size ?_ ?_ ?_); all_goals first | rfl | (rw [List.length_map]; omega) | skip)
        all_goals first
        | (rintro v' w2 ho hg g5 cap5 rfl
           have HD : Hid ((n.tmod 10000 : Int) = n.natAbs % 10000) := Lib.hid (by have ht := tmod_neg hs'; unfold wrap64 at *; omega)
           have HN := Lib.hid (And.intro ho hg)
           obtain ⟨b1, b2⟩ := ofBox_kept HBx.out.1 HBx.out.2.1 HBx.out.2.2.1 hg
           have c2 := cell_blk b2
           have f2 := frozen_blk b2
           have HM := Lib.hid (And.intro b1 b2)
           clear ho hg b1 b2
           go_wp2
           go_roundw
           case rel => exact ⟨n.tdiv 10000, acc ++ [n.tmod 10000], rfl, by (have := HZ.out.1); (have := tdiv_abs n); omega, by simp; omega, Lib.hid ⟨ofSays_step H.out.1 HN0.out HD.out (by have := tdiv_neg hs'; rw [if_neg (by omega)]; omega), ofBox_step HM.out.1 HM.out.2 (by have := HN.out.1; rw [intV_snoc] at this; rw [List.length_append]; exact this) (below_grown HBx.out.2.2.2 HN.out.2 HBx.out.2.2.1)⟩⟩
           case measure => (have := tdiv_abs n); (have := HN0.out); (have hms := tdiv_dec n this); first | exact hms | (simp only [intOf]; show (n / 10000).natAbs < n.natAbs; omega))
        | (rintro v' w2 ho hg g5 cap5 rfl
           have HD : Hid ((wrap64 (-n.tmod 10000) : Int) = n.natAbs % 10000) := Lib.hid (by have ht := tmod_neg hs'; unfold wrap64 at *; omega)
           have HN := Lib.hid (And.intro ho hg)
           obtain ⟨b1, b2⟩ := ofBox_kept HBx.out.1 HBx.out.2.1 HBx.out.2.2.1 hg
           have c2 := cell_blk b2
           have f2 := frozen_blk b2
           have HM := Lib.hid (And.intro b1 b2)
           clear ho hg b1 b2
           go_wp2
           go_roundw
           case rel => exact ⟨n.tdiv 10000, acc ++ [wrap64 (-n.tmod 10000)], rfl, by (have := HZ.out.1); (have := tdiv_abs n); omega, by simp; omega, Lib.hid ⟨ofSays_step H.out.1 HN0.out HD.out (by have := tdiv_neg hs'; rw [if_neg (by omega)]; omega), ofBox_step HM.out.1 HM.out.2 (by have := HN.out.1; rw [intV_snoc] at this; rw [List.length_append]; exact this) (below_grown HBx.out.2.2.2 HN.out.2 HBx.out.2.2.1)⟩⟩
           case measure => (have := tdiv_abs n); (have := HN0.out); (have hms := tdiv_dec n this); first | exact hms | (simp only [intOf]; show (n / 10000).natAbs < n.natAbs; omega))
end Go.Proofs.YtdlkdecigpaaaaaGreatDoor
namespace Go.Proofs.YtdlkdecigpaaaaaGreatDoor
set_option linter.unusedVariables false
set_option linter.unusedSimpArgs false
open Go.RowKit

/-- A value is the document's number of an integer. -/
def NumV (w : World) (v : Value) (z : Int) : Prop := ∃ f l, v = .agg #[.bool (decide (z < 0)), f] ∧ RdI w f l ∧ Can l ∧ valF l = z.natAbs
theorem NumV.below {w w1 : World} {v : Value} {z : Int} (h : NumV w v z) (hb : Below w.heap.size w w1) : NumV w1 v z := by
  obtain ⟨f, l, hv, hr, hc⟩ := h; exact ⟨f, l, hv, hr.below hb, hc⟩
theorem bl_undrew {w w1 : World} (h : Below w.drew.heap.size w.drew w1) : Below w.heap.size w w1 := ⟨h.os, h.tape, h.output, h.size, h.block⟩
theorem cset2 {w : World} {g k i a b : Nat} {x y : Value} {r : Option Value} (hne : g ≠ k) (h : w.cell? ⟨g, i, none⟩ = r) : ((w.setCell ⟨k, a, none⟩ x).setCell ⟨k, b, none⟩ y).cell? ⟨g, i, none⟩ = r := by
  rw [← h]
  show (match ((w.setCell ⟨k, a, none⟩ x).setCell ⟨k, b, none⟩ y).heap[g]? with | some (.cells cs _ _) => _ | _ => _) = _
  rw [Below.heap_setCell _ _ _ _ hne, Below.heap_setCell _ _ _ _ hne]; rfl
theorem num_cells {w : World} {k : Nat} {cs : Array Value} {a b : Nat} {x y v : Value} {l : List Int} (h : RdI w v l) (hk : w.heap[k]? = some (.cells cs 155 (0, 0))) {bb : Bool} (h0 : cs[0]? = some (.bool bb) := by rfl) : RdI ((w.setCell ⟨k, a, none⟩ x).setCell ⟨k, b, none⟩ y) v l := by
  obtain ⟨A, c, rfl, hc, hm, hr⟩ := h
  refine ⟨A, c, rfl, hc, hm, fun j x hx => ?_⟩
  obtain ⟨g, hA, hcell⟩ := hr j x hx
  refine ⟨g, hA, cset2 (fun e => ?_) hcell⟩
  subst e
  have hj := (List.getElem?_eq_some_iff.1 hx).1
  obtain ⟨g2, hA2, hc2⟩ := hr 0 l[0] (List.getElem?_eq_getElem (by omega))
  rw [hA] at hA2
  injection hA2 with hA2; injection hA2 with hA2 _ _
  rw [← hA2, cell_blk hk, h0] at hc2
  injection hc2 with hc2; cases hc2
theorem can_len {l : List Int} {k : Nat} (h : Can l) (hv : valF l < 10000 ^ k) : l.length ≤ k := by
  by_cases hl : l.length ≤ k
  · exact hl
  · have h1 := valF_ge h (by intro e; rw [e] at hl; simp at hl)
    have : (10000 : Int) ^ k ≤ 10000 ^ (l.length - 1) := by
      have e : l.length - 1 = k + (l.length - 1 - k) := by omega
      rw [e, Int.pow_add]
      have h4 := pow_pos' k
      have h5 := pow_pos' (l.length - 1 - k)
      have h6 : (10000 : Int) ^ k * 1 ≤ 10000 ^ k * 10000 ^ (l.length - 1 - k) := Int.mul_le_mul_of_nonneg_left (by omega) (by omega)
      omega
    omega
theorem dig_len_can {l : List Int} (hd : Dig l) : Can (l.take (trimF l l.length)) ∧ valF (l.take (trimF l l.length)) = valF l := by
  have h1 := trim_can hd l.length (Nat.le_refl _)
  have h2 := trim_val l l.length (Nat.le_refl _)
  rw [List.take_of_length_le (Nat.le_refl l.length)] at h2
  exact ⟨h1, h2⟩
/-- What clean makes of figures. -/
theorem clean_num {l : List Int} {b : Bool} {z : Int} {w : World} {f : Value} (hd : Dig l) (hv : valF l = z.natAbs) (hb : z ≠ 0 → b = decide (z < 0)) (hf : RdI w f (l.take (trimF l l.length))) :
    NumV w (.agg #[.bool (b && decide (0 < trimF l l.length)), f]) z := by
  obtain ⟨h1, h2⟩ := dig_len_can hd
  refine ⟨f, _, ?_, hf, h1, by rw [h2, hv]⟩
  by_cases hz : z = 0
  · subst hz
    have h0 : valF (l.take (trimF l l.length)) = 0 := by rw [h2, hv]; rfl
    have : trimF l l.length = 0 := by
      by_cases e : trimF l l.length = 0
      · exact e
      · have := valF_pos h1 (by intro e2; have := congrArg List.length e2; rw [List.length_take, List.length_nil] at this; have := trim_le l l.length; omega)
        omega
    rw [this]; simp
  · rw [hb hz]
    have : 0 < trimF l l.length := by
      by_cases e : trimF l l.length = 0
      · rw [e] at h2; simp [valF] at h2; omega
      · omega
    simp [this]
section
variable {a b : List Int} {x y : Int}
theorem num_same (ha : Can a) (hb : Can b) (hx : valF a = x.natAbs) (hy : valF b = y.natAbs) (h : decide (x < 0) = decide (y < 0)) : valF (bothL 1 a b) = (x + y).natAbs := by
  rw [bothL_add ha.1 hb.1, hx, hy]
  simp only [decide_eq_decide] at h; omega
theorem num_less (ha : Can a) (hb : Can b) (hx : valF a = x.natAbs) (hy : valF b = y.natAbs) (h : decide (x < 0) ≠ decide (y < 0)) (hl : lessL a b = true) : valF (bothL (-1) b a) = (x + y).natAbs ∧ decide (y < 0) = decide (x + y < 0) := by
  rw [lessL_val ha hb, hx, hy] at hl
  simp only [decide_eq_true_eq] at hl
  rw [bothL_sub hb.1 ha.1 (by omega), hx, hy]
  rw [ne_eq, decide_eq_decide] at h
  rw [decide_eq_decide]
  omega
theorem num_more (ha : Can a) (hb : Can b) (hx : valF a = x.natAbs) (hy : valF b = y.natAbs) (h : decide (x < 0) ≠ decide (y < 0)) (hl : lessL a b = false) : valF (bothL (-1) a b) = (x + y).natAbs ∧ (x + y ≠ 0 → decide (x < 0) = decide (x + y < 0)) := by
  rw [lessL_val ha hb, hx, hy] at hl
  simp only [decide_eq_false_iff_not] at hl
  rw [bothL_sub ha.1 hb.1 (by omega), hx, hy]
  rw [ne_eq, decide_eq_decide] at h
  rw [decide_eq_decide]
  omega
end
theorem bothL_lens (s : Int) {a b : List Int} (ha : a.length ≤ 100000) (hb : b.length ≤ 100000) : (bothL s a b).length ≤ 1000000 := by have := bothL_len s a b; omega
def AddBox (p q : Bool) (fa fb : Value) (w W : World) : Prop :=
  W.heap[w.heap.size]? = some (.cells #[.bool p, fa] 155 (0, 0)) ∧ W.heap[w.heap.size + 1]? = some (.cells #[.bool q, fb] 155 (0, 0)) ∧ W.heap[w.heap.size + 1 + 1]? = some (.cells #[.bool false, .slice none 0 0] 155 (0, 0)) ∧ Below w.heap.size w W
theorem addBox (p q : Bool) (fa fb : Value) (w : World) : AddBox p q fa fb w (((w.alloc (.cells #[.bool p, fa] 155)).alloc (.cells #[.bool q, fb] 155)).alloc (.cells #[.bool false, .slice none 0 0] 155)) :=
  ⟨hk_alloc (hk_alloc (new_blk _ _) _) _, hk_alloc (by have := new_blk (w.alloc (.cells #[.bool p, fa] 155)) (.cells #[.bool q, fb] 155); rw [World.size_alloc] at this; exact this) _,
    by have := new_blk ((w.alloc (.cells #[.bool p, fa] 155)).alloc (.cells #[.bool q, fb] 155)) (.cells #[.bool false, .slice none 0 0] 155); rw [World.size_alloc, World.size_alloc] at this; exact this, bl_alloc (bl_alloc (bl_alloc (Below.refl _ _) _) _) _⟩
theorem AddBox.step {p q : Bool} {fa fb : Value} {w W W1 : World} (h : AddBox p q fa fb w W) (hb : Below W.heap.size W W1) : AddBox p q fa fb w W1 :=
  ⟨hk_below h.1 hb, hk_below h.2.1 hb, hk_below h.2.2.1 hb, bl_step h.2.2.2 hb⟩
theorem less_dec {a b : List Int} {r : Bool} (h : lessL a b = r) (va vb : Value) (w : World) (ha : RdI w va a) (hb : RdI w vb b) (hl : a.length ≤ 1000000) :
    Calls Tryz.prog 169 #[va, vb] w fun e w' => e = .returned (.bool r) ∧ Below w.heap.size w w' := h ▸ less2_any a b va vb w ha hb hl
set_option maxRecDepth 20000 in
set_option maxHeartbeats 4000000 in
theorem add_any (va vb : Value) (x y : Int) (k : Nat) (w : World) (ha : NumV w va x) (hb : NumV w vb y) (hx : (x.natAbs : Int) < 10000 ^ k) (hy : (y.natAbs : Int) < 10000 ^ k) (hk : k ≤ 100000) :
    Calls Tryz.prog 159 #[va, vb] w fun e w' => ∃ v, e = .returned v ∧ NumV w' v (x + y) ∧ Below w.heap.size w w' := by
  obtain ⟨fa, a, rfl, ra, ca, xa⟩ := ha
  obtain ⟨fb, b, rfl, rb, cb, yb⟩ := hb
  obtain ⟨A, cA, rfl⟩ := ra.open
  obtain ⟨B, cB, rfl⟩ := rb.open
  have la := can_len ca (by rw [xa]; exact hx)
  have lb := can_len cb (by rw [yb]; exact hy)
  have la5 : a.length ≤ 1000000 := by omega
  have lb5 : b.length ≤ 1000000 := by omega
  have HL := Lib.hid (fun s => bothL_lens s (a := a) (b := b) (by omega) (by omega))
  have HL2 := Lib.hid (fun s => bothL_lens s (a := b) (b := a) (by omega) (by omega))
  have HC := Lib.hid (And.intro ca cb)
  have HV := Lib.hid (And.intro xa yb)
  have HA := Lib.hid ra
  have HB := Lib.hid rb
  clear hx hy la lb xa yb ca cb ra rb
  by_cases hs : decide (x < 0) = decide (y < 0)
  · have hsb : (decide (x < 0) == decide (y < 0)) = true := by rw [hs]; simp
    have HS := Lib.hid hs
    have HSM := Lib.hid (num_same HC.out.1 HC.out.2 HV.out.1 HV.out.2 hs)
    have HSG : Hid (x + y ≠ 0 → decide (x < 0) = decide (x + y < 0)) := Lib.hid (fun _ => by rw [decide_eq_decide] at *; omega)
    clear hs
    generalize decide (x < 0) = p at *
    generalize decide (y < 0) = q at *
    go_enter Tryz.func159, Tryz.ntmps159
    go_wp2
    refine abs_world (F := AddBox p q (.slice A a.length cA) (.slice B b.length cB) w) (addBox p q _ _ w) ?_
    intro wr hbx
    have HX := Lib.hid hbx
    have c1 := cell_blk hbx.1
    have c2 := cell_blk hbx.2.1
    have c3 := cell_blk hbx.2.2.1
    have f3 := frozen_blk hbx.2.2.1
    have hA := hbx.2.2.2
    clear hbx
    have HA := Lib.hid (HA.out.below hA)
    have HB := Lib.hid (HB.out.below hA)
    clear hA
    go_region_held3 (fun W' => W'.cell? ⟨w.heap.size, 0, none⟩ = some (.bool p) ∧ W'.cell? ⟨w.heap.size, 1, none⟩ = some (.slice A a.length cA) ∧ W'.cell? ⟨w.heap.size + 1, 0, none⟩ = some (.bool q) ∧ W'.cell? ⟨w.heap.size + 1, 1, none⟩ = some (.slice B b.length cB)) (first | exact ⟨c1 0, c1 1, c2 0, c2 1⟩ | exact ⟨d1 0, d1 1, d2 0, d2 1⟩ | exact ⟨g1 0, g1 1, g2 0, g2 1⟩ | exact ⟨cset2 (by omega) (g1 0), cset2 (by omega) (g1 1), cset2 (by omega) (g2 0), cset2 (by omega) (g2 1)⟩)
      (first
        | (go_at_call 168; refine (both_any a b (1) _ _ _ (.inl rfl) (HA.out.below (by (repeat (first | (with_reducible exact Below.refl _ _) | refine bl_drew ?_ | refine bl_drewN ?_ _ | refine bl_alloc ?_ _ | refine bl_set ?_ (Nat.le_refl _) _ | refine bl_set ?_ (Nat.le_succ _) _)))) (HB.out.below (by (repeat (first | (with_reducible exact Below.refl _ _) | refine bl_drew ?_ | refine bl_drewN ?_ _ | refine bl_alloc ?_ _ | refine bl_set ?_ (Nat.le_refl _) _ | refine bl_set ?_ (Nat.le_succ _) _)))) HC.out.1.1 HC.out.2.1 la5 lb5).mono ?_; rintro e w1 ⟨v1, rfl, ho1, hb1⟩; replace hb1 := bl_undrew hb1; have hr1 := RdI.of_own ho1; obtain ⟨A1, k1, rfl⟩ := hr1.open; have d1 := cell_blk (hk_below HX.out.1 hb1); have d2 := cell_blk (hk_below HX.out.2.1 hb1); have HX1 := Lib.hid (And.intro (hk_below HX.out.1 hb1) (And.intro (hk_below HX.out.2.1 hb1) (And.intro (hk_below HX.out.2.2.1 hb1) (bl_step HX.out.2.2.2 hb1)))); have HO1 := Lib.hid hr1; clear ho1 hr1 hb1)
        | (go_at_call 158; refine (clean_any (bothL (1) a b) _ _ _ HO1.out (HL.out 1)).mono ?_; rintro e w2 ⟨f2, rfl, hr2, hb2⟩; obtain ⟨A2, k2, rfl⟩ := hr2.open; have g1 := cell_blk (hk_below HX1.out.1 hb2); have g2 := cell_blk (hk_below HX1.out.2.1 hb2); have d3 := cell_blk (hk_below HX1.out.2.2.1 hb2); have e3 := frozen_blk (hk_below HX1.out.2.2.1 hb2); have HX2 := Lib.hid (And.intro (hk_below HX1.out.2.2.1 hb2) (bl_step HX1.out.2.2.2 hb2)); have HR2 := Lib.hid hr2; clear hr2 hb2))
    clear c1 c2 c3 f3
    go_wp2
    have cr := cell_blk (set_to (set_to HX2.out.1 0 (.bool (p && decide (0 < trimF (bothL (1) a b) (bothL (1) a b).length))) rfl) 1 (.slice A2 ((bothL (1) a b).take (trimF (bothL (1) a b) (bothL (1) a b).length)).length k2) rfl)
    rw [List.length_take] at cr
    have HR3 := HR2.out
    rw [List.length_take] at HR3
    refine bodyPost_ret (v := .agg #[.bool (p && decide (0 < trimF (bothL (1) a b) (bothL (1) a b).length)), .slice A2 (min (trimF (bothL (1) a b) (bothL (1) a b).length) (bothL (1) a b).length) k2]) (by simp [results, Tryz.results159, go_sem, cr]) rfl ⟨_, rfl, clean_num (bothL_dig (.inl rfl) HC.out.1.1 HC.out.2.1) HSM.out HSG.out (num_cells HR3 HX2.out.1), bl_set (bl_set HX2.out.2 (by simp; omega) _) (by simp; omega) _⟩
  · have hsb : (decide (x < 0) == decide (y < 0)) = false := by simpa using hs
    cases hl : lessL a b with
    | true =>
      obtain ⟨hv, hg⟩ := num_less HC.out.1 HC.out.2 HV.out.1 HV.out.2 hs hl
      have HSM := Lib.hid hv
      have HSG : Hid (x + y ≠ 0 → decide (y < 0) = decide (x + y < 0)) := Lib.hid (fun _ => hg)
      have HLL := Lib.hid hl
      clear hs hv hg hl
      generalize decide (x < 0) = p at *
      generalize decide (y < 0) = q at *
      go_enter Tryz.func159, Tryz.ntmps159
      go_upto_region 3 with (fail)
      refine abs_world (F := AddBox p q (.slice A a.length cA) (.slice B b.length cB) w) (addBox p q _ _ w) ?_
      intro wr hbx
      have HX := Lib.hid hbx
      have c1 := cell_blk hbx.1
      have c2 := cell_blk hbx.2.1
      have c3 := cell_blk hbx.2.2.1
      have f3 := frozen_blk hbx.2.2.1
      have hA := hbx.2.2.2
      clear hbx
      have HA := Lib.hid (HA.out.below hA)
      have HB := Lib.hid (HB.out.below hA)
      clear hA
      go_wp2_with (go_at_call 169; refine (less_dec HLL.out _ _ _ HA.out HB.out la5).mono ?_; rintro e w0 ⟨rfl, hb0⟩; have HX0 := Lib.hid (AddBox.step HX.out hb0); have HA0 := Lib.hid (HA.out.below hb0); have HB0 := Lib.hid (HB.out.below hb0); clear hb0 c1 c2 c3 f3)
      have HX := HX0
      have HA := HA0
      have HB := HB0
      have c1 := cell_blk HX0.out.1
      have c2 := cell_blk HX0.out.2.1
      have c3 := cell_blk HX0.out.2.2.1
      have f3 := frozen_blk HX0.out.2.2.1
      go_region_held3 (fun W' => W'.cell? ⟨w.heap.size, 0, none⟩ = some (.bool p) ∧ W'.cell? ⟨w.heap.size, 1, none⟩ = some (.slice A a.length cA) ∧ W'.cell? ⟨w.heap.size + 1, 0, none⟩ = some (.bool q) ∧ W'.cell? ⟨w.heap.size + 1, 1, none⟩ = some (.slice B b.length cB)) (first | exact ⟨c1 0, c1 1, c2 0, c2 1⟩ | exact ⟨d1 0, d1 1, d2 0, d2 1⟩ | exact ⟨g1 0, g1 1, g2 0, g2 1⟩ | exact ⟨cset2 (by omega) (g1 0), cset2 (by omega) (g1 1), cset2 (by omega) (g2 0), cset2 (by omega) (g2 1)⟩)
        (first
          | (go_at_call 168; refine (both_any b a (-1) _ _ _ (.inr rfl) (HB.out.below (by (repeat (first | (with_reducible exact Below.refl _ _) | refine bl_drew ?_ | refine bl_drewN ?_ _ | refine bl_alloc ?_ _ | refine bl_set ?_ (Nat.le_refl _) _ | refine bl_set ?_ (Nat.le_succ _) _)))) (HA.out.below (by (repeat (first | (with_reducible exact Below.refl _ _) | refine bl_drew ?_ | refine bl_drewN ?_ _ | refine bl_alloc ?_ _ | refine bl_set ?_ (Nat.le_refl _) _ | refine bl_set ?_ (Nat.le_succ _) _)))) HC.out.2.1 HC.out.1.1 lb5 la5).mono ?_; rintro e w1 ⟨v1, rfl, ho1, hb1⟩; replace hb1 := bl_undrew hb1; have hr1 := RdI.of_own ho1; obtain ⟨A1, k1, rfl⟩ := hr1.open; have d1 := cell_blk (hk_below HX.out.1 hb1); have d2 := cell_blk (hk_below HX.out.2.1 hb1); have HX1 := Lib.hid (And.intro (hk_below HX.out.1 hb1) (And.intro (hk_below HX.out.2.1 hb1) (And.intro (hk_below HX.out.2.2.1 hb1) (bl_step HX.out.2.2.2 hb1)))); have HO1 := Lib.hid hr1; clear ho1 hr1 hb1)
          | (go_at_call 158; refine (clean_any (bothL (-1) b a) _ _ _ HO1.out (HL2.out (-1))).mono ?_; rintro e w2 ⟨f2, rfl, hr2, hb2⟩; obtain ⟨A2, k2, rfl⟩ := hr2.open; have g1 := cell_blk (hk_below HX1.out.1 hb2); have g2 := cell_blk (hk_below HX1.out.2.1 hb2); have d3 := cell_blk (hk_below HX1.out.2.2.1 hb2); have e3 := frozen_blk (hk_below HX1.out.2.2.1 hb2); have HX2 := Lib.hid (And.intro (hk_below HX1.out.2.2.1 hb2) (bl_step HX1.out.2.2.2 hb2)); have HR2 := Lib.hid hr2; clear hr2 hb2))
      clear c1 c2 c3 f3
      go_wp2
      have cr := cell_blk (set_to (set_to HX2.out.1 0 (.bool (q && decide (0 < trimF (bothL (-1) b a) (bothL (-1) b a).length))) rfl) 1 (.slice A2 ((bothL (-1) b a).take (trimF (bothL (-1) b a) (bothL (-1) b a).length)).length k2) rfl)
      rw [List.length_take] at cr
      have HR3 := HR2.out
      rw [List.length_take] at HR3
      refine bodyPost_ret (v := .agg #[.bool (q && decide (0 < trimF (bothL (-1) b a) (bothL (-1) b a).length)), .slice A2 (min (trimF (bothL (-1) b a) (bothL (-1) b a).length) (bothL (-1) b a).length) k2]) (by simp [results, Tryz.results159, go_sem, cr]) rfl ⟨_, rfl, clean_num (bothL_dig (.inr rfl) HC.out.2.1 HC.out.1.1) HSM.out HSG.out (num_cells HR3 HX2.out.1), bl_set (bl_set HX2.out.2 (by simp; omega) _) (by simp; omega) _⟩
    | false =>
      obtain ⟨hv, hg⟩ := num_more HC.out.1 HC.out.2 HV.out.1 HV.out.2 hs hl
      have HSM := Lib.hid hv
      have HSG := Lib.hid hg
      have HLL := Lib.hid hl
      clear hs hv hg hl
      generalize decide (x < 0) = p at *
      generalize decide (y < 0) = q at *
      go_enter Tryz.func159, Tryz.ntmps159
      go_upto_region 3 with (fail)
      refine abs_world (F := AddBox p q (.slice A a.length cA) (.slice B b.length cB) w) (addBox p q _ _ w) ?_
      intro wr hbx
      have HX := Lib.hid hbx
      have c1 := cell_blk hbx.1
      have c2 := cell_blk hbx.2.1
      have c3 := cell_blk hbx.2.2.1
      have f3 := frozen_blk hbx.2.2.1
      have hA := hbx.2.2.2
      clear hbx
      have HA := Lib.hid (HA.out.below hA)
      have HB := Lib.hid (HB.out.below hA)
      clear hA
      go_wp2_with (go_at_call 169; refine (less_dec HLL.out _ _ _ HA.out HB.out la5).mono ?_; rintro e w0 ⟨rfl, hb0⟩; have HX0 := Lib.hid (AddBox.step HX.out hb0); have HA0 := Lib.hid (HA.out.below hb0); have HB0 := Lib.hid (HB.out.below hb0); clear hb0 c1 c2 c3 f3)
      have HX := HX0
      have HA := HA0
      have HB := HB0
      have c1 := cell_blk HX0.out.1
      have c2 := cell_blk HX0.out.2.1
      have c3 := cell_blk HX0.out.2.2.1
      have f3 := frozen_blk HX0.out.2.2.1
      go_region_held3 (fun W' => W'.cell? ⟨w.heap.size, 0, none⟩ = some (.bool p) ∧ W'.cell? ⟨w.heap.size, 1, none⟩ = some (.slice A a.length cA) ∧ W'.cell? ⟨w.heap.size + 1, 0, none⟩ = some (.bool q) ∧ W'.cell? ⟨w.heap.size + 1, 1, none⟩ = some (.slice B b.length cB)) (first | exact ⟨c1 0, c1 1, c2 0, c2 1⟩ | exact ⟨d1 0, d1 1, d2 0, d2 1⟩ | exact ⟨g1 0, g1 1, g2 0, g2 1⟩ | exact ⟨cset2 (by omega) (g1 0), cset2 (by omega) (g1 1), cset2 (by omega) (g2 0), cset2 (by omega) (g2 1)⟩)
        (first
          | (go_at_call 168; refine (both_any a b (-1) _ _ _ (.inr rfl) (HA.out.below (by (repeat (first | (with_reducible exact Below.refl _ _) | refine bl_drew ?_ | refine bl_drewN ?_ _ | refine bl_alloc ?_ _ | refine bl_set ?_ (Nat.le_refl _) _ | refine bl_set ?_ (Nat.le_succ _) _)))) (HB.out.below (by (repeat (first | (with_reducible exact Below.refl _ _) | refine bl_drew ?_ | refine bl_drewN ?_ _ | refine bl_alloc ?_ _ | refine bl_set ?_ (Nat.le_refl _) _ | refine bl_set ?_ (Nat.le_succ _) _)))) HC.out.1.1 HC.out.2.1 la5 lb5).mono ?_; rintro e w1 ⟨v1, rfl, ho1, hb1⟩; replace hb1 := bl_undrew hb1; have hr1 := RdI.of_own ho1; obtain ⟨A1, k1, rfl⟩ := hr1.open; have d1 := cell_blk (hk_below HX.out.1 hb1); have d2 := cell_blk (hk_below HX.out.2.1 hb1); have HX1 := Lib.hid (And.intro (hk_below HX.out.1 hb1) (And.intro (hk_below HX.out.2.1 hb1) (And.intro (hk_below HX.out.2.2.1 hb1) (bl_step HX.out.2.2.2 hb1)))); have HO1 := Lib.hid hr1; clear ho1 hr1 hb1)
          | (go_at_call 158; refine (clean_any (bothL (-1) a b) _ _ _ HO1.out (HL.out (-1))).mono ?_; rintro e w2 ⟨f2, rfl, hr2, hb2⟩; obtain ⟨A2, k2, rfl⟩ := hr2.open; have g1 := cell_blk (hk_below HX1.out.1 hb2); have g2 := cell_blk (hk_below HX1.out.2.1 hb2); have d3 := cell_blk (hk_below HX1.out.2.2.1 hb2); have e3 := frozen_blk (hk_below HX1.out.2.2.1 hb2); have HX2 := Lib.hid (And.intro (hk_below HX1.out.2.2.1 hb2) (bl_step HX1.out.2.2.2 hb2)); have HR2 := Lib.hid hr2; clear hr2 hb2))
      clear c1 c2 c3 f3
      go_wp2
      have cr := cell_blk (set_to (set_to HX2.out.1 0 (.bool (p && decide (0 < trimF (bothL (-1) a b) (bothL (-1) a b).length))) rfl) 1 (.slice A2 ((bothL (-1) a b).take (trimF (bothL (-1) a b) (bothL (-1) a b).length)).length k2) rfl)
      rw [List.length_take] at cr
      have HR3 := HR2.out
      rw [List.length_take] at HR3
      refine bodyPost_ret (v := .agg #[.bool (p && decide (0 < trimF (bothL (-1) a b) (bothL (-1) a b).length)), .slice A2 (min (trimF (bothL (-1) a b) (bothL (-1) a b).length) (bothL (-1) a b).length) k2]) (by simp [results, Tryz.results159, go_sem, cr]) rfl ⟨_, rfl, clean_num (bothL_dig (.inr rfl) HC.out.1.1 HC.out.2.1) HSM.out HSG.out (num_cells HR3 HX2.out.1), bl_set (bl_set HX2.out.2 (by simp; omega) _) (by simp; omega) _⟩
end Go.Proofs.YtdlkdecigpaaaaaGreatDoor
