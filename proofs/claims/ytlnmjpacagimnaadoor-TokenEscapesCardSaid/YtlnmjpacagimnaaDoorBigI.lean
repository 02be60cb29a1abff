/- The document's numbers: Number, Parse. -/
import Derived.Test.YtlnmjpacagimnaaDoorBigG
import Derived.Test.YtlnmjpacagimnaaDoorBigH
namespace Go.Proofs.YtlnmjpacagimnaaDoor
set_option linter.unusedVariables false
set_option linter.unusedSimpArgs false
open Go.RowKit

/-- The number of the first digits of a text. -/
def tenN (s : ByteArray) : Nat → Int
  | 0 => 0
  | i + 1 => tenN s i * 10 + (bt s i - 48)
def AllDig (s : ByteArray) : Prop := ∀ j : Nat, j < s.size → 48 ≤ bt s j ∧ bt s j ≤ 57
theorem tenN_range {s : ByteArray} (h : AllDig s) : ∀ i, i ≤ s.size → 0 ≤ tenN s i ∧ tenN s i < 10000 ^ i
  | 0, _ => by simp [tenN]
  | i + 1, hi => by
    have ih := tenN_range h i (by omega)
    have hd := h i (by omega)
    have hp := pow_pos' i
    simp only [tenN, Int.pow_succ]; omega
theorem pow_mono {i k : Nat} (h : i ≤ k) : (10000 : Int) ^ i ≤ 10000 ^ k := by
  have e : k = i + (k - i) := by omega
  rw [e, Int.pow_add]
  have h4 := pow_pos' i
  have h5 := pow_pos' (k - i)
  have h6 : (10000 : Int) ^ i * 1 ≤ 10000 ^ i * 10000 ^ (k - i) := Int.mul_le_mul_of_nonneg_left (by omega) (by omega)
  omega
/-- Two blocks of a call's own: the result's, the number's so far. -/
def NumBox (out : Array Value) (w W : World) : Prop := W.heap[w.heap.size]? = some (.cells #[.bool false, .slice none 0 0] 39 (0, 0)) ∧ W.heap[w.heap.size + 1]? = some (.cells out 39 (0, 0)) ∧ Below w.heap.size w W
theorem numBox (w : World) : NumBox #[.bool false, .slice none 0 0] w ((w.alloc (.cells #[.bool false, .slice none 0 0] 39)).alloc (.cells #[.bool false, .slice none 0 0] 39)) := lessBox _ _ w
section
variable {w W W1 : World} {out : Array Value}
theorem NumBox.step (h : NumBox out w W) (hb : Below W.heap.size W W1) : NumBox out w W1 := LessBox.step h hb
theorem NumBox.turn {a b c d : Value} (h : NumBox #[a, b] w W) : NumBox #[c, d] w ((W.setCell ⟨w.heap.size + 1, 0, none⟩ c).setCell ⟨w.heap.size + 1, 1, none⟩ d) :=
  ⟨hk_set (hk_set h.1 (by show w.heap.size ≠ w.heap.size + 1; omega) _) (by show w.heap.size ≠ w.heap.size + 1; omega) _, set_to (set_to h.2.1 0 c rfl) 1 d rfl, bl_set (bl_set h.2.2 (by show w.heap.size ≤ w.heap.size + 1; omega) _) (by show w.heap.size ≤ w.heap.size + 1; omega) _⟩
end
set_option maxRecDepth 20000 in
set_option maxHeartbeats 4000000 in
theorem number_any (s : ByteArray) (w : World) (hs : s.size ≤ 5000) (hd : AllDig s) :
    Calls Tryd.prog 51 #[.string s] w fun e w' => ∃ v, e = .returned v ∧ NumV w' v (tenN s s.size) ∧ Below w.heap.size w w' := by
  have HD := Lib.hid hd
  have HMUL := Lib.hid (fun (i : Nat) (hi : i < s.size) (W : World) (v1 v2 : Value) (h1 : NumV W v1 (tenN s i)) (h2 : NumV W v2 10) => mul_any v1 v2 (tenN s i) 10 (s.size + 1) W h1 h2 (by have := tenN_range hd i (by omega); have := pow_mono (show i ≤ s.size + 1 by omega); omega) (by have := pow_mono (show 1 ≤ s.size + 1 by omega); rw [Int.pow_succ, Int.pow_zero] at this; omega) (by omega))
  have HADD := Lib.hid (fun (i : Nat) (hi : i < s.size) (W : World) (v1 v2 : Value) (h1 : NumV W v1 (tenN s i * 10)) (h2 : NumV W v2 (bt s i - 48)) => (show Calls _ _ _ _ fun e w' => ∃ v, e = .returned v ∧ NumV w' v (tenN s (i + 1)) ∧ Below W.heap.size W w' from
    add_any v1 v2 (tenN s i * 10) (bt s i - 48) (s.size + 1) W h1 h2 (by have := tenN_range hd i (by omega); have := pow_mono (show i + 1 ≤ s.size + 1 by omega); rw [Int.pow_succ] at this; omega) (by have := hd i hi; have := pow_mono (show 1 ≤ s.size + 1 by omega); rw [Int.pow_succ, Int.pow_zero] at this; omega) (by omega)))
  clear hd
  go_enter Tryd.func51, Tryd.ntmps51
  go_upto_region 2 with (fail)
  refine abs_world (F := NumBox #[.bool false, .slice none 0 0] w) (numBox w) ?_
  intro wr hbx
  have HX := Lib.hid hbx
  have HO : Hid (NumV wr (.agg #[.bool false, .slice none 0 0]) (tenN s 0)) := Lib.hid ⟨_, [], by simp [tenN], .nil _, ⟨by simp [Dig], by simp⟩, by simp [valF, tenN]⟩
  clear hbx
  go_wp2
  go_loopw [4] (fun t W => ∃ (i : Nat) (o : Bool) (O : Option Addr) (n c : Nat), i ≤ s.size ∧ t = .int .i64 i ∧ Hid (NumBox #[.bool o, .slice O n c] w W ∧ NumV W (.agg #[.bool o, .slice O n c]) (tenN s i))) (fun t _ => s.size - (intOf t).toNat)
  case atStart => exact ⟨0, false, none, 0, 0, by omega, rfl, Lib.hid ⟨HX.out, HO.out⟩⟩
  case round =>
    obtain ⟨i, o, O, n, c, hi, rfl, H⟩ := hrel
    clear HX HO
    by_cases hlt : i < s.size
    · have hb := bt_nat s i
      have hdi := HD.out i hlt
      obtain ⟨d0, d1⟩ := hdi
      have hiI : (i : Int) < s.size := by omega
      have HMi := Lib.hid (HMUL.out i hlt)
      have HAi := Lib.hid (HADD.out i hlt)
      have hx0 := H.out.1
      have c0 := cell_blk hx0.2.1
      clear hx0
      generalize bt s i = x at *
      have HWR : Hid (IntKind.i64.wrap (IntKind.u8.wrap (x - 48)) = x - 48) := Lib.hid (by rw [IntKind.wrap_i64]; simp [IntKind.wrap, IntKind.bits, IntKind.signed]; omega)
      go_upto_region 5 with (fail)
      go_region_with (first
        | (go_at_call 15; have hthere := HX2; clear hthere; refine (of_num _ _ (by rw [HWR.out]; omega) (by rw [HWR.out]; omega)).mono ?_; rintro e w3 ⟨v3, rfl, hn3, hb3⟩; rw [HWR.out] at hn3; have HN3 := Lib.hid hn3; obtain ⟨q3, A3, n3, k3, rfl⟩ := hn3.shape; have HX3 := Lib.hid (HX2.out.step hb3); have c3 := cell_blk HX3.out.2.1; have HN23 := Lib.hid (HN2.out.below hb3); clear hn3 hb3)
        | (go_at_call 15; refine (of_num _ _ (by decide) (by decide)).mono ?_; rintro e w1 ⟨v1, rfl, hn1, hb1⟩; replace hb1 := bl_undrew hb1; have HN1 := Lib.hid hn1; obtain ⟨q1, A1, n1, k1, rfl⟩ := hn1.shape; have HX1 := Lib.hid (H.out.1.step hb1); have c1 := cell_blk HX1.out.2.1; have HO1 := Lib.hid (H.out.2.below hb1); clear hn1 hb1)
        | (go_at_call 65; refine (HMi.out _ _ _ HO1.out HN1.out).mono ?_; rintro e w2 ⟨v2, rfl, hn2, hb2⟩; have HN2 := Lib.hid hn2; obtain ⟨q2, A2, n2, k2, rfl⟩ := hn2.shape; have HX2 := Lib.hid (HX1.out.step hb2); have c2 := cell_blk HX2.out.2.1; clear hn2 hb2)
        | (go_at_call 64; refine (HAi.out _ _ _ HN23.out HN3.out).mono ?_; rintro e w4 ⟨v4, rfl, hn4, hb4⟩; have HN4 := Lib.hid hn4; obtain ⟨q4, A4, n4, k4, rfl⟩ := hn4.shape; have HX4 := Lib.hid (HX3.out.step hb4); have c4 := cell_blk HX4.out.2.1; have f4 := frozen_blk HX4.out.2.1; clear hn4 hb4)
        )
      all_goals
        go_wp2
        go_roundw
        case rel => exact ⟨i + 1, q4, A4, n4, k4, by omega, by go_num, Lib.hid ⟨HX4.out.turn, num_set HN4.out HX4.out.2.1⟩⟩
        case measure => simp [intOf]; omega
    · obtain rfl : i = s.size := by omega
      have hx0 := H.out.1
      have c0 := cell_blk hx0.2.1
      have d0 := cell_blk hx0.1
      have f0 := frozen_blk hx0.1
      have HX0 := Lib.hid hx0
      clear hx0
      go_wp2
      have cr := cell_blk (set_to (set_to HX0.out.1 0 (.bool o) rfl) 1 (.slice O n c) rfl)
      refine bodyPost_ret (v := .agg #[.bool o, .slice O n c]) (by simp [results, Tryd.results51, go_sem, cr]) rfl ⟨_, rfl, num_set H.out.2 HX0.out.1, bl_set (bl_set HX0.out.2.2 (by simp) _) (by simp) _⟩
end Go.Proofs.YtlnmjpacagimnaaDoor
