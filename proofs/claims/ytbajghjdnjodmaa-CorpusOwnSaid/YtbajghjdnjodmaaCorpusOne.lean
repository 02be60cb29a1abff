/- One entry by itself. -/
import Derived.Test.YtbajghjdnjodmaaCorpusNew
namespace Go.Proofs.Ytbajghjdnjodmaa
set_option linter.unusedVariables false
set_option linter.unusedSimpArgs false
open Go.RowKit

abbrev flatV (k : Int) (b : Bool) (n : Int) (s : ByteArray) (has : Bool) (st : ByteArray) : Value := .agg #[.int .i64 k, .bool b, .int .i64 n, .string s, .slice none 0 0, .slice none 0 0, .bool has, .string st, .slice none 0 0]
abbrev flatA (k : Int) (b : Bool) (n : Int) (s : ByteArray) (has : Bool) (st : ByteArray) : Array Value := #[.int .i64 k, .bool b, .int .i64 n, .string s, .slice none 0 0, .slice none 0 0, .bool has, .string st, .slice none 0 0]
set_option maxHeartbeats 1000000 in
theorem copied_flat (k : Int) (b : Bool) (n : Int) (s : ByteArray) (has : Bool) (st : ByteArray) (w : World) :
    Calls Try.prog 29 #[flatV k b n s has st] w
      fun e w' => e = .returned (flatV k b n s has st) ∧ Below w.heap.size w w' := by
  have H1 : Hid (((w.alloc (.cells (flatA k b n s has st) 33)).alloc (.cells (flatA 0 false 0 ⟨#[]⟩ false ⟨#[]⟩) 33)).drew.heap[w.heap.size]? = some (.cells (flatA k b n s has st) 33 (0, 0))) := Lib.hid (hk_alloc (new_blk _ _) _)
  have H2 : Hid (((w.alloc (.cells (flatA k b n s has st) 33)).alloc (.cells (flatA 0 false 0 ⟨#[]⟩ false ⟨#[]⟩) 33)).drew.heap[w.heap.size + 1]? = some (.cells (flatA 0 false 0 ⟨#[]⟩ false ⟨#[]⟩) 33 (0, 0))) := Lib.hid (by have := new_blk (w.alloc (.cells (flatA k b n s has st) 33)) (.cells (flatA 0 false 0 ⟨#[]⟩ false ⟨#[]⟩) 33); rw [World.size_alloc] at this; exact this)
  have HW : Hid (Below w.heap.size w ((w.alloc (.cells (flatA k b n s has st) 33)).alloc (.cells (flatA 0 false 0 ⟨#[]⟩ false ⟨#[]⟩) 33)).drew) := Lib.hid (bl_drew (bl_alloc (bl_alloc (Below.refl _ _) _) _))
  go_enter Try.func29, Try.ntmps29
  go_wp2
  go_region_with (first | (go_at_call 43; refine (vcopy_flat _ _ _ _ _).mono ?_; rintro e w1 ⟨rfl, hb1⟩; have hB1 := cell_blk (hk_below H1.out hb1); have hF1 := frozen_blk (hk_below H1.out hb1); have HB := Lib.hid hb1; clear hb1) | (first | (go_at_call 44; refine (cloneI_nil _).mono ?_; rintro e w' ⟨rfl, rfl⟩)))
  all_goals
    (refine ‹∀ (a : Act) (w : World), Code.wp _ _ _ a w → _› _ _ ?_)
    clear hB1 hF1
    have hb1 := HB.out
    refine abs_world (F := fun W' => W'.heap[w.heap.size]? = some (.cells (flatA k b n s has st) 33 (0, 0)) ∧ W'.heap[w.heap.size + 1]? = some (.cells (flatA 0 false 0 ⟨#[]⟩ false ⟨#[]⟩) 33 (0, 0)) ∧ Below w.heap.size w W')
      ⟨?x1, ?x2, ?_⟩ ?_
    case x1 =>
      have h0 := hk_below H1.out hb1
      exact (set_same (set_same (set_same (set_same (set_same (set_same (set_same h0 0 _ rfl) 1 _ rfl) 2 _ rfl) 3 _ rfl) 4 _ rfl) 5 _ rfl) 8 _ rfl)
    case x2 =>
      have h0 := hk_below H2.out hb1
      exact (hk_set (hk_set (hk_set (hk_set (hk_set (hk_set (hk_set h0 (by simp) _) (by simp) _) (by simp) _) (by simp) _) (by simp) _) (by simp) _) (by simp) _)
    · have h0 := bl_step HW.out hb1
      clear H1 H2 HB hb1 HW
      exact bl_set (bl_set (bl_set (bl_set (bl_set (bl_set (bl_set h0 (Nat.le_refl _) _) (Nat.le_refl _) _) (Nat.le_refl _) _) (Nat.le_refl _) _) (Nat.le_refl _) _) (Nat.le_refl _) _) (Nat.le_refl _) _
    · clear hb1 HB H1 H2 HW
      rintro W' ⟨g1, g2, g3⟩
      have c1 := cell_blk g1
      have c2 := cell_blk g2
      have f2 := frozen_blk g2
      have G1 := Lib.hid g1
      have G2 := Lib.hid g2
      have G3 := Lib.hid g3
      clear g1 g2 g3
      go_wp2
      refine bodyPost_ret (v := flatV k b n s has st) (by simp [results, Try.results29, go_sem, c2]) rfl ⟨rfl, ?_⟩
      have h0 := G3.out
      exact bl_set (bl_set (bl_set (bl_set (bl_set (bl_set (bl_set (bl_set (bl_set h0 (by simp) _) (by simp) _) (by simp) _) (by simp) _) (by simp) _) (by simp) _) (by simp) _) (by simp) _) (by simp) _

end Go.Proofs.Ytbajghjdnjodmaa
