/- A corpus's calls at entries without slices: New, Len, IsName, Clone of nil, Copy, copied, Put. -/
import Derived.Test.YtbajghjdnjodmaaNameB
import Derived.Test.YtbajghjdnjodmaaMap
namespace Go.Proofs.Ytbajghjdnjodmaa
set_option linter.unusedVariables false
set_option linter.unusedSimpArgs false
open Go.RowKit
set_option maxHeartbeats 400000 in
theorem cnew_any (w : World) :
    Calls Try.prog 10 #[] w fun e w' => e = .returned (.pointer (some ⟨w.heap.size + 1, 0, none⟩)) ∧ (w.alloc (.map #[] 0)).alloc (.cells #[.map (some w.heap.size)] 69) = w' := by
  have hmm := @run_makeMap Try.prog
  go_enter Try.func10, Try.ntmps10
  go_wp2
  go_ret
  exact ⟨rfl, rfl⟩
set_option maxHeartbeats 400000 in
theorem clen_any (g b c : Nat) (l : List Ent) (w : World) (hg : w.cell? ⟨g, 0, none⟩ = some (.map (some b))) (hb : w.heap[b]? = some (.map (ents l) c)) :
    Calls Try.prog 14 #[.pointer (some ⟨g, 0, none⟩)] w fun e w' => e = .returned (.int .i64 l.length) ∧ w = w' := by
  have hl := fun ty => run_lenS (P := Try.prog) (t := 67) Try.underlying67 hb ty
  go_enter Try.func14, Try.ntmps14
  go_wp2
  go_ret
  exact ⟨rfl, rfl⟩
set_option maxHeartbeats 400000 in
theorem cloneI_nil (w : World) : Calls Try.prog 44 #[.slice none 0 0] w fun e w' => e = .returned (.slice none 0 0) ∧ w = w' := by
  have hs := fun w => Lib.run_eql_slice_nil (P := Try.prog) w 31 _ none 0 0 0 0 Try.underlying31
  go_enter Try.func44, Try.ntmps44
  go_wp2
  go_ret
  exact ⟨rfl, rfl⟩
set_option maxHeartbeats 400000 in
theorem cloneS_nil (w : World) : Calls Try.prog 55 #[.slice none 0 0] w fun e w' => e = .returned (.slice none 0 0) ∧ w = w' := by
  have hs := fun w => Lib.run_eql_slice_nil (P := Try.prog) w 28 _ none 0 0 0 0 Try.underlying28
  go_enter Try.func55, Try.ntmps55
  go_wp2
  go_ret
  exact ⟨rfl, rfl⟩
set_option maxHeartbeats 400000 in
theorem cloneV_nil (w : World) : Calls Try.prog 56 #[.slice none 0 0] w fun e w' => e = .returned (.slice none 0 0) ∧ w = w' := by
  have hs := fun w => Lib.run_eql_slice_nil (P := Try.prog) w 27 _ none 0 0 0 0 Try.underlying27
  go_enter Try.func56, Try.ntmps56
  go_wp2
  go_ret
  exact ⟨rfl, rfl⟩
set_option maxHeartbeats 1000000 in
theorem vcopy_flat (k : Int) (b : Bool) (n : Int) (s : ByteArray) (w : World) :
    Calls Try.prog 43 #[.agg #[.int .i64 k, .bool b, .int .i64 n, .string s, .slice none 0 0, .slice none 0 0]] w
      fun e w' => e = .returned (.agg #[.int .i64 k, .bool b, .int .i64 n, .string s, .slice none 0 0, .slice none 0 0]) ∧ Below w.heap.size w w' := by
  go_enter Try.func43, Try.ntmps43
  go_wp2
  go_region_with (first | (go_at_call 55; refine (cloneS_nil _).mono ?_; rintro e w' ⟨rfl, rfl⟩) | (go_at_call 56; refine (cloneV_nil _).mono ?_; rintro e w' ⟨rfl, rfl⟩))
  all_goals
    go_wp2
    refine wp_loop_rounds 1 ?_
    rw [rounds_succ]
    go_wp2
    exact bodyPost_ret (v := .agg #[.int .i64 k, .bool b, .int .i64 n, .string s, .slice none 0 0, .slice none 0 0]) (by simp [results, Try.results43, go_sem]) rfl
      ⟨rfl, by repeat (first | exact Below.refl _ _ | refine bl_alloc ?_ _ | refine bl_drew ?_ | refine bl_drewN ?_ _ | refine bl_set ?_ (by simp; done) _ | refine bl_set ?_ (by simp; omega) _)⟩
end Go.Proofs.Ytbajghjdnjodmaa
