/- Put together: The rules of sorts: what an Op's parts may be, and what comes out; Sorts: of a value, whether a kind is one; An expression's sorts: plain words; the walk of Check. -/
import Derived.Test.YtdlkdecigpaaaaaGreatDoorMg32
namespace Go.Proofs.YtdlkdecigpaaaaaGreatDoor
set_option linter.unusedVariables false
set_option linter.unusedSimpArgs false
open Go.RowKit

/-- What the first and the second part may be, what comes out, whether both must be alike. -/
def ruleL : List (ByteArray × Int × Int × Int × Bool) := [(⟨#[103, 101, 116]⟩, 32, 0, 63, false), (⟨#[97, 116]⟩, 16, 4, 63, false), (⟨#[110, 111, 116]⟩, 2, 0, 2, false), (⟨#[110, 101, 103]⟩, 4, 0, 4, false), (⟨#[111, 114]⟩, 2, 2, 2, false), (⟨#[97, 110, 100]⟩, 2, 2, 2, false), (⟨#[61, 61]⟩, 63, 63, 2, false), (⟨#[33, 61]⟩, 63, 63, 2, false), (⟨#[60]⟩, 12, 12, 2, true), (⟨#[60, 61]⟩, 12, 12, 2, true), (⟨#[62]⟩, 12, 12, 2, true), (⟨#[62, 61]⟩, 12, 12, 2, true), (⟨#[43]⟩, 4, 4, 4, false), (⟨#[45]⟩, 4, 4, 4, false), (⟨#[42]⟩, 4, 4, 4, false), (⟨#[47]⟩, 4, 4, 4, false), (⟨#[37]⟩, 4, 4, 4, false), (⟨#[108, 101, 110]⟩, 56, 0, 4, false), (⟨#[107, 101, 121, 115]⟩, 32, 0, 16, false), (⟨#[104, 97, 115]⟩, 32, 8, 2, false), (⟨#[99, 111, 117, 110, 116]⟩, 16, 63, 4, false), (⟨#[106, 111, 105, 110]⟩, 16, 8, 8, false), (⟨#[115, 117, 109]⟩, 16, 0, 4, false), (⟨#[109, 105, 110]⟩, 16, 0, 4, false), (⟨#[109, 97, 120]⟩, 16, 0, 4, false), (⟨#[97, 108, 108]⟩, 16, 0, 2, false), (⟨#[97, 110, 121]⟩, 16, 0, 2, false), (⟨#[115, 116, 97, 114, 116, 115]⟩, 8, 8, 2, false), (⟨#[101, 110, 100, 115]⟩, 8, 8, 2, false)]
def ruleF (op : ByteArray) : Int × Int × Int × Bool := ((ruleL.find? fun x => decide (x.1 = op)).map (·.2)).getD (0, 0, 0, false)
def RuleSays (q : Int × Int × Int × Bool) (w : World) (e : Ending) (w' : World) : Prop := e = .returned (.agg #[.int .i64 q.1, .int .i64 q.2.1, .int .i64 q.2.2.1, .bool q.2.2.2]) ∧ Keeps [] w w'
theorem sets4 {w W : World} {b : Nat} {t : TypeId} {c0 c1 c2 c3 : Value} (h : W.heap[b]? = some (.cells #[c0, c1, c2, c3] t (0, 0))) (hk : Keeps [] w W) (hb : w.heap.size ≤ b) (v0 v1 v2 v3 : Value) :
    ((((W.setCell ⟨b, 0, none⟩ v0).setCell ⟨b, 1, none⟩ v1).setCell ⟨b, 2, none⟩ v2).setCell ⟨b, 3, none⟩ v3).heap[b]? = some (.cells #[v0, v1, v2, v3] t (0, 0)) ∧ Keeps [] w ((((W.setCell ⟨b, 0, none⟩ v0).setCell ⟨b, 1, none⟩ v1).setCell ⟨b, 2, none⟩ v2).setCell ⟨b, 3, none⟩ v3) :=
  ⟨set_to (set_to (set_to (set_to h 0 v0 rfl) 1 v1 rfl) 2 v2 rfl) 3 v3 rfl, (((hk.set (.inr hb) _).set (.inr hb) _).set (.inr hb) _).set (.inr hb) _⟩
set_option maxRecDepth 20000 in
set_option maxHeartbeats 400000 in
theorem called_0 (w : World) : Calls Tryz.prog 69 #[.string ⟨#[108, 101, 110]⟩] w (RuleSays (56, 0, 4, false) w) := by
  go_enter Tryz.func69, Tryz.ntmps69
  go_wp2_with fail
  exact bodyPost_ret (v := .agg #[.int .i64 56, .int .i64 0, .int .i64 4, .bool false]) (by simp [results, Tryz.results69, go_sem]) rfl ⟨rfl, (Keeps.refl _ _).alloc _⟩
set_option maxRecDepth 20000 in
set_option maxHeartbeats 400000 in
theorem ruledc_0 (w : World) : Calls Tryz.prog 42 #[.string ⟨#[108, 101, 110]⟩] w (RuleSays (56, 0, 4, false) w) := by
  go_enter Tryz.func42, Tryz.ntmps42
  go_wp2_with fail
  refine (called_0 _).mono ?_
  rintro e w1 ⟨rfl, hk1⟩
  have HB : Hid (w1.heap[w.heap.size]? = some (.cells #[.int .i64 0, .int .i64 0, .int .i64 0, .bool false] 91 (0, 0))) := Lib.hid (hk1.same (new_blk _ _))
  have HK : Hid (Keeps [] w w1) := Lib.hid (((Keeps.refl _ _).alloc _).trans hk1)
  have gb := cell_blk HB.out
  have gbf := frozen_blk HB.out
  have hl := hk_lt HB.out
  clear hk1
  go_wp2_with fail
  refine abs_post (F := fun W => W.heap[w.heap.size]? = some (.cells #[.int .i64 56, .int .i64 0, .int .i64 4, .bool false] 91 (0, 0)) ∧ Keeps [] w W) (sets4 HB.out HK.out (Nat.le_refl _) _ _ _ _) (fun W hW => ?_)
  have cr := cell_blk hW.1
  exact bodyPost_ret (v := .agg #[.int .i64 56, .int .i64 0, .int .i64 4, .bool false]) (by simp [results, Tryz.results42, go_sem, cr]) rfl ⟨rfl, hW.2⟩
set_option maxRecDepth 20000 in
set_option maxHeartbeats 400000 in
theorem called_1 (w : World) : Calls Tryz.prog 69 #[.string ⟨#[107, 101, 121, 115]⟩] w (RuleSays (32, 0, 16, false) w) := by
  go_enter Tryz.func69, Tryz.ntmps69
  go_wp2_with fail
  exact bodyPost_ret (v := .agg #[.int .i64 32, .int .i64 0, .int .i64 16, .bool false]) (by simp [results, Tryz.results69, go_sem]) rfl ⟨rfl, (Keeps.refl _ _).alloc _⟩
set_option maxRecDepth 20000 in
set_option maxHeartbeats 400000 in
theorem ruledc_1 (w : World) : Calls Tryz.prog 42 #[.string ⟨#[107, 101, 121, 115]⟩] w (RuleSays (32, 0, 16, false) w) := by
  go_enter Tryz.func42, Tryz.ntmps42
  go_wp2_with fail
  refine (called_1 _).mono ?_
  rintro e w1 ⟨rfl, hk1⟩
  have HB : Hid (w1.heap[w.heap.size]? = some (.cells #[.int .i64 0, .int .i64 0, .int .i64 0, .bool false] 91 (0, 0))) := Lib.hid (hk1.same (new_blk _ _))
  have HK : Hid (Keeps [] w w1) := Lib.hid (((Keeps.refl _ _).alloc _).trans hk1)
  have gb := cell_blk HB.out
  have gbf := frozen_blk HB.out
  have hl := hk_lt HB.out
  clear hk1
  go_wp2_with fail
  refine abs_post (F := fun W => W.heap[w.heap.size]? = some (.cells #[.int .i64 32, .int .i64 0, .int .i64 16, .bool false] 91 (0, 0)) ∧ Keeps [] w W) (sets4 HB.out HK.out (Nat.le_refl _) _ _ _ _) (fun W hW => ?_)
  have cr := cell_blk hW.1
  exact bodyPost_ret (v := .agg #[.int .i64 32, .int .i64 0, .int .i64 16, .bool false]) (by simp [results, Tryz.results42, go_sem, cr]) rfl ⟨rfl, hW.2⟩
set_option maxRecDepth 20000 in
set_option maxHeartbeats 400000 in
theorem called_2 (w : World) : Calls Tryz.prog 69 #[.string ⟨#[104, 97, 115]⟩] w (RuleSays (32, 8, 2, false) w) := by
  go_enter Tryz.func69, Tryz.ntmps69
  go_wp2_with fail
  exact bodyPost_ret (v := .agg #[.int .i64 32, .int .i64 8, .int .i64 2, .bool false]) (by simp [results, Tryz.results69, go_sem]) rfl ⟨rfl, (Keeps.refl _ _).alloc _⟩
set_option maxRecDepth 20000 in
set_option maxHeartbeats 400000 in
theorem ruledc_2 (w : World) : Calls Tryz.prog 42 #[.string ⟨#[104, 97, 115]⟩] w (RuleSays (32, 8, 2, false) w) := by
  go_enter Tryz.func42, Tryz.ntmps42
  go_wp2_with fail
  refine (called_2 _).mono ?_
  rintro e w1 ⟨rfl, hk1⟩
  have HB : Hid (w1.heap[w.heap.size]? = some (.cells #[.int .i64 0, .int .i64 0, .int .i64 0, .bool false] 91 (0, 0))) := Lib.hid (hk1.same (new_blk _ _))
  have HK : Hid (Keeps [] w w1) := Lib.hid (((Keeps.refl _ _).alloc _).trans hk1)
  have gb := cell_blk HB.out
  have gbf := frozen_blk HB.out
  have hl := hk_lt HB.out
  clear hk1
  go_wp2_with fail
  refine abs_post (F := fun W => W.heap[w.heap.size]? = some (.cells #[.int .i64 32, .int .i64 8, .int .i64 2, .bool false] 91 (0, 0)) ∧ Keeps [] w W) (sets4 HB.out HK.out (Nat.le_refl _) _ _ _ _) (fun W hW => ?_)
  have cr := cell_blk hW.1
  exact bodyPost_ret (v := .agg #[.int .i64 32, .int .i64 8, .int .i64 2, .bool false]) (by simp [results, Tryz.results42, go_sem, cr]) rfl ⟨rfl, hW.2⟩
set_option maxRecDepth 20000 in
set_option maxHeartbeats 400000 in
theorem called_3 (w : World) : Calls Tryz.prog 69 #[.string ⟨#[99, 111, 117, 110, 116]⟩] w (RuleSays (16, 63, 4, false) w) := by
  go_enter Tryz.func69, Tryz.ntmps69
  go_wp2_with fail
  exact bodyPost_ret (v := .agg #[.int .i64 16, .int .i64 63, .int .i64 4, .bool false]) (by simp [results, Tryz.results69, go_sem]) rfl ⟨rfl, (Keeps.refl _ _).alloc _⟩
set_option maxRecDepth 20000 in
set_option maxHeartbeats 400000 in
theorem ruledc_3 (w : World) : Calls Tryz.prog 42 #[.string ⟨#[99, 111, 117, 110, 116]⟩] w (RuleSays (16, 63, 4, false) w) := by
  go_enter Tryz.func42, Tryz.ntmps42
  go_wp2_with fail
  refine (called_3 _).mono ?_
  rintro e w1 ⟨rfl, hk1⟩
  have HB : Hid (w1.heap[w.heap.size]? = some (.cells #[.int .i64 0, .int .i64 0, .int .i64 0, .bool false] 91 (0, 0))) := Lib.hid (hk1.same (new_blk _ _))
  have HK : Hid (Keeps [] w w1) := Lib.hid (((Keeps.refl _ _).alloc _).trans hk1)
  have gb := cell_blk HB.out
  have gbf := frozen_blk HB.out
  have hl := hk_lt HB.out
  clear hk1
  go_wp2_with fail
  refine abs_post (F := fun W => W.heap[w.heap.size]? = some (.cells #[.int .i64 16, .int .i64 63, .int .i64 4, .bool false] 91 (0, 0)) ∧ Keeps [] w W) (sets4 HB.out HK.out (Nat.le_refl _) _ _ _ _) (fun W hW => ?_)
  have cr := cell_blk hW.1
  exact bodyPost_ret (v := .agg #[.int .i64 16, .int .i64 63, .int .i64 4, .bool false]) (by simp [results, Tryz.results42, go_sem, cr]) rfl ⟨rfl, hW.2⟩
set_option maxRecDepth 20000 in
set_option maxHeartbeats 400000 in
theorem called_4 (w : World) : Calls Tryz.prog 69 #[.string ⟨#[106, 111, 105, 110]⟩] w (RuleSays (16, 8, 8, false) w) := by
  go_enter Tryz.func69, Tryz.ntmps69
  go_wp2_with fail
  exact bodyPost_ret (v := .agg #[.int .i64 16, .int .i64 8, .int .i64 8, .bool false]) (by simp [results, Tryz.results69, go_sem]) rfl ⟨rfl, (Keeps.refl _ _).alloc _⟩
set_option maxRecDepth 20000 in
set_option maxHeartbeats 400000 in
theorem ruledc_4 (w : World) : Calls Tryz.prog 42 #[.string ⟨#[106, 111, 105, 110]⟩] w (RuleSays (16, 8, 8, false) w) := by
  go_enter Tryz.func42, Tryz.ntmps42
  go_wp2_with fail
  refine (called_4 _).mono ?_
  rintro e w1 ⟨rfl, hk1⟩
  have HB : Hid (w1.heap[w.heap.size]? = some (.cells #[.int .i64 0, .int .i64 0, .int .i64 0, .bool false] 91 (0, 0))) := Lib.hid (hk1.same (new_blk _ _))
  have HK : Hid (Keeps [] w w1) := Lib.hid (((Keeps.refl _ _).alloc _).trans hk1)
  have gb := cell_blk HB.out
  have gbf := frozen_blk HB.out
  have hl := hk_lt HB.out
  clear hk1
  go_wp2_with fail
  refine abs_post (F := fun W => W.heap[w.heap.size]? = some (.cells #[.int .i64 16, .int .i64 8, .int .i64 8, .bool false] 91 (0, 0)) ∧ Keeps [] w W) (sets4 HB.out HK.out (Nat.le_refl _) _ _ _ _) (fun W hW => ?_)
  have cr := cell_blk hW.1
  exact bodyPost_ret (v := .agg #[.int .i64 16, .int .i64 8, .int .i64 8, .bool false]) (by simp [results, Tryz.results42, go_sem, cr]) rfl ⟨rfl, hW.2⟩
set_option maxRecDepth 20000 in
set_option maxHeartbeats 400000 in
theorem called_5 (w : World) : Calls Tryz.prog 69 #[.string ⟨#[115, 117, 109]⟩] w (RuleSays (16, 0, 4, false) w) := by
  go_enter Tryz.func69, Tryz.ntmps69
  go_wp2_with fail
  exact bodyPost_ret (v := .agg #[.int .i64 16, .int .i64 0, .int .i64 4, .bool false]) (by simp [results, Tryz.results69, go_sem]) rfl ⟨rfl, (Keeps.refl _ _).alloc _⟩
set_option maxRecDepth 20000 in
set_option maxHeartbeats 400000 in
theorem ruledc_5 (w : World) : Calls Tryz.prog 42 #[.string ⟨#[115, 117, 109]⟩] w (RuleSays (16, 0, 4, false) w) := by
  go_enter Tryz.func42, Tryz.ntmps42
  go_wp2_with fail
  refine (called_5 _).mono ?_
  rintro e w1 ⟨rfl, hk1⟩
  have HB : Hid (w1.heap[w.heap.size]? = some (.cells #[.int .i64 0, .int .i64 0, .int .i64 0, .bool false] 91 (0, 0))) := Lib.hid (hk1.same (new_blk _ _))
  have HK : Hid (Keeps [] w w1) := Lib.hid (((Keeps.refl _ _).alloc _).trans hk1)
  have gb := cell_blk HB.out
  have gbf := frozen_blk HB.out
  have hl := hk_lt HB.out
  clear hk1
  go_wp2_with fail
  refine abs_post (F := fun W => W.heap[w.heap.size]? = some (.cells #[.int .i64 16, .int .i64 0, .int .i64 4, .bool false] 91 (0, 0)) ∧ Keeps [] w W) (sets4 HB.out HK.out (Nat.le_refl _) _ _ _ _) (fun W hW => ?_)
  have cr := cell_blk hW.1
  exact bodyPost_ret (v := .agg #[.int .i64 16, .int .i64 0, .int .i64 4, .bool false]) (by simp [results, Tryz.results42, go_sem, cr]) rfl ⟨rfl, hW.2⟩
set_option maxRecDepth 20000 in
set_option maxHeartbeats 400000 in
theorem called_6 (w : World) : Calls Tryz.prog 69 #[.string ⟨#[109, 105, 110]⟩] w (RuleSays (16, 0, 4, false) w) := by
  go_enter Tryz.func69, Tryz.ntmps69
  go_wp2_with fail
  exact bodyPost_ret (v := .agg #[.int .i64 16, .int .i64 0, .int .i64 4, .bool false]) (by simp [results, Tryz.results69, go_sem]) rfl ⟨rfl, (Keeps.refl _ _).alloc _⟩
set_option maxRecDepth 20000 in
set_option maxHeartbeats 400000 in
theorem ruledc_6 (w : World) : Calls Tryz.prog 42 #[.string ⟨#[109, 105, 110]⟩] w (RuleSays (16, 0, 4, false) w) := by
  go_enter Tryz.func42, Tryz.ntmps42
  go_wp2_with fail
  refine (called_6 _).mono ?_
  rintro e w1 ⟨rfl, hk1⟩
  have HB : Hid (w1.heap[w.heap.size]? = some (.cells #[.int .i64 0, .int .i64 0, .int .i64 0, .bool false] 91 (0, 0))) := Lib.hid (hk1.same (new_blk _ _))
  have HK : Hid (Keeps [] w w1) := Lib.hid (((Keeps.refl _ _).alloc _).trans hk1)
  have gb := cell_blk HB.out
  have gbf := frozen_blk HB.out
  have hl := hk_lt HB.out
  clear hk1
  go_wp2_with fail
  refine abs_post (F := fun W => W.heap[w.heap.size]? = some (.cells #[.int .i64 16, .int .i64 0, .int .i64 4, .bool false] 91 (0, 0)) ∧ Keeps [] w W) (sets4 HB.out HK.out (Nat.le_refl _) _ _ _ _) (fun W hW => ?_)
  have cr := cell_blk hW.1
  exact bodyPost_ret (v := .agg #[.int .i64 16, .int .i64 0, .int .i64 4, .bool false]) (by simp [results, Tryz.results42, go_sem, cr]) rfl ⟨rfl, hW.2⟩
set_option maxRecDepth 20000 in
set_option maxHeartbeats 400000 in
theorem called_7 (w : World) : Calls Tryz.prog 69 #[.string ⟨#[109, 97, 120]⟩] w (RuleSays (16, 0, 4, false) w) := by
  go_enter Tryz.func69, Tryz.ntmps69
  go_wp2_with fail
  exact bodyPost_ret (v := .agg #[.int .i64 16, .int .i64 0, .int .i64 4, .bool false]) (by simp [results, Tryz.results69, go_sem]) rfl ⟨rfl, (Keeps.refl _ _).alloc _⟩
set_option maxRecDepth 20000 in
set_option maxHeartbeats 400000 in
theorem ruledc_7 (w : World) : Calls Tryz.prog 42 #[.string ⟨#[109, 97, 120]⟩] w (RuleSays (16, 0, 4, false) w) := by
  go_enter Tryz.func42, Tryz.ntmps42
  go_wp2_with fail
  refine (called_7 _).mono ?_
  rintro e w1 ⟨rfl, hk1⟩
  have HB : Hid (w1.heap[w.heap.size]? = some (.cells #[.int .i64 0, .int .i64 0, .int .i64 0, .bool false] 91 (0, 0))) := Lib.hid (hk1.same (new_blk _ _))
  have HK : Hid (Keeps [] w w1) := Lib.hid (((Keeps.refl _ _).alloc _).trans hk1)
  have gb := cell_blk HB.out
  have gbf := frozen_blk HB.out
  have hl := hk_lt HB.out
  clear hk1
  go_wp2_with fail
  refine abs_post (F := fun W => W.heap[w.heap.size]? = some (.cells #[.int .i64 16, .int .i64 0, .int .i64 4, .bool false] 91 (0, 0)) ∧ Keeps [] w W) (sets4 HB.out HK.out (Nat.le_refl _) _ _ _ _) (fun W hW => ?_)
  have cr := cell_blk hW.1
  exact bodyPost_ret (v := .agg #[.int .i64 16, .int .i64 0, .int .i64 4, .bool false]) (by simp [results, Tryz.results42, go_sem, cr]) rfl ⟨rfl, hW.2⟩
set_option maxRecDepth 20000 in
set_option maxHeartbeats 400000 in
theorem called_8 (w : World) : Calls Tryz.prog 69 #[.string ⟨#[97, 108, 108]⟩] w (RuleSays (16, 0, 2, false) w) := by
  go_enter Tryz.func69, Tryz.ntmps69
  go_wp2_with fail
  exact bodyPost_ret (v := .agg #[.int .i64 16, .int .i64 0, .int .i64 2, .bool false]) (by simp [results, Tryz.results69, go_sem]) rfl ⟨rfl, (Keeps.refl _ _).alloc _⟩
set_option maxRecDepth 20000 in
set_option maxHeartbeats 400000 in
theorem ruledc_8 (w : World) : Calls Tryz.prog 42 #[.string ⟨#[97, 108, 108]⟩] w (RuleSays (16, 0, 2, false) w) := by
  go_enter Tryz.func42, Tryz.ntmps42
  go_wp2_with fail
  refine (called_8 _).mono ?_
  rintro e w1 ⟨rfl, hk1⟩
  have HB : Hid (w1.heap[w.heap.size]? = some (.cells #[.int .i64 0, .int .i64 0, .int .i64 0, .bool false] 91 (0, 0))) := Lib.hid (hk1.same (new_blk _ _))
  have HK : Hid (Keeps [] w w1) := Lib.hid (((Keeps.refl _ _).alloc _).trans hk1)
  have gb := cell_blk HB.out
  have gbf := frozen_blk HB.out
  have hl := hk_lt HB.out
  clear hk1
  go_wp2_with fail
  refine abs_post (F := fun W => W.heap[w.heap.size]? = some (.cells #[.int .i64 16, .int .i64 0, .int .i64 2, .bool false] 91 (0, 0)) ∧ Keeps [] w W) (sets4 HB.out HK.out (Nat.le_refl _) _ _ _ _) (fun W hW => ?_)
  have cr := cell_blk hW.1
  exact bodyPost_ret (v := .agg #[.int .i64 16, .int .i64 0, .int .i64 2, .bool false]) (by simp [results, Tryz.results42, go_sem, cr]) rfl ⟨rfl, hW.2⟩
set_option maxRecDepth 20000 in
set_option maxHeartbeats 400000 in
theorem called_9 (w : World) : Calls Tryz.prog 69 #[.string ⟨#[97, 110, 121]⟩] w (RuleSays (16, 0, 2, false) w) := by
  go_enter Tryz.func69, Tryz.ntmps69
  go_wp2_with fail
  exact bodyPost_ret (v := .agg #[.int .i64 16, .int .i64 0, .int .i64 2, .bool false]) (by simp [results, Tryz.results69, go_sem]) rfl ⟨rfl, (Keeps.refl _ _).alloc _⟩
set_option maxRecDepth 20000 in
set_option maxHeartbeats 400000 in
theorem ruledc_9 (w : World) : Calls Tryz.prog 42 #[.string ⟨#[97, 110, 121]⟩] w (RuleSays (16, 0, 2, false) w) := by
  go_enter Tryz.func42, Tryz.ntmps42
  go_wp2_with fail
  refine (called_9 _).mono ?_
  rintro e w1 ⟨rfl, hk1⟩
  have HB : Hid (w1.heap[w.heap.size]? = some (.cells #[.int .i64 0, .int .i64 0, .int .i64 0, .bool false] 91 (0, 0))) := Lib.hid (hk1.same (new_blk _ _))
  have HK : Hid (Keeps [] w w1) := Lib.hid (((Keeps.refl _ _).alloc _).trans hk1)
  have gb := cell_blk HB.out
  have gbf := frozen_blk HB.out
  have hl := hk_lt HB.out
  clear hk1
  go_wp2_with fail
  refine abs_post (F := fun W => W.heap[w.heap.size]? = some (.cells #[.int .i64 16, .int .i64 0, .int .i64 2, .bool false] 91 (0, 0)) ∧ Keeps [] w W) (sets4 HB.out HK.out (Nat.le_refl _) _ _ _ _) (fun W hW => ?_)
  have cr := cell_blk hW.1
  exact bodyPost_ret (v := .agg #[.int .i64 16, .int .i64 0, .int .i64 2, .bool false]) (by simp [results, Tryz.results42, go_sem, cr]) rfl ⟨rfl, hW.2⟩
set_option maxRecDepth 20000 in
set_option maxHeartbeats 400000 in
theorem called_10 (w : World) : Calls Tryz.prog 69 #[.string ⟨#[115, 116, 97, 114, 116, 115]⟩] w (RuleSays (8, 8, 2, false) w) := by
  go_enter Tryz.func69, Tryz.ntmps69
  go_wp2_with fail
  exact bodyPost_ret (v := .agg #[.int .i64 8, .int .i64 8, .int .i64 2, .bool false]) (by simp [results, Tryz.results69, go_sem]) rfl ⟨rfl, (Keeps.refl _ _).alloc _⟩
set_option maxRecDepth 20000 in
set_option maxHeartbeats 400000 in
theorem ruledc_10 (w : World) : Calls Tryz.prog 42 #[.string ⟨#[115, 116, 97, 114, 116, 115]⟩] w (RuleSays (8, 8, 2, false) w) := by
  go_enter Tryz.func42, Tryz.ntmps42
  go_wp2_with fail
  refine (called_10 _).mono ?_
  rintro e w1 ⟨rfl, hk1⟩
  have HB : Hid (w1.heap[w.heap.size]? = some (.cells #[.int .i64 0, .int .i64 0, .int .i64 0, .bool false] 91 (0, 0))) := Lib.hid (hk1.same (new_blk _ _))
  have HK : Hid (Keeps [] w w1) := Lib.hid (((Keeps.refl _ _).alloc _).trans hk1)
  have gb := cell_blk HB.out
  have gbf := frozen_blk HB.out
  have hl := hk_lt HB.out
  clear hk1
  go_wp2_with fail
  refine abs_post (F := fun W => W.heap[w.heap.size]? = some (.cells #[.int .i64 8, .int .i64 8, .int .i64 2, .bool false] 91 (0, 0)) ∧ Keeps [] w W) (sets4 HB.out HK.out (Nat.le_refl _) _ _ _ _) (fun W hW => ?_)
  have cr := cell_blk hW.1
  exact bodyPost_ret (v := .agg #[.int .i64 8, .int .i64 8, .int .i64 2, .bool false]) (by simp [results, Tryz.results42, go_sem, cr]) rfl ⟨rfl, hW.2⟩
set_option maxRecDepth 20000 in
set_option maxHeartbeats 400000 in
theorem called_11 (w : World) : Calls Tryz.prog 69 #[.string ⟨#[101, 110, 100, 115]⟩] w (RuleSays (8, 8, 2, false) w) := by
  go_enter Tryz.func69, Tryz.ntmps69
  go_wp2_with fail
  exact bodyPost_ret (v := .agg #[.int .i64 8, .int .i64 8, .int .i64 2, .bool false]) (by simp [results, Tryz.results69, go_sem]) rfl ⟨rfl, (Keeps.refl _ _).alloc _⟩
set_option maxRecDepth 20000 in
set_option maxHeartbeats 400000 in
theorem ruledc_11 (w : World) : Calls Tryz.prog 42 #[.string ⟨#[101, 110, 100, 115]⟩] w (RuleSays (8, 8, 2, false) w) := by
  go_enter Tryz.func42, Tryz.ntmps42
  go_wp2_with fail
  refine (called_11 _).mono ?_
  rintro e w1 ⟨rfl, hk1⟩
  have HB : Hid (w1.heap[w.heap.size]? = some (.cells #[.int .i64 0, .int .i64 0, .int .i64 0, .bool false] 91 (0, 0))) := Lib.hid (hk1.same (new_blk _ _))
  have HK : Hid (Keeps [] w w1) := Lib.hid (((Keeps.refl _ _).alloc _).trans hk1)
  have gb := cell_blk HB.out
  have gbf := frozen_blk HB.out
  have hl := hk_lt HB.out
  clear hk1
  go_wp2_with fail
  refine abs_post (F := fun W => W.heap[w.heap.size]? = some (.cells #[.int .i64 8, .int .i64 8, .int .i64 2, .bool false] 91 (0, 0)) ∧ Keeps [] w W) (sets4 HB.out HK.out (Nat.le_refl _) _ _ _ _) (fun W hW => ?_)
  have cr := cell_blk hW.1
  exact bodyPost_ret (v := .agg #[.int .i64 8, .int .i64 8, .int .i64 2, .bool false]) (by simp [results, Tryz.results42, go_sem, cr]) rfl ⟨rfl, hW.2⟩
set_option maxRecDepth 20000 in
set_option maxHeartbeats 400000 in
theorem ruled_0 (w : World) : Calls Tryz.prog 42 #[.string ⟨#[103, 101, 116]⟩] w (RuleSays (32, 0, 63, false) w) := by
  go_enter Tryz.func42, Tryz.ntmps42
  go_wp2_with fail
  exact bodyPost_ret (v := .agg #[.int .i64 32, .int .i64 0, .int .i64 63, .bool false]) (by simp [results, Tryz.results42, go_sem]) rfl ⟨rfl, (Keeps.refl _ _).alloc _⟩
set_option maxRecDepth 20000 in
set_option maxHeartbeats 400000 in
theorem ruled_1 (w : World) : Calls Tryz.prog 42 #[.string ⟨#[97, 116]⟩] w (RuleSays (16, 4, 63, false) w) := by
  go_enter Tryz.func42, Tryz.ntmps42
  go_wp2_with fail
  exact bodyPost_ret (v := .agg #[.int .i64 16, .int .i64 4, .int .i64 63, .bool false]) (by simp [results, Tryz.results42, go_sem]) rfl ⟨rfl, (Keeps.refl _ _).alloc _⟩
set_option maxRecDepth 20000 in
set_option maxHeartbeats 400000 in
theorem ruled_2 (w : World) : Calls Tryz.prog 42 #[.string ⟨#[110, 111, 116]⟩] w (RuleSays (2, 0, 2, false) w) := by
  go_enter Tryz.func42, Tryz.ntmps42
  go_wp2_with fail
  exact bodyPost_ret (v := .agg #[.int .i64 2, .int .i64 0, .int .i64 2, .bool false]) (by simp [results, Tryz.results42, go_sem]) rfl ⟨rfl, (Keeps.refl _ _).alloc _⟩
set_option maxRecDepth 20000 in
set_option maxHeartbeats 400000 in
theorem ruled_3 (w : World) : Calls Tryz.prog 42 #[.string ⟨#[110, 101, 103]⟩] w (RuleSays (4, 0, 4, false) w) := by
  go_enter Tryz.func42, Tryz.ntmps42
  go_wp2_with fail
  exact bodyPost_ret (v := .agg #[.int .i64 4, .int .i64 0, .int .i64 4, .bool false]) (by simp [results, Tryz.results42, go_sem]) rfl ⟨rfl, (Keeps.refl _ _).alloc _⟩
set_option maxRecDepth 20000 in
set_option maxHeartbeats 400000 in
theorem ruled_4 (w : World) : Calls Tryz.prog 42 #[.string ⟨#[111, 114]⟩] w (RuleSays (2, 2, 2, false) w) := by
  go_enter Tryz.func42, Tryz.ntmps42
  go_wp2_with fail
  exact bodyPost_ret (v := .agg #[.int .i64 2, .int .i64 2, .int .i64 2, .bool false]) (by simp [results, Tryz.results42, go_sem]) rfl ⟨rfl, (Keeps.refl _ _).alloc _⟩
set_option maxRecDepth 20000 in
set_option maxHeartbeats 400000 in
theorem ruled_5 (w : World) : Calls Tryz.prog 42 #[.string ⟨#[97, 110, 100]⟩] w (RuleSays (2, 2, 2, false) w) := by
  go_enter Tryz.func42, Tryz.ntmps42
  go_wp2_with fail
  exact bodyPost_ret (v := .agg #[.int .i64 2, .int .i64 2, .int .i64 2, .bool false]) (by simp [results, Tryz.results42, go_sem]) rfl ⟨rfl, (Keeps.refl _ _).alloc _⟩
set_option maxRecDepth 20000 in
set_option maxHeartbeats 400000 in
theorem ruled_6 (w : World) : Calls Tryz.prog 42 #[.string ⟨#[61, 61]⟩] w (RuleSays (63, 63, 2, false) w) := by
  go_enter Tryz.func42, Tryz.ntmps42
  go_wp2_with fail
  exact bodyPost_ret (v := .agg #[.int .i64 63, .int .i64 63, .int .i64 2, .bool false]) (by simp [results, Tryz.results42, go_sem]) rfl ⟨rfl, (Keeps.refl _ _).alloc _⟩
set_option maxRecDepth 20000 in
set_option maxHeartbeats 400000 in
theorem ruled_7 (w : World) : Calls Tryz.prog 42 #[.string ⟨#[33, 61]⟩] w (RuleSays (63, 63, 2, false) w) := by
  go_enter Tryz.func42, Tryz.ntmps42
  go_wp2_with fail
  exact bodyPost_ret (v := .agg #[.int .i64 63, .int .i64 63, .int .i64 2, .bool false]) (by simp [results, Tryz.results42, go_sem]) rfl ⟨rfl, (Keeps.refl _ _).alloc _⟩
set_option maxRecDepth 20000 in
set_option maxHeartbeats 400000 in
theorem ruled_8 (w : World) : Calls Tryz.prog 42 #[.string ⟨#[60]⟩] w (RuleSays (12, 12, 2, true) w) := by
  go_enter Tryz.func42, Tryz.ntmps42
  go_wp2_with fail
  exact bodyPost_ret (v := .agg #[.int .i64 12, .int .i64 12, .int .i64 2, .bool true]) (by simp [results, Tryz.results42, go_sem]) rfl ⟨rfl, (Keeps.refl _ _).alloc _⟩
set_option maxRecDepth 20000 in
set_option maxHeartbeats 400000 in
theorem ruled_9 (w : World) : Calls Tryz.prog 42 #[.string ⟨#[60, 61]⟩] w (RuleSays (12, 12, 2, true) w) := by
  go_enter Tryz.func42, Tryz.ntmps42
  go_wp2_with fail
  exact bodyPost_ret (v := .agg #[.int .i64 12, .int .i64 12, .int .i64 2, .bool true]) (by simp [results, Tryz.results42, go_sem]) rfl ⟨rfl, (Keeps.refl _ _).alloc _⟩
set_option maxRecDepth 20000 in
set_option maxHeartbeats 400000 in
theorem ruled_10 (w : World) : Calls Tryz.prog 42 #[.string ⟨#[62]⟩] w (RuleSays (12, 12, 2, true) w) := by
  go_enter Tryz.func42, Tryz.ntmps42
  go_wp2_with fail
  exact bodyPost_ret (v := .agg #[.int .i64 12, .int .i64 12, .int .i64 2, .bool true]) (by simp [results, Tryz.results42, go_sem]) rfl ⟨rfl, (Keeps.refl _ _).alloc _⟩
set_option maxRecDepth 20000 in
set_option maxHeartbeats 400000 in
theorem ruled_11 (w : World) : Calls Tryz.prog 42 #[.string ⟨#[62, 61]⟩] w (RuleSays (12, 12, 2, true) w) := by
  go_enter Tryz.func42, Tryz.ntmps42
  go_wp2_with fail
  exact bodyPost_ret (v := .agg #[.int .i64 12, .int .i64 12, .int .i64 2, .bool true]) (by simp [results, Tryz.results42, go_sem]) rfl ⟨rfl, (Keeps.refl _ _).alloc _⟩
set_option maxRecDepth 20000 in
set_option maxHeartbeats 400000 in
theorem ruled_12 (w : World) : Calls Tryz.prog 42 #[.string ⟨#[43]⟩] w (RuleSays (4, 4, 4, false) w) := by
  go_enter Tryz.func42, Tryz.ntmps42
  go_wp2_with fail
  exact bodyPost_ret (v := .agg #[.int .i64 4, .int .i64 4, .int .i64 4, .bool false]) (by simp [results, Tryz.results42, go_sem]) rfl ⟨rfl, (Keeps.refl _ _).alloc _⟩
set_option maxRecDepth 20000 in
set_option maxHeartbeats 400000 in
theorem ruled_13 (w : World) : Calls Tryz.prog 42 #[.string ⟨#[45]⟩] w (RuleSays (4, 4, 4, false) w) := by
  go_enter Tryz.func42, Tryz.ntmps42
  go_wp2_with fail
  exact bodyPost_ret (v := .agg #[.int .i64 4, .int .i64 4, .int .i64 4, .bool false]) (by simp [results, Tryz.results42, go_sem]) rfl ⟨rfl, (Keeps.refl _ _).alloc _⟩
set_option maxRecDepth 20000 in
set_option maxHeartbeats 400000 in
theorem ruled_14 (w : World) : Calls Tryz.prog 42 #[.string ⟨#[42]⟩] w (RuleSays (4, 4, 4, false) w) := by
  go_enter Tryz.func42, Tryz.ntmps42
  go_wp2_with fail
  exact bodyPost_ret (v := .agg #[.int .i64 4, .int .i64 4, .int .i64 4, .bool false]) (by simp [results, Tryz.results42, go_sem]) rfl ⟨rfl, (Keeps.refl _ _).alloc _⟩
set_option maxRecDepth 20000 in
set_option maxHeartbeats 400000 in
theorem ruled_15 (w : World) : Calls Tryz.prog 42 #[.string ⟨#[47]⟩] w (RuleSays (4, 4, 4, false) w) := by
  go_enter Tryz.func42, Tryz.ntmps42
  go_wp2_with fail
  exact bodyPost_ret (v := .agg #[.int .i64 4, .int .i64 4, .int .i64 4, .bool false]) (by simp [results, Tryz.results42, go_sem]) rfl ⟨rfl, (Keeps.refl _ _).alloc _⟩
set_option maxRecDepth 20000 in
set_option maxHeartbeats 400000 in
theorem ruled_16 (w : World) : Calls Tryz.prog 42 #[.string ⟨#[37]⟩] w (RuleSays (4, 4, 4, false) w) := by
  go_enter Tryz.func42, Tryz.ntmps42
  go_wp2_with fail
  exact bodyPost_ret (v := .agg #[.int .i64 4, .int .i64 4, .int .i64 4, .bool false]) (by simp [results, Tryz.results42, go_sem]) rfl ⟨rfl, (Keeps.refl _ _).alloc _⟩
theorem ruled_any {op : ByteArray} (h : memL op (ruleL.map (·.1)) = true) (w : World) : Calls Tryz.prog 42 #[.string op] w (RuleSays (ruleF op) w) := by
  rw [memL_iff] at h
  simp only [ruleL, List.map_cons, List.map_nil, List.mem_cons, List.not_mem_nil, or_false] at h
  rcases h with rfl | rfl | rfl | rfl | rfl | rfl | rfl | rfl | rfl | rfl | rfl | rfl | rfl | rfl | rfl | rfl | rfl | rfl | rfl | rfl | rfl | rfl | rfl | rfl | rfl | rfl | rfl | rfl | rfl
  · exact ruled_0 w
  · exact ruled_1 w
  · exact ruled_2 w
  · exact ruled_3 w
  · exact ruled_4 w
  · exact ruled_5 w
  · exact ruled_6 w
  · exact ruled_7 w
  · exact ruled_8 w
  · exact ruled_9 w
  · exact ruled_10 w
  · exact ruled_11 w
  · exact ruled_12 w
  · exact ruled_13 w
  · exact ruled_14 w
  · exact ruled_15 w
  · exact ruled_16 w
  · exact ruledc_0 w
  · exact ruledc_1 w
  · exact ruledc_2 w
  · exact ruledc_3 w
  · exact ruledc_4 w
  · exact ruledc_5 w
  · exact ruledc_6 w
  · exact ruledc_7 w
  · exact ruledc_8 w
  · exact ruledc_9 w
  · exact ruledc_10 w
  · exact ruledc_11 w
end Go.Proofs.YtdlkdecigpaaaaaGreatDoor
namespace Go.Proofs.YtdlkdecigpaaaaaGreatDoor
set_option linter.unusedVariables false
set_option linter.unusedSimpArgs false
open Go.RowKit

/-- Whether a kind is one of some sorts. -/
def hasK (m k : Int) : Bool := decide (0 ≤ k ∧ k ≤ 5) && (bits BinOp.and IntKind.i64 m (2 ^ k.toNat) != 0)
set_option maxRecDepth 20000 in
set_option maxHeartbeats 400000 in
theorem shas_in (m k : Int) (w : World) (h0 : 0 ≤ m) (h1 : m ≤ 63) (k0 : 0 ≤ k) (k1 : k ≤ 5) : Calls Tryz.prog 21 #[.int .i64 m, .int .i64 k] w fun e w' => e = .returned (.bool (hasK m k)) ∧ w = w' := by
  rcases (by omega : k = 0 ∨ k = 1 ∨ k = 2 ∨ k = 3 ∨ k = 4 ∨ k = 5) with rfl | rfl | rfl | rfl | rfl | rfl
  all_goals
    go_enter Tryz.func21, Tryz.ntmps21
    go_wp2
    go_ret
    exact ⟨rfl, rfl⟩
set_option maxRecDepth 20000 in
set_option maxHeartbeats 400000 in
theorem shas_out (m k : Int) (w : World) (hk : k < 0 ∨ 5 < k) (k0 : -9223372036854775808 ≤ k) (k1 : k ≤ 9223372036854775807) : Calls Tryz.prog 21 #[.int .i64 m, .int .i64 k] w fun e w' => e = .returned (.bool false) ∧ w = w' := by
  rcases hk with hk | hk
  all_goals
    go_enter Tryz.func21, Tryz.ntmps21
    go_wp2
    go_ret
    exact ⟨rfl, rfl⟩
set_option maxRecDepth 20000 in
set_option maxHeartbeats 400000 in
theorem sof_any (k n : Int) (b : Bool) (s : ByteArray) (a1 a2 : Option Addr) (n1 c1 n2 c2 : Nat) (w : World) (h0 : 0 ≤ k) (h1 : k ≤ 5) : Calls Tryz.prog 22 #[.agg #[.int .i64 k, .bool b, .int .i64 n, .string s, .slice a1 n1 c1, .slice a2 n2 c2]] w fun e w' => e = .returned (.int .i64 (2 ^ k.toNat)) ∧ Keeps [] w w' := by
  rcases (by omega : k = 0 ∨ k = 1 ∨ k = 2 ∨ k = 3 ∨ k = 4 ∨ k = 5) with rfl | rfl | rfl | rfl | rfl | rfl
  all_goals
    go_enter Tryz.func22, Tryz.ntmps22
    go_wp2
    go_ret
    exact ⟨rfl, (Keeps.refl _ _).alloc _⟩
theorem two_pow (k : Int) (h0 : 0 ≤ k) (h1 : k ≤ 5) : (0 : Int) < 2 ^ k.toNat ∧ (2 : Int) ^ k.toNat ≤ 32 := by
  rcases (by omega : k = 0 ∨ k = 1 ∨ k = 2 ∨ k = 3 ∨ k = 4 ∨ k = 5) with rfl | rfl | rfl | rfl | rfl | rfl <;> decide
/-- The first place of a text in a row. -/
def findL (l : List ByteArray) (t : ByteArray) : Option Nat := l.findIdx? fun x => decide (x = t)
section
variable (l : List ByteArray) (vL : Value) (S : Nat → Prop) (t : ByteArray) (w : World)
set_option maxRecDepth 20000 in
set_option maxHeartbeats 400000 in
theorem sindex_none (hL : Sl w S 1 vL l.length (l.map Value.string)) (hl : l.length ≤ 1000000) (hn : ∀ (j : Nat) (hj : j < l.length), l[j] ≠ t) :
    Calls Tryz.prog 41 #[vL, .string t] w fun e w' => e = .returned (.int .i64 (-1)) ∧ w = w' := by
  obtain ⟨aL, cL, rfl, hcL, _⟩ := hL.shape
  have HL := Lib.hid hL
  have HN := Lib.hid hn
  clear hL hn
  go_enter Tryz.func41, Tryz.ntmps41
  go_wp2
  go_loop [8] (fun v => ∃ k : Nat, k ≤ l.length ∧ v = .int .i64 k) (fun v => l.length - (intOf v).toNat)
  case atStart => exact ⟨0, Nat.zero_le _, rfl⟩
  case round =>
    obtain ⟨k, hk, rfl⟩ := hrel
    by_cases hlt : k < l.length
    · obtain ⟨g', o', c', hv, _, _, _, hcells⟩ := HL.out.at (by omega)
      cases hv
      have y0 := hcells k (.string l[k]) (by rw [List.getElem?_map, List.getElem?_eq_getElem hlt]; rfl)
      have y1 : (t.toList == l[k].toList) = false := str_bne fun e => HN.out k hlt e.symm
      have y2 : (l[k].toList == t.toList) = false := str_bne (HN.out k hlt)
      clear hcells
      go_wp2
      go_round
      case rel => exact ⟨k + 1, by omega, by go_num⟩
      case measure => simp [intOf]; omega
    · obtain rfl : k = l.length := by omega
      go_wp2
      go_ret
      exact ⟨rfl, rfl⟩
set_option maxRecDepth 20000 in
set_option maxHeartbeats 400000 in
theorem sindex_some (q : Nat) (hq : q < l.length) (hL : Sl w S 1 vL l.length (l.map Value.string)) (hl : l.length ≤ 1000000) (hy : l[q] = t) (hn : ∀ (j : Nat) (hj : j < l.length), j < q → l[j] ≠ t) :
    Calls Tryz.prog 41 #[vL, .string t] w fun e w' => e = .returned (.int .i64 q) ∧ w = w' := by
  obtain ⟨aL, cL, rfl, hcL, _⟩ := hL.shape
  have HL := Lib.hid hL
  have HN := Lib.hid hn
  have HY := Lib.hid hy
  clear hL hn hy
  go_enter Tryz.func41, Tryz.ntmps41
  go_wp2
  go_loop [8] (fun v => ∃ k : Nat, k ≤ q ∧ v = .int .i64 k) (fun v => l.length - (intOf v).toNat)
  case atStart => exact ⟨0, Nat.zero_le _, rfl⟩
  case round =>
    obtain ⟨k, hk, rfl⟩ := hrel
    have hlt : k < l.length := by omega
    obtain ⟨g', o', c', hv, _, _, _, hcells⟩ := HL.out.at (by omega)
    cases hv
    have y0 := hcells k (.string l[k]) (by rw [List.getElem?_map, List.getElem?_eq_getElem hlt]; rfl)
    clear hcells
    by_cases hkq : k < q
    · have y1 : (t.toList == l[k].toList) = false := str_bne fun e => HN.out k hlt hkq e.symm
      have y2 : (l[k].toList == t.toList) = false := str_bne (HN.out k hlt hkq)
      go_wp2
      go_round
      case rel => exact ⟨k + 1, by omega, by go_num⟩
      case measure => simp [intOf]; omega
    · obtain rfl : k = q := by omega
      have y1 : (t.toList == l[k].toList) = true := str_beq HY.out.symm
      have y2 : (l[k].toList == t.toList) = true := str_beq HY.out
      go_wp2
      go_ret
      exact ⟨rfl, rfl⟩
end
end Go.Proofs.YtdlkdecigpaaaaaGreatDoor
namespace Go.Proofs.YtdlkdecigpaaaaaGreatDoor
set_option linter.unusedVariables false
set_option linter.unusedSimpArgs false
open Go.RowKit

/-- What this, and some names, may be. -/
structure SEnv where
  this : Int
  names : List ByteArray
  sorts : List Int
def mayB (q : Int × Int × Int × Bool) : List Int → Bool
  | [a] => bits BinOp.and IntKind.i64 a q.1 != 0
  | [a, b] => (bits BinOp.and IntKind.i64 a q.1 != 0) && ((bits BinOp.and IntKind.i64 b q.2.1 != 0) && (!q.2.2.2 || bits BinOp.and IntKind.i64 (bits BinOp.and IntKind.i64 a b) q.1 != 0))
  | _ => false
def ruleOut (q : Int × Int × Int × Bool) (got : List Int) : Int × Int := if mayB q got = true then (q.2.2.1, 0) else (0, 9)
mutual
def chk (E : SEnv) : XT → Int × Int
  | .mk o nm v l =>
    if o = litS then (2 ^ v.k.toNat, 0)
    else if o = thisS then (E.this, 0)
    else if o = varS then (match findL E.names nm with | some q => (E.sorts.getD q 0, 0) | none => (0, 13))
    else if (chkL E l).2 = 0 then ruleOut (ruleF o) (chkL E l).1 else (0, (chkL E l).2)
def chkL (E : SEnv) : List XT → List Int × Int
  | [] => ([], 0)
  | T :: l => if (chk E T).2 = 0 then (if (chkL E l).2 = 0 then ((chk E T).1 :: (chkL E l).1, 0) else ([], (chkL E l).2)) else ([], (chk E T).2)
end
theorem chkL_ok {E : SEnv} : ∀ {l : List XT}, (∀ T ∈ l, (chk E T).2 = 0) → chkL E l = (l.map fun T => (chk E T).1, 0)
  | [], _ => by rw [chkL]; rfl
  | T :: l, h => by
    rw [chkL, if_pos (h T (.head _)), chkL_ok (l := l) fun U hU => h U (.tail _ hU)]
    rfl
theorem chkL_err {E : SEnv} : ∀ {l : List XT} {j : Nat} (hj : j < l.length), (∀ i (hi : i < j), (chk E (l[i]'(by omega))).2 = 0) → (chk E l[j]).2 ≠ 0 → (chkL E l).2 = (chk E l[j]).2
  | T :: l, 0, _, _, h => by have h' : (chk E T).2 ≠ 0 := h; rw [chkL, if_neg h']; rfl
  | T :: l, j + 1, hj, h1, h => by
    have h0 : (chk E T).2 = 0 := h1 0 (by omega)
    have ih := chkL_err (E := E) (l := l) (j := j) (by simpa using hj) (fun i hi => h1 (i + 1) (by omega)) h
    rw [chkL, if_pos h0, if_neg (by rw [ih]; exact h)]
    exact ih
/-- An environment's cells. -/
structure EnvAt (E : SEnv) (vN vS : Value) (w : World) (S : Nat → Prop) : Prop where
  names : Sl w S 1 vN E.names.length (E.names.map Value.string)
  sorts : Sl w S 1 vS E.sorts.length (E.sorts.map (Value.int .i64))
  same : E.names.length = E.sorts.length
  len : E.names.length ≤ 1000000
theorem EnvAt.keep {E : SEnv} {vN vS : Value} {w w' : World} {S : Nat → Prop} (h : EnvAt E vN vS w S) (k : Kc S w w') : EnvAt E vN vS w' S := ⟨h.names.keep k, h.sorts.keep k, h.same, h.len⟩
abbrev envV (E : SEnv) (vN vS : Value) : Value := .agg #[.int .i64 E.this, vN, vS]
def ChkSays (a : Int × Int) (w : World) (e : Ending) (w' : World) : Prop := e = .returned (.tuple #[.int .i64 a.1, .int .i64 a.2]) ∧ Keeps [] w w'
section
variable (E : SEnv) (a1 a2 : Option Addr) (c1 c2 : Nat) (w : World) (S : Nat → Prop)
set_option maxRecDepth 20000 in
set_option maxHeartbeats 600000 in
theorem scheck_lit (v : VT) (hv : litOk v) (b1 b2 b3 : Option Addr) (d1 d2 d3 : Nat) :
    Calls Tryz.prog 17 #[.agg #[.string litS, .string eS, .int .i64 v.k, .bool v.b, .int .i64 v.n, .string v.s, .slice b1 v.its.length d1, .slice b2 v.ks.length d2, .slice b3 0 d3], envV E (.slice a1 E.names.length c1) (.slice a2 E.sorts.length c2)] w (ChkSays (chk E (litT v)) w) := by
  have HC : Hid (chk E (litT v) = (2 ^ v.k.toNat, 0)) := Lib.hid (by unfold litT; rw [chk]; rfl)
  have hk : 0 ≤ v.k ∧ v.k ≤ 5 := by rcases hv with rfl | ⟨b, rfl⟩ | ⟨n, _, _, rfl⟩ | ⟨t, rfl⟩ <;> exact ⟨by show (0 : Int) ≤ _; simp [VT.k, VT.zero, boolV, nrV, textV], by show _ ≤ (5 : Int); simp [VT.k, VT.zero, boolV, nrV, textV]⟩
  obtain ⟨k, b, n, s, its, ks⟩ := v
  simp only [VT.k, VT.b, VT.n, VT.s, VT.its, VT.ks] at *
  have HO := Lib.hid (fun W => sof_any k n b s b1 b2 its.length d1 ks.length d2 W hk.1 hk.2)
  generalize chk E (litT (.mk k b n s its ks)) = r at *
  clear hv hk
  go_enter Tryz.func17, Tryz.ntmps17
  go_wp2_with (go_at_call 22; refine (HO.out _).mono ?_; rintro e w1 ⟨rfl, hk1⟩; have HK := Lib.hid ((((Keeps.refl [] w).alloc _).alloc _).trans hk1); clear hk1)
  go_ret2
  rw [HC.out]
  exact ⟨rfl, HK.out⟩
set_option maxRecDepth 20000 in
set_option maxHeartbeats 600000 in
theorem scheck_this (b1 b2 b3 : Option Addr) (d1 d2 d3 : Nat) :
    Calls Tryz.prog 17 #[.agg #[.string thisS, .string eS, .int .i64 0, .bool false, .int .i64 0, .string eS, .slice b1 0 d1, .slice b2 0 d2, .slice b3 0 d3], envV E (.slice a1 E.names.length c1) (.slice a2 E.sorts.length c2)] w (ChkSays (chk E (.mk thisS eS VT.zero [])) w) := by
  have HC : Hid (chk E (.mk thisS eS VT.zero []) = (E.this, 0)) := Lib.hid (by rw [chk]; rfl)
  generalize chk E (.mk thisS eS VT.zero []) = r at *
  go_enter Tryz.func17, Tryz.ntmps17
  go_wp2_with fail
  go_ret2
  rw [HC.out]
  exact ⟨rfl, ((Keeps.refl _ _).alloc _).alloc _⟩
set_option maxRecDepth 20000 in
set_option maxHeartbeats 600000 in
theorem scheck_var (nm : ByteArray) (hE : EnvAt E (.slice a1 E.names.length c1) (.slice a2 E.sorts.length c2) w S) (b1 b2 b3 : Option Addr) (d1 d2 d3 : Nat) :
    Calls Tryz.prog 17 #[.agg #[.string varS, .string nm, .int .i64 0, .bool false, .int .i64 0, .string eS, .slice b1 0 d1, .slice b2 0 d2, .slice b3 0 d3], envV E (.slice a1 E.names.length c1) (.slice a2 E.sorts.length c2)] w (ChkSays (chk E (.mk varS nm VT.zero [])) w) := by
  have hc : chk E (.mk varS nm VT.zero []) = (match findL E.names nm with | some q => (E.sorts.getD q 0, 0) | none => (0, 13)) := by rw [chk]; rfl
  have HEA := Lib.hid (fun (W : World) (k : Keeps [] w W) => hE.keep (kc_keeps k fun _ _ => by simp))
  cases hf : findL E.names nm with
  | none =>
    rw [hf] at hc
    have HC := Lib.hid hc
    have hn : ∀ (j : Nat) (hj : j < E.names.length), E.names[j] ≠ nm := fun j hj e => by
      unfold findL at hf
      rw [List.findIdx?_eq_none_iff] at hf
      have := hf _ (List.getElem_mem hj)
      simp [e] at this
    have HI := Lib.hid (fun (W : World) (k : Keeps [] w W) => sindex_none E.names _ S nm W (HEA.out W k).names hE.len hn)
    generalize chk E (.mk varS nm VT.zero []) = r at *
    clear hE hc hf hn
    go_enter Tryz.func17, Tryz.ntmps17
    go_wp2_with (go_at_call 41; refine (HI.out _ (((Keeps.refl [] w).alloc _).alloc _)).mono ?_; rintro e w1 ⟨rfl, rfl⟩)
    go_ret2
    rw [HC.out]
    exact ⟨rfl, ((Keeps.refl _ _).alloc _).alloc _⟩
  | some q =>
    rw [hf] at hc
    unfold findL at hf
    rw [List.findIdx?_eq_some_iff_getElem] at hf
    obtain ⟨hq, hy, hn⟩ := hf
    have hqs : q < E.sorts.length := by have := hE.same; omega
    have hg : E.sorts.getD q 0 = E.sorts[q] := by rw [List.getD_eq_getElem?_getD, List.getElem?_eq_getElem hqs]; rfl
    have HC : Hid (chk E (.mk varS nm VT.zero []) = (E.sorts[q], 0)) := Lib.hid (by rw [hc]; show (E.sorts.getD q 0, (0 : Int)) = _; rw [hg])
    have HI := Lib.hid (fun (W : World) (k : Keeps [] w W) => sindex_some E.names _ S nm W q hq (HEA.out W k).names hE.len (by simpa using hy) (fun j hj hjq => by simpa using hn j hjq))
    obtain ⟨g', o', c', hv, _, _, hgl, hcells⟩ := hE.sorts.at (by omega)
    cases hv
    have y0 := hcells q (.int .i64 E.sorts[q]) (by rw [List.getElem?_map, List.getElem?_eq_getElem hqs]; rfl)
    have hlen := hE.len
    have hlen2 : E.sorts.length ≤ 1000000 := by have := hE.same; omega
    generalize chk E (.mk varS nm VT.zero []) = r at *
    clear hE hc hn hcells hy hg
    go_enter Tryz.func17, Tryz.ntmps17
    go_wp2_with (go_at_call 41; refine (HI.out _ (((Keeps.refl [] w).alloc _).alloc _)).mono ?_; rintro e w1 ⟨rfl, rfl⟩)
    go_ret2
    rw [HC.out]
    exact ⟨rfl, ((Keeps.refl _ _).alloc _).alloc _⟩
end
end Go.Proofs.YtdlkdecigpaaaaaGreatDoor
