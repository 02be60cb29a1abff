/- The rules of sorts: what an Op's parts may be, and what comes out. -/
import Derived.Test.YtdlkdecigpaaaaaGreatDoorMg45
namespace Go.Proofs.YtdlkdecigpaaaaaGreatDoor
set_option linter.unusedVariables false
set_option linter.unusedSimpArgs false
open Go.RowKit

/-- What the first and the second part may be, what comes out, whether both must be alike. -/
def ruleL : List (ByteArray × Int × Int × Int × Bool) := [(⟨#[103, 101, 116]⟩, 32, 0, 63, false), (⟨#[97, 116]⟩, 16, 4, 63, false), (⟨#[110, 111, 116]⟩, 2, 0, 2, false), (⟨#[110, 101, 103]⟩, 4, 0, 4, false), (⟨#[111, 114]⟩, 2, 2, 2, false), (⟨#[97, 110, 100]⟩, 2, 2, 2, false), (⟨#[61, 61]⟩, 63, 63, 2, false), (⟨#[33, 61]⟩, 63, 63, 2, false), (⟨#[60]⟩, 12, 12, 2, true), (⟨#[60, 61]⟩, 12, 12, 2, true), (⟨#[62]⟩, 12, 12, 2, true), (⟨#[62, 61]⟩, 12, 12, 2, true), (⟨#[43]⟩, 4, 4, 4, false), (⟨#[45]⟩, 4, 4, 4, false), (⟨#[42]⟩, 4, 4, 4, false), (⟨#[47]⟩, 4, 4, 4, false), (⟨#[37]⟩, 4, 4, 4, false), (⟨#[108, 101, 110]⟩, 56, 0, 4, false), (⟨#[107, 101, 121, 115]⟩, 32, 0, 16, false), (⟨#[104, 97, 115]⟩, 32, 8, 2, false), (⟨#[99, 111, 117, 110, 116]⟩, 16, 63, 4, false), (⟨#[106, 111, 105, 110]⟩, 16, 8, 8, false), (⟨#[115, 117, 109]⟩, 16, 0, 4, false), (⟨#[109, 105, 110]⟩, 16, 0, 4, false), (⟨#[109, 97, 120]⟩, 16, 0, 4, false), (⟨#[97, 108, 108]⟩, 16, 0, 2, false), (⟨#[97, 110, 121]⟩, 16, 0, 2, false), (⟨#[115, 116, 97, 114, 116, 115]⟩, 8, 8, 2, false), (⟨#[101, 110, 100, 115]⟩, 8, 8, 2, false)]
def ruleF (op : ByteArray) : Int × Int × Int × Bool := ((ruleL.find? fun x => decide (x.1 = op)).map (·.2)).getD (0, 0, 0, false)
def RuleSays (q : Int × Int × Int × Bool) (w : World) (e : Ending) (w' : World) : Prop := e = .returned (.agg #[.int .i64 q.1, .int .i64 q.2.1, .int .i64 q.2.2.1, .bool q.2.2.2]) ∧ Keeps [] w w'
theorem sets4 {w W : World} {b : Nat} {t : TypeId} {c0 c1 c2 c3 : Value} (h : W.heap[b]? = some (.cells #[c0, c1, c2, c3] t (0, 0))) (hk : Keeps [] w W) (hb : w.heap.size ≤ b) (v0 v1 v2 v3 : Value) :
    ((((W.setCell ⟨b, 0, none⟩ v0).setCell ⟨b, 1, none⟩ v1).setCell ⟨b, 2, none⟩ v2).setCell ⟨b, 3, none⟩ v3).heap[b]? = some (.cells #[v0, v1, v2, v3] t (0, 0)) ∧ Keeps [] w ((((W.setCell ⟨b, 0, none⟩ v0).setCell ⟨b, 1, none⟩ v1).setCell ⟨b, 2, none⟩ v2).setCell ⟨b, 3, none⟩ v3) :=
  ⟨set_to (set_to (set_to (set_to h 0 v0 rfl) 1 v1 rfl) 2 v2 rfl) 3 v3 rfl, (((hk.set (.inr hb) _).set (.inr hb) _).set (.inr hb) _).set (.inr hb) _⟩
set_option maxRecDepth 20000 in
set_option maxHeartbeats 400000 in
theorem called_0 (w : World) : Calls Tryz.prog 69 #[.string ⟨#[108, 101, 110]⟩] w (RuleSays (56, 0, 4, false) w) := by
  go_enter Tryz.func69, Tryz.ntmps69
  go_wp2_with fail
  exact bodyPost_ret (v := .agg #[.int .i64 56, .int .i64 0, .int .i64 4, .bool false]) (by simp [results, Tryz.results69, go_sem]) rfl ⟨rfl, (Keeps.refl _ _).alloc _⟩
set_option maxRecDepth 20000 in
set_option maxHeartbeats 400000 in
theorem ruledc_0 (w : World) : Calls Tryz.prog 42 #[.string ⟨#[108, 101, 110]⟩] w (RuleSays (56, 0, 4, false) w) := by
  go_enter Tryz.func42, Tryz.ntmps42
  go_wp2_with fail
  refine (called_0 _).mono ?_
  rintro e w1 ⟨rfl, hk1⟩
  have HB : Hid (w1.heap[w.heap.size]? = some (.cells #[.int .i64 0, .int .i64 0, .int .i64 0, .bool false] 91 (0, 0))) := Lib.hid (hk1.same (new_blk _ _))
  have HK : Hid (Keeps [] w w1) := Lib.hid (((Keeps.refl _ _).alloc _).trans hk1)
  have gb := cell_blk HB.out
  have gbf := frozen_blk HB.out
  have hl := hk_lt HB.out
  clear hk1
  go_wp2_with fail
  refine abs_post (F := fun W => W.heap[w.heap.size]? = some (.cells #[.int .i64 56, .int .i64 0, .int .i64 4, .bool false] 91 (0, 0)) ∧ Keeps [] w W) (sets4 HB.out HK.out (Nat.le_refl _) _ _ _ _) (fun W hW => ?_)
  have cr := cell_blk hW.1
  exact bodyPost_ret (v := .agg #[.int .i64 56, .int .i64 0, .int .i64 4, .bool false]) (by simp [results, Tryz.results42, go_sem, cr]) rfl ⟨rfl, hW.2⟩
set_option maxRecDepth 20000 in
set_option maxHeartbeats 400000 in
theorem called_1 (w : World) : Calls Tryz.prog 69 #[.string ⟨#[107, 101, 121, 115]⟩] w (RuleSays (32, 0, 16, false) w) := by
  go_enter Tryz.func69, Tryz.ntmps69
  go_wp2_with fail
  exact bodyPost_ret (v := .agg #[.int .i64 32, .int .i64 0, .int .i64 16, .bool false]) (by simp [results, Tryz.results69, go_sem]) rfl ⟨rfl, (Keeps.refl _ _).alloc _⟩
set_option maxRecDepth 20000 in
set_option maxHeartbeats 400000 in
theorem ruledc_1 (w : World) : Calls Tryz.prog 42 #[.string ⟨#[107, 101, 121, 115]⟩] w (RuleSays (32, 0, 16, false) w) := by
  go_enter Tryz.func42, Tryz.ntmps42
  go_wp2_with fail
  refine (called_1 _).mono ?_
  rintro e w1 ⟨rfl, hk1⟩
  have HB : Hid (w1.heap[w.heap.size]? = some (.cells #[.int .i64 0, .int .i64 0, .int .i64 0, .bool false] 91 (0, 0))) := Lib.hid (hk1.same (new_blk _ _))
  have HK : Hid (Keeps [] w w1) := Lib.hid (((Keeps.refl _ _).alloc _).trans hk1)
  have gb := cell_blk HB.out
  have gbf := frozen_blk HB.out
  have hl := hk_lt HB.out
  clear hk1
  go_wp2_with fail
  refine abs_post (F := fun W => W.heap[w.heap.size]? = some (.cells #[.int .i64 32, .int .i64 0, .int .i64 16, .bool false] 91 (0, 0)) ∧ Keeps [] w W) (sets4 HB.out HK.out (Nat.le_refl _) _ _ _ _) (fun W hW => ?_)
  have cr := cell_blk hW.1
  exact bodyPost_ret (v := .agg #[.int .i64 32, .int .i64 0, .int .i64 16, .bool false]) (by simp [results, Tryz.results42, go_sem, cr]) rfl ⟨rfl, hW.2⟩
set_option maxRecDepth 20000 in
set_option maxHeartbeats 400000 in
theorem called_2 (w : World) : Calls Tryz.prog 69 #[.string ⟨#[104, 97, 115]⟩] w (RuleSays (32, 8, 2, false) w) := by
  go_enter Tryz.func69, Tryz.ntmps69
  go_wp2_with fail
  exact bodyPost_ret (v := .agg #[.int .i64 32, .int .i64 8, .int .i64 2, .bool false]) (by simp [results, Tryz.results69, go_sem]) rfl ⟨rfl, (Keeps.refl _ _).alloc _⟩
set_option maxRecDepth 20000 in
set_option maxHeartbeats 400000 in
theorem ruledc_2 (w : World) : Calls Tryz.prog 42 #[.string ⟨#[104, 97, 115]⟩] w (RuleSays (32, 8, 2, false) w) := by
  go_enter Tryz.func42, Tryz.ntmps42
  go_wp2_with fail
  refine (called_2 _).mono ?_
  rintro e w1 ⟨rfl, hk1⟩
  have HB : Hid (w1.heap[w.heap.size]? = some (.cells #[.int .i64 0, .int .i64 0, .int .i64 0, .bool false] 91 (0, 0))) := Lib.hid (hk1.same (new_blk _ _))
  have HK : Hid (Keeps [] w w1) := Lib.hid (((Keeps.refl _ _).alloc _).trans hk1)
  have gb := cell_blk HB.out
  have gbf := frozen_blk HB.out
  have hl := hk_lt HB.out
  clear hk1
  go_wp2_with fail
  refine abs_post (F := fun W => W.heap[w.heap.size]? = some (.cells #[.int .i64 32, .int .i64 8, .int .i64 2, .bool false] 91 (0, 0)) ∧ Keeps [] w W) (sets4 HB.out HK.out (Nat.le_refl _) _ _ _ _) (fun W hW => ?_)
  have cr := cell_blk hW.1
  exact bodyPost_ret (v := .agg #[.int .i64 32, .int .i64 8, .int .i64 2, .bool false]) (by simp [results, Tryz.results42, go_sem, cr]) rfl ⟨rfl, hW.2⟩
set_option maxRecDepth 20000 in
set_option maxHeartbeats 400000 in
theorem called_3 (w : World) : Calls Tryz.prog 69 #[.string ⟨#[99, 111, 117, 110, 116]⟩] w (RuleSays (16, 63, 4, false) w) := by
  go_enter Tryz.func69, Tryz.ntmps69
  go_wp2_with fail
  exact bodyPost_ret (v := .agg #[.int .i64 16, .int .i64 63, .int .i64 4, .bool false]) (by simp [results, Tryz.results69, go_sem]) rfl ⟨rfl, (Keeps.refl _ _).alloc _⟩
set_option maxRecDepth 20000 in
set_option maxHeartbeats 400000 in
theorem ruledc_3 (w : World) : Calls Tryz.prog 42 #[.string ⟨#[99, 111, 117, 110, 116]⟩] w (RuleSays (16, 63, 4, false) w) := by
  go_enter Tryz.func42, Tryz.ntmps42
  go_wp2_with fail
  refine (called_3 _).mono ?_
  rintro e w1 ⟨rfl, hk1⟩
  have HB : Hid (w1.heap[w.heap.size]? = some (.cells #[.int .i64 0, .int .i64 0, .int .i64 0, .bool false] 91 (0, 0))) := Lib.hid (hk1.same (new_blk _ _))
  have HK : Hid (Keeps [] w w1) := Lib.hid (((Keeps.refl _ _).alloc _).trans hk1)
  have gb := cell_blk HB.out
  have gbf := frozen_blk HB.out
  have hl := hk_lt HB.out
  clear hk1
  go_wp2_with fail
  refine abs_post (F := fun W => W.heap[w.heap.size]? = some (.cells #[.int .i64 16, .int .i64 63, .int .i64 4, .bool false] 91 (0, 0)) ∧ Keeps [] w W) (sets4 HB.out HK.out (Nat.le_refl _) _ _ _ _) (fun W hW => ?_)
  have cr := cell_blk hW.1
  exact bodyPost_ret (v := .agg #[.int .i64 16, .int .i64 63, .int .i64 4, .bool false]) (by simp [results, Tryz.results42, go_sem, cr]) rfl ⟨rfl, hW.2⟩
set_option maxRecDepth 20000 in
set_option maxHeartbeats 400000 in
theorem called_4 (w : World) : Calls Tryz.prog 69 #[.string ⟨#[106, 111, 105, 110]⟩] w (RuleSays (16, 8, 8, false) w) := by
  go_enter Tryz.func69, Tryz.ntmps69
  go_wp2_with fail
  exact bodyPost_ret (v := .agg #[.int .i64 16, .int .i64 8, .int .i64 8, .bool false]) (by simp [results, Tryz.results69, go_sem]) rfl ⟨rfl, (Keeps.refl _ _).alloc _⟩
set_option maxRecDepth 20000 in
set_option maxHeartbeats 400000 in
theorem ruledc_4 (w : World) : Calls Tryz.prog 42 #[.string ⟨#[106, 111, 105, 110]⟩] w (RuleSays (16, 8, 8, false) w) := by
  go_enter Tryz.func42, Tryz.ntmps42
  go_wp2_with fail
  refine (called_4 _).mono ?_
  rintro e w1 ⟨rfl, hk1⟩
  have HB : Hid (w1.heap[w.heap.size]? = some (.cells #[.int .i64 0, .int .i64 0, .int .i64 0, .bool false] 91 (0, 0))) := Lib.hid (hk1.same (new_blk _ _))
  have HK : Hid (Keeps [] w w1) := Lib.hid (((Keeps.refl _ _).alloc _).trans hk1)
  have gb := cell_blk HB.out
  have gbf := frozen_blk HB.out
  have hl := hk_lt HB.out
  clear hk1
  go_wp2_with fail
  refine abs_post (F := fun W => W.heap[w.heap.size]? = some (.cells #[.int .i64 16, .int .i64 8, .int .i64 8, .bool false] 91 (0, 0)) ∧ Keeps [] w W) (sets4 HB.out HK.out (Nat.le_refl _) _ _ _ _) (fun W hW => ?_)
  have cr := cell_blk hW.1
  exact bodyPost_ret (v := .agg #[.int .i64 16, .int .i64 8, .int .i64 8, .bool false]) (by simp [results, Tryz.results42, go_sem, cr]) rfl ⟨rfl, hW.2⟩
set_option maxRecDepth 20000 in
set_option maxHeartbeats 400000 in
theorem called_5 (w : World) : Calls Tryz.prog 69 #[.string ⟨#[115, 117, 109]⟩] w (RuleSays (16, 0, 4, false) w) := by
  go_enter Tryz.func69, Tryz.ntmps69
  go_wp2_with fail
  exact bodyPost_ret (v := .agg #[.int .i64 16, .int .i64 0, .int .i64 4, .bool false]) (by simp [results, Tryz.results69, go_sem]) rfl ⟨rfl, (Keeps.refl _ _).alloc _⟩
set_option maxRecDepth 20000 in
set_option maxHeartbeats 400000 in
theorem ruledc_5 (w : World) : Calls Tryz.prog 42 #[.string ⟨#[115, 117, 109]⟩] w (RuleSays (16, 0, 4, false) w) := by
  go_enter Tryz.func42, Tryz.ntmps42
  go_wp2_with fail
  refine (called_5 _).mono ?_
  rintro e w1 ⟨rfl, hk1⟩
  have HB : Hid (w1.heap[w.heap.size]? = some (.cells #[.int .i64 0, .int .i64 0, .int .i64 0, .bool false] 91 (0, 0))) := Lib.hid (hk1.same (new_blk _ _))
  have HK : Hid (Keeps [] w w1) := Lib.hid (((Keeps.refl _ _).alloc _).trans hk1)
  have gb := cell_blk HB.out
  have gbf := frozen_blk HB.out
  have hl := hk_lt HB.out
  clear hk1
  go_wp2_with fail
  refine abs_post (F := fun W => W.heap[w.heap.size]? = some (.cells #[.int .i64 16, .int .i64 0, .int .i64 4, .bool false] 91 (0, 0)) ∧ Keeps [] w W) (sets4 HB.out HK.out (Nat.le_refl _) _ _ _ _) (fun W hW => ?_)
  have cr := cell_blk hW.1
  exact bodyPost_ret (v := .agg #[.int .i64 16, .int .i64 0, .int .i64 4, .bool false]) (by simp [results, Tryz.results42, go_sem, cr]) rfl ⟨rfl, hW.2⟩
set_option maxRecDepth 20000 in
set_option maxHeartbeats 400000 in
theorem called_6 (w : World) : Calls Tryz.prog 69 #[.string ⟨#[109, 105, 110]⟩] w (RuleSays (16, 0, 4, false) w) := by
  go_enter Tryz.func69, Tryz.ntmps69
  go_wp2_with fail
  exact bodyPost_ret (v := .agg #[.int .i64 16, .int .i64 0, .int .i64 4, .bool false]) (by simp [results, Tryz.results69, go_sem]) rfl ⟨rfl, (Keeps.refl _ _).alloc _⟩
set_option maxRecDepth 20000 in
set_option maxHeartbeats 400000 in
theorem ruledc_6 (w : World) : Calls Tryz.prog 42 #[.string ⟨#[109, 105, 110]⟩] w (RuleSays (16, 0, 4, false) w) := by
  go_enter Tryz.func42, Tryz.ntmps42
  go_wp2_with fail
  refine (called_6 _).mono ?_
  rintro e w1 ⟨rfl, hk1⟩
  have HB : Hid (w1.heap[w.heap.size]? = some (.cells #[.int .i64 0, .int .i64 0, .int .i64 0, .bool false] 91 (0, 0))) := Lib.hid (hk1.same (new_blk _ _))
  have HK : Hid (Keeps [] w w1) := Lib.hid (((Keeps.refl _ _).alloc _).trans hk1)
  have gb := cell_blk HB.out
  have gbf := frozen_blk HB.out
  have hl := hk_lt HB.out
  clear hk1
  go_wp2_with fail
  refine abs_post (F := fun W => W.heap[w.heap.size]? = some (.cells #[.int .i64 16, .int .i64 0, .int .i64 4, .bool false] 91 (0, 0)) ∧ Keeps [] w W) (sets4 HB.out HK.out (Nat.le_refl _) _ _ _ _) (fun W hW => ?_)
  have cr := cell_blk hW.1
  exact bodyPost_ret (v := .agg #[.int .i64 16, .int .i64 0, .int .i64 4, .bool false]) (by simp [results, Tryz.results42, go_sem, cr]) rfl ⟨rfl, hW.2⟩
set_option maxRecDepth 20000 in
set_option maxHeartbeats 400000 in
theorem called_7 (w : World) : Calls Tryz.prog 69 #[.string ⟨#[109, 97, 120]⟩] w (RuleSays (16, 0, 4, false) w) := by
  go_enter Tryz.func69, Tryz.ntmps69
  go_wp2_with fail
  exact bodyPost_ret (v := .agg #[.int .i64 16, .int .i64 0, .int .i64 4, .bool false]) (by simp [results, Tryz.results69, go_sem]) rfl ⟨rfl, (Keeps.refl _ _).alloc _⟩
set_option maxRecDepth 20000 in
set_option maxHeartbeats 400000 in
theorem ruledc_7 (w : World) : Calls Tryz.prog 42 #[.string ⟨#[109, 97, 120]⟩] w (RuleSays (16, 0, 4, false) w) := by
  go_enter Tryz.func42, Tryz.ntmps42
  go_wp2_with fail
  refine (called_7 _).mono ?_
  rintro e w1 ⟨rfl, hk1⟩
  have HB : Hid (w1.heap[w.heap.size]? = some (.cells #[.int .i64 0, .int .i64 0, .int .i64 0, .bool false] 91 (0, 0))) := Lib.hid (hk1.same (new_blk _ _))
  have HK : Hid (Keeps [] w w1) := Lib.hid (((Keeps.refl _ _).alloc _).trans hk1)
  have gb := cell_blk HB.out
  have gbf := frozen_blk HB.out
  have hl := hk_lt HB.out
  clear hk1
  go_wp2_with fail
  refine abs_post (F := fun W => W.heap[w.heap.size]? = some (.cells #[.int .i64 16, .int .i64 0, .int .i64 4, .bool false] 91 (0, 0)) ∧ Keeps [] w W) (sets4 HB.out HK.out (Nat.le_refl _) _ _ _ _) (fun W hW => ?_)
  have cr := cell_blk hW.1
  exact bodyPost_ret (v := .agg #[.int .i64 16, .int .i64 0, .int .i64 4, .bool false]) (by simp [results, Tryz.results42, go_sem, cr]) rfl ⟨rfl, hW.2⟩
set_option maxRecDepth 20000 in
set_option maxHeartbeats 400000 in
theorem called_8 (w : World) : Calls Tryz.prog 69 #[.string ⟨#[97, 108, 108]⟩] w (RuleSays (16, 0, 2, false) w) := by
  go_enter Tryz.func69, Tryz.ntmps69
  go_wp2_with fail
  exact bodyPost_ret (v := .agg #[.int .i64 16, .int .i64 0, .int .i64 2, .bool false]) (by simp [results, Tryz.results69, go_sem]) rfl ⟨rfl, (Keeps.refl _ _).alloc _⟩
set_option maxRecDepth 20000 in
set_option maxHeartbeats 400000 in
theorem ruledc_8 (w : World) : Calls Tryz.prog 42 #[.string ⟨#[97, 108, 108]⟩] w (RuleSays (16, 0, 2, false) w) := by
  go_enter Tryz.func42, Tryz.ntmps42
  go_wp2_with fail
  refine (called_8 _).mono ?_
  rintro e w1 ⟨rfl, hk1⟩
  have HB : Hid (w1.heap[w.heap.size]? = some (.cells #[.int .i64 0, .int .i64 0, .int .i64 0, .bool false] 91 (0, 0))) := Lib.hid (hk1.same (new_blk _ _))
  have HK : Hid (Keeps [] w w1) := Lib.hid (((Keeps.refl _ _).alloc _).trans hk1)
  have gb := cell_blk HB.out
  have gbf := frozen_blk HB.out
  have hl := hk_lt HB.out
  clear hk1
  go_wp2_with fail
  refine abs_post (F := fun W => W.heap[w.heap.size]? = some (.cells #[.int .i64 16, .int .i64 0, .int .i64 2, .bool false] 91 (0, 0)) ∧ Keeps [] w W) (sets4 HB.out HK.out (Nat.le_refl _) _ _ _ _) (fun W hW => ?_)
  have cr := cell_blk hW.1
  exact bodyPost_ret (v := .agg #[.int .i64 16, .int .i64 0, .int .i64 2, .bool false]) (by simp [results, Tryz.results42, go_sem, cr]) rfl ⟨rfl, hW.2⟩
set_option maxRecDepth 20000 in
set_option maxHeartbeats 400000 in
theorem called_9 (w : World) : Calls Tryz.prog 69 #[.string ⟨#[97, 110, 121]⟩] w (RuleSays (16, 0, 2, false) w) := by
  go_enter Tryz.func69, Tryz.ntmps69
  go_wp2_with fail
  exact bodyPost_ret (v := .agg #[.int .i64 16, .int .i64 0, .int .i64 2, .bool false]) (by simp [results, Tryz.results69, go_sem]) rfl ⟨rfl, (Keeps.refl _ _).alloc _⟩
set_option maxRecDepth 20000 in
set_option maxHeartbeats 400000 in
theorem ruledc_9 (w : World) : Calls Tryz.prog 42 #[.string ⟨#[97, 110, 121]⟩] w (RuleSays (16, 0, 2, false) w) := by
  go_enter Tryz.func42, Tryz.ntmps42
  go_wp2_with fail
  refine (called_9 _).mono ?_
  rintro e w1 ⟨rfl, hk1⟩
  have HB : Hid (w1.heap[w.heap.size]? = some (.cells #[.int .i64 0, .int .i64 0, .int .i64 0, .bool false] 91 (0, 0))) := Lib.hid (hk1.same (new_blk _ _))
  have HK : Hid (Keeps [] w w1) := Lib.hid (((Keeps.refl _ _).alloc _).trans hk1)
  have gb := cell_blk HB.out
  have gbf := frozen_blk HB.out
  have hl := hk_lt HB.out
  clear hk1
  go_wp2_with fail
  refine abs_post (F := fun W => W.heap[w.heap.size]? = some (.cells #[.int .i64 16, .int .i64 0, .int .i64 2, .bool false] 91 (0, 0)) ∧ Keeps [] w W) (sets4 HB.out HK.out (Nat.le_refl _) _ _ _ _) (fun W hW => ?_)
  have cr := cell_blk hW.1
  exact bodyPost_ret (v := .agg #[.int .i64 16, .int .i64 0, .int .i64 2, .bool false]) (by simp [results, Tryz.results42, go_sem, cr]) rfl ⟨rfl, hW.2⟩
set_option maxRecDepth 20000 in
set_option maxHeartbeats 400000 in
theorem called_10 (w : World) : Calls Tryz.prog 69 #[.string ⟨#[115, 116, 97, 114, 116, 115]⟩] w (RuleSays (8, 8, 2, false) w) := by
  go_enter Tryz.func69, Tryz.ntmps69
  go_wp2_with fail
  exact bodyPost_ret (v := .agg #[.int .i64 8, .int .i64 8, .int .i64 2, .bool false]) (by simp [results, Tryz.results69, go_sem]) rfl ⟨rfl, (Keeps.refl _ _).alloc _⟩
set_option maxRecDepth 20000 in
set_option maxHeartbeats 400000 in
theorem ruledc_10 (w : World) : Calls Tryz.prog 42 #[.string ⟨#[115, 116, 97, 114, 116, 115]⟩] w (RuleSays (8, 8, 2, false) w) := by
  go_enter Tryz.func42, Tryz.ntmps42
  go_wp2_with fail
  refine (called_10 _).mono ?_
  rintro e w1 ⟨rfl, hk1⟩
  have HB : Hid (w1.heap[w.heap.size]? = some (.cells #[.int .i64 0, .int .i64 0, .int .i64 0, .bool false] 91 (0, 0))) := Lib.hid (hk1.same (new_blk _ _))
  have HK : Hid (Keeps [] w w1) := Lib.hid (((Keeps.refl _ _).alloc _).trans hk1)
  have gb := cell_blk HB.out
  have gbf := frozen_blk HB.out
  have hl := hk_lt HB.out
  clear hk1
  go_wp2_with fail
  refine abs_post (F := fun W => W.heap[w.heap.size]? = some (.cells #[.int .i64 8, .int .i64 8, .int .i64 2, .bool false] 91 (0, 0)) ∧ Keeps [] w W) (sets4 HB.out HK.out (Nat.le_refl _) _ _ _ _) (fun W hW => ?_)
  have cr := cell_blk hW.1
  exact bodyPost_ret (v := .agg #[.int .i64 8, .int .i64 8, .int .i64 2, .bool false]) (by simp [results, Tryz.results42, go_sem, cr]) rfl ⟨rfl, hW.2⟩
set_option maxRecDepth 20000 in
set_option maxHeartbeats 400000 in
theorem called_11 (w : World) : Calls Tryz.prog 69 #[.string ⟨#[101, 110, 100, 115]⟩] w (RuleSays (8, 8, 2, false) w) := by
  go_enter Tryz.func69, Tryz.ntmps69
  go_wp2_with fail
  exact bodyPost_ret (v := .agg #[.int .i64 8, .int .i64 8, .int .i64 2, .bool false]) (by simp [results, Tryz.results69, go_sem]) rfl ⟨rfl, (Keeps.refl _ _).alloc _⟩
set_option maxRecDepth 20000 in
set_option maxHeartbeats 400000 in
theorem ruledc_11 (w : World) : Calls Tryz.prog 42 #[.string ⟨#[101, 110, 100, 115]⟩] w (RuleSays (8, 8, 2, false) w) := by
  go_enter Tryz.func42, Tryz.ntmps42
  go_wp2_with fail
  refine (called_11 _).mono ?_
  rintro e w1 ⟨rfl, hk1⟩
  have HB : Hid (w1.heap[w.heap.size]? = some (.cells #[.int .i64 0, .int .i64 0, .int .i64 0, .bool false] 91 (0, 0))) := Lib.hid (hk1.same (new_blk _ _))
  have HK : Hid (Keeps [] w w1) := Lib.hid (((Keeps.refl _ _).alloc _).trans hk1)
  have gb := cell_blk HB.out
  have gbf := frozen_blk HB.out
  have hl := hk_lt HB.out
  clear hk1
  go_wp2_with fail
  refine abs_post (F := fun W => W.heap[w.heap.size]? = some (.cells #[.int .i64 8, .int .i64 8, .int .i64 2, .bool false] 91 (0, 0)) ∧ Keeps [] w W) (sets4 HB.out HK.out (Nat.le_refl _) _ _ _ _) (fun W hW => ?_)
  have cr := cell_blk hW.1
  exact bodyPost_ret (v := .agg #[.int .i64 8, .int .i64 8, .int .i64 2, .bool false]) (by simp [results, Tryz.results42, go_sem, cr]) rfl ⟨rfl, hW.2⟩
set_option maxRecDepth 20000 in
set_option maxHeartbeats 400000 in
theorem ruled_0 (w : World) : Calls Tryz.prog 42 #[.string ⟨#[103, 101, 116]⟩] w (RuleSays (32, 0, 63, false) w) := by
  go_enter Tryz.func42, Tryz.ntmps42
  go_wp2_with fail
  exact bodyPost_ret (v := .agg #[.int .i64 32, .int .i64 0, .int .i64 63, .bool false]) (by simp [results, Tryz.results42, go_sem]) rfl ⟨rfl, (Keeps.refl _ _).alloc _⟩
set_option maxRecDepth 20000 in
set_option maxHeartbeats 400000 in
theorem ruled_1 (w : World) : Calls Tryz.prog 42 #[.string ⟨#[97, 116]⟩] w (RuleSays (16, 4, 63, false) w) := by
  go_enter Tryz.func42, Tryz.ntmps42
  go_wp2_with fail
  exact bodyPost_ret (v := .agg #[.int .i64 16, .int .i64 4, .int .i64 63, .bool false]) (by simp [results, Tryz.results42, go_sem]) rfl ⟨rfl, (Keeps.refl _ _).alloc _⟩
set_option maxRecDepth 20000 in
set_option maxHeartbeats 400000 in
theorem ruled_2 (w : World) : Calls Tryz.prog 42 #[.string ⟨#[110, 111, 116]⟩] w (RuleSays (2, 0, 2, false) w) := by
  go_enter Tryz.func42, Tryz.ntmps42
  go_wp2_with fail
  exact bodyPost_ret (v := .agg #[.int .i64 2, .int .i64 0, .int .i64 2, .bool false]) (by simp [results, Tryz.results42, go_sem]) rfl ⟨rfl, (Keeps.refl _ _).alloc _⟩
set_option maxRecDepth 20000 in
set_option maxHeartbeats 400000 in
theorem ruled_3 (w : World) : Calls Tryz.prog 42 #[.string ⟨#[110, 101, 103]⟩] w (RuleSays (4, 0, 4, false) w) := by
  go_enter Tryz.func42, Tryz.ntmps42
  go_wp2_with fail
  exact bodyPost_ret (v := .agg #[.int .i64 4, .int .i64 0, .int .i64 4, .bool false]) (by simp [results, Tryz.results42, go_sem]) rfl ⟨rfl, (Keeps.refl _ _).alloc _⟩
set_option maxRecDepth 20000 in
set_option maxHeartbeats 400000 in
theorem ruled_4 (w : World) : Calls Tryz.prog 42 #[.string ⟨#[111, 114]⟩] w (RuleSays (2, 2, 2, false) w) := by
  go_enter Tryz.func42, Tryz.ntmps42
  go_wp2_with fail
  exact bodyPost_ret (v := .agg #[.int .i64 2, .int .i64 2, .int .i64 2, .bool false]) (by simp [results, Tryz.results42, go_sem]) rfl ⟨rfl, (Keeps.refl _ _).alloc _⟩
set_option maxRecDepth 20000 in
set_option maxHeartbeats 400000 in
theorem ruled_5 (w : World) : Calls Tryz.prog 42 #[.string ⟨#[97, 110, 100]⟩] w (RuleSays (2, 2, 2, false) w) := by
  go_enter Tryz.func42, Tryz.ntmps42
  go_wp2_with fail
  exact bodyPost_ret (v := .agg #[.int .i64 2, .int .i64 2, .int .i64 2, .bool false]) (by simp [results, Tryz.results42, go_sem]) rfl ⟨rfl, (Keeps.refl _ _).alloc _⟩
set_option maxRecDepth 20000 in
set_option maxHeartbeats 400000 in
theorem ruled_6 (w : World) : Calls Tryz.prog 42 #[.string ⟨#[61, 61]⟩] w (RuleSays (63, 63, 2, false) w) := by
  go_enter Tryz.func42, Tryz.ntmps42
  go_wp2_with fail
  exact bodyPost_ret (v := .agg #[.int .i64 63, .int .i64 63, .int .i64 2, .bool false]) (by simp [results, Tryz.results42, go_sem]) rfl ⟨rfl, (Keeps.refl _ _).alloc _⟩
set_option maxRecDepth 20000 in
set_option maxHeartbeats 400000 in
theorem ruled_7 (w : World) : Calls Tryz.prog 42 #[.string ⟨#[33, 61]⟩] w (RuleSays (63, 63, 2, false) w) := by
  go_enter Tryz.func42, Tryz.ntmps42
  go_wp2_with fail
  exact bodyPost_ret (v := .agg #[.int .i64 63, .int .i64 63, .int .i64 2, .bool false]) (by simp [results, Tryz.results42, go_sem]) rfl ⟨rfl, (Keeps.refl _ _).alloc _⟩
set_option maxRecDepth 20000 in
set_option maxHeartbeats 400000 in
theorem ruled_8 (w : World) : Calls Tryz.prog 42 #[.string ⟨#[60]⟩] w (RuleSays (12, 12, 2, true) w) := by
  go_enter Tryz.func42, Tryz.ntmps42
  go_wp2_with fail
  exact bodyPost_ret (v := .agg #[.int .i64 12, .int .i64 12, .int .i64 2, .bool true]) (by simp [results, Tryz.results42, go_sem]) rfl ⟨rfl, (Keeps.refl _ _).alloc _⟩
set_option maxRecDepth 20000 in
set_option maxHeartbeats 400000 in
theorem ruled_9 (w : World) : Calls Tryz.prog 42 #[.string ⟨#[60, 61]⟩] w (RuleSays (12, 12, 2, true) w) := by
  go_enter Tryz.func42, Tryz.ntmps42
  go_wp2_with fail
  exact bodyPost_ret (v := .agg #[.int .i64 12, .int .i64 12, .int .i64 2, .bool true]) (by simp [results, Tryz.results42, go_sem]) rfl ⟨rfl, (Keeps.refl _ _).alloc _⟩
set_option maxRecDepth 20000 in
set_option maxHeartbeats 400000 in
theorem ruled_10 (w : World) : Calls Tryz.prog 42 #[.string ⟨#[62]⟩] w (RuleSays (12, 12, 2, true) w) := by
  go_enter Tryz.func42, Tryz.ntmps42
  go_wp2_with fail
  exact bodyPost_ret (v := .agg #[.int .i64 12, .int .i64 12, .int .i64 2, .bool true]) (by simp [results, Tryz.results42, go_sem]) rfl ⟨rfl, (Keeps.refl _ _).alloc _⟩
set_option maxRecDepth 20000 in
set_option maxHeartbeats 400000 in
theorem ruled_11 (w : World) : Calls Tryz.prog 42 #[.string ⟨#[62, 61]⟩] w (RuleSays (12, 12, 2, true) w) := by
  go_enter Tryz.func42, Tryz.ntmps42
  go_wp2_with fail
  exact bodyPost_ret (v := .agg #[.int .i64 12, .int .i64 12, .int .i64 2, .bool true]) (by simp [results, Tryz.results42, go_sem]) rfl ⟨rfl, (Keeps.refl _ _).alloc _⟩
set_option maxRecDepth 20000 in
set_option maxHeartbeats 400000 in
theorem ruled_12 (w : World) : Calls Tryz.prog 42 #[.string ⟨#[43]⟩] w (RuleSays (4, 4, 4, false) w) := by
  go_enter Tryz.func42, Tryz.ntmps42
  go_wp2_with fail
  exact bodyPost_ret (v := .agg #[.int .i64 4, .int .i64 4, .int .i64 4, .bool false]) (by simp [results, Tryz.results42, go_sem]) rfl ⟨rfl, (Keeps.refl _ _).alloc _⟩
set_option maxRecDepth 20000 in
set_option maxHeartbeats 400000 in
theorem ruled_13 (w : World) : Calls Tryz.prog 42 #[.string ⟨#[45]⟩] w (RuleSays (4, 4, 4, false) w) := by
  go_enter Tryz.func42, Tryz.ntmps42
  go_wp2_with fail
  exact bodyPost_ret (v := .agg #[.int .i64 4, .int .i64 4, .int .i64 4, .bool false]) (by simp [results, Tryz.results42, go_sem]) rfl ⟨rfl, (Keeps.refl _ _).alloc _⟩
set_option maxRecDepth 20000 in
set_option maxHeartbeats 400000 in
theorem ruled_14 (w : World) : Calls Tryz.prog 42 #[.string ⟨#[42]⟩] w (RuleSays (4, 4, 4, false) w) := by
  go_enter Tryz.func42, Tryz.ntmps42
  go_wp2_with fail
  exact bodyPost_ret (v := .agg #[.int .i64 4, .int .i64 4, .int .i64 4, .bool false]) (by simp [results, Tryz.results42, go_sem]) rfl ⟨rfl, (Keeps.refl _ _).alloc _⟩
set_option maxRecDepth 20000 in
set_option maxHeartbeats 400000 in
theorem ruled_15 (w : World) : Calls Tryz.prog 42 #[.string ⟨#[47]⟩] w (RuleSays (4, 4, 4, false) w) := by
  go_enter Tryz.func42, Tryz.ntmps42
  go_wp2_with fail
  exact bodyPost_ret (v := .agg #[.int .i64 4, .int .i64 4, .int .i64 4, .bool false]) (by simp [results, Tryz.results42, go_sem]) rfl ⟨rfl, (Keeps.refl _ _).alloc _⟩
set_option maxRecDepth 20000 in
set_option maxHeartbeats 400000 in
theorem ruled_16 (w : World) : Calls Tryz.prog 42 #[.string ⟨#[37]⟩] w (RuleSays (4, 4, 4, false) w) := by
  go_enter Tryz.func42, Tryz.ntmps42
  go_wp2_with fail
  exact bodyPost_ret (v := .agg #[.int .i64 4, .int .i64 4, .int .i64 4, .bool false]) (by simp [results, Tryz.results42, go_sem]) rfl ⟨rfl, (Keeps.refl _ _).alloc _⟩
theorem ruled_any {op : ByteArray} (h : memL op (ruleL.map (·.1)) = true) (w : World) : Calls Tryz.prog 42 #[.string op] w (RuleSays (ruleF op) w) := by
  rw [memL_iff] at h
  simp only [ruleL, List.map_cons, List.map_nil, List.mem_cons, List.not_mem_nil, or_false] at h
  rcases h with rfl | rfl | rfl | rfl | rfl | rfl | rfl | rfl | rfl | rfl | rfl | rfl | rfl | rfl | rfl | rfl | rfl | rfl | rfl | rfl | rfl | rfl | rfl | rfl | rfl | rfl | rfl | rfl | rfl
  · exact ruled_0 w
  · exact ruled_1 w
  · exact ruled_2 w
  · exact ruled_3 w
  · exact ruled_4 w
  · exact ruled_5 w
  · exact ruled_6 w
  · exact ruled_7 w
  · exact ruled_8 w
  · exact ruled_9 w
  · exact ruled_10 w
  · exact ruled_11 w
  · exact ruled_12 w
  · exact ruled_13 w
  · exact ruled_14 w
  · exact ruled_15 w
  · exact ruled_16 w
  · exact ruledc_0 w
  · exact ruledc_1 w
  · exact ruledc_2 w
  · exact ruledc_3 w
  · exact ruledc_4 w
  · exact ruledc_5 w
  · exact ruledc_6 w
  · exact ruledc_7 w
  · exact ruledc_8 w
  · exact ruledc_9 w
  · exact ruledc_10 w
  · exact ruledc_11 w
end Go.Proofs.YtdlkdecigpaaaaaGreatDoor
