/- Put together: The rules of sorts: what an Op's parts may be, and what comes out; Sorts: of a value, whether a kind is one; An expression's sorts: plain words; the walk of Check; The walk of Check; Sorts as truths: the document's Of; the words of sorts. -/
import Derived.Test.YtdlkdecigpaaaaaGreatDoorMp30
namespace Go.Proofs.YtdlkdecigpaaaaaGreatDoor
set_option linter.unusedVariables false
set_option linter.unusedSimpArgs false
open Go.RowKit

/-- What the first and the second part may be, what comes out, whether both must be alike. -/
def ruleL : List (ByteArray × Int × Int × Int × Bool) := [(⟨#[103, 101, 116]⟩, 32, 0, 63, false), (⟨#[97, 116]⟩, 16, 4, 63, false), (⟨#[110, 111, 116]⟩, 2, 0, 2, false), (⟨#[110, 101, 103]⟩, 4, 0, 4, false), (⟨#[111, 114]⟩, 2, 2, 2, false), (⟨#[97, 110, 100]⟩, 2, 2, 2, false), (⟨#[61, 61]⟩, 63, 63, 2, false), (⟨#[33, 61]⟩, 63, 63, 2, false), (⟨#[60]⟩, 12, 12, 2, true), (⟨#[60, 61]⟩, 12, 12, 2, true), (⟨#[62]⟩, 12, 12, 2, true), (⟨#[62, 61]⟩, 12, 12, 2, true), (⟨#[43]⟩, 4, 4, 4, false), (⟨#[45]⟩, 4, 4, 4, false), (⟨#[42]⟩, 4, 4, 4, false), (⟨#[47]⟩, 4, 4, 4, false), (⟨#[37]⟩, 4, 4, 4, false), (⟨#[108, 101, 110]⟩, 56, 0, 4, false), (⟨#[107, 101, 121, 115]⟩, 32, 0, 16, false), (⟨#[104, 97, 115]⟩, 32, 8, 2, false), (⟨#[99, 111, 117, 110, 116]⟩, 16, 63, 4, false), (⟨#[106, 111, 105, 110]⟩, 16, 8, 8, false), (⟨#[115, 117, 109]⟩, 16, 0, 4, false), (⟨#[109, 105, 110]⟩, 16, 0, 4, false), (⟨#[109, 97, 120]⟩, 16, 0, 4, false), (⟨#[97, 108, 108]⟩, 16, 0, 2, false), (⟨#[97, 110, 121]⟩, 16, 0, 2, false), (⟨#[115, 116, 97, 114, 116, 115]⟩, 8, 8, 2, false), (⟨#[101, 110, 100, 115]⟩, 8, 8, 2, false)]
def ruleF (op : ByteArray) : Int × Int × Int × Bool := ((ruleL.find? fun x => decide (x.1 = op)).map (·.2)).getD (0, 0, 0, false)
def RuleSays (q : Int × Int × Int × Bool) (w : World) (e : Ending) (w' : World) : Prop := e = .returned (.agg #[.int .i64 q.1, .int .i64 q.2.1, .int .i64 q.2.2.1, .bool q.2.2.2]) ∧ Keeps [] w w'
theorem sets4 {w W : World} {b : Nat} {t : TypeId} {c0 c1 c2 c3 : Value} (h : W.heap[b]? = some (.cells #[c0, c1, c2, c3] t (0, 0))) (hk : Keeps [] w W) (hb : w.heap.size ≤ b) (v0 v1 v2 v3 : Value) :
    ((((W.setCell ⟨b, 0, none⟩ v0).setCell ⟨b, 1, none⟩ v1).setCell ⟨b, 2, none⟩ v2).setCell ⟨b, 3, none⟩ v3).heap[b]? = some (.cells #[v0, v1, v2, v3] t (0, 0)) ∧ Keeps [] w ((((W.setCell ⟨b, 0, none⟩ v0).setCell ⟨b, 1, none⟩ v1).setCell ⟨b, 2, none⟩ v2).setCell ⟨b, 3, none⟩ v3) :=
  ⟨set_to (set_to (set_to (set_to h 0 v0 rfl) 1 v1 rfl) 2 v2 rfl) 3 v3 rfl, (((hk.set (.inr hb) _).set (.inr hb) _).set (.inr hb) _).set (.inr hb) _⟩
set_option maxRecDepth 20000 in
set_option maxHeartbeats 400000 in
theorem called_0 (w : World) : Calls Tryz.prog 69 #[.string ⟨#[108, 101, 110]⟩] w (RuleSays (56, 0, 4, false) w) := by
  go_enter Tryz.func69, Tryz.ntmps69
  go_wp2_with fail
  exact bodyPost_ret (v := .agg #[.int .i64 56, .int .i64 0, .int .i64 4, .bool false]) (by simp [results, Tryz.results69, go_sem]) rfl ⟨rfl, (Keeps.refl _ _).alloc _⟩
set_option maxRecDepth 20000 in
set_option maxHeartbeats 400000 in
theorem ruledc_0 (w : World) : Calls Tryz.prog 42 #[.string ⟨#[108, 101, 110]⟩] w (RuleSays (56, 0, 4, false) w) := by
  go_enter Tryz.func42, Tryz.ntmps42
  go_wp2_with fail
  refine (called_0 _).mono ?_
  rintro e w1 ⟨rfl, hk1⟩
  have HB : Hid (w1.heap[w.heap.size]? = some (.cells #[.int .i64 0, .int .i64 0, .int .i64 0, .bool false] 91 (0, 0))) := Lib.hid (hk1.same (new_blk _ _))
  have HK : Hid (Keeps [] w w1) := Lib.hid (((Keeps.refl _ _).alloc _).trans hk1)
  have gb := cell_blk HB.out
  have gbf := frozen_blk HB.out
  have hl := hk_lt HB.out
  clear hk1
  go_wp2_with fail
  refine abs_post (F := fun W => W.heap[w.heap.size]? = some (.cells #[.int .i64 56, .int .i64 0, .int .i64 4, .bool false] 91 (0, 0)) ∧ Keeps [] w W) (sets4 HB.out HK.out (Nat.le_refl _) _ _ _ _) (fun W hW => ?_)
  have cr := cell_blk hW.1
  exact bodyPost_ret (v := .agg #[.int .i64 56, .int .i64 0, .int .i64 4, .bool false]) (by simp [results, Tryz.results42, go_sem, cr]) rfl ⟨rfl, hW.2⟩
set_option maxRecDepth 20000 in
set_option maxHeartbeats 400000 in
theorem called_1 (w : World) : Calls Tryz.prog 69 #[.string ⟨#[107, 101, 121, 115]⟩] w (RuleSays (32, 0, 16, false) w) := by
  go_enter Tryz.func69, Tryz.ntmps69
  go_wp2_with fail
  exact bodyPost_ret (v := .agg #[.int .i64 32, .int .i64 0, .int .i64 16, .bool false]) (by simp [results, Tryz.results69, go_sem]) rfl ⟨rfl, (Keeps.refl _ _).alloc _⟩
set_option maxRecDepth 20000 in
set_option maxHeartbeats 400000 in
theorem ruledc_1 (w : World) : Calls Tryz.prog 42 #[.string ⟨#[107, 101, 121, 115]⟩] w (RuleSays (32, 0, 16, false) w) := by
  go_enter Tryz.func42, Tryz.ntmps42
  go_wp2_with fail
  refine (called_1 _).mono ?_
  rintro e w1 ⟨rfl, hk1⟩
  have HB : Hid (w1.heap[w.heap.size]? = some (.cells #[.int .i64 0, .int .i64 0, .int .i64 0, .bool false] 91 (0, 0))) := Lib.hid (hk1.same (new_blk _ _))
  have HK : Hid (Keeps [] w w1) := Lib.hid (((Keeps.refl _ _).alloc _).trans hk1)
  have gb := cell_blk HB.out
  have gbf := frozen_blk HB.out
  have hl := hk_lt HB.out
  clear hk1
  go_wp2_with fail
  refine abs_post (F := fun W => W.heap[w.heap.size]? = some (.cells #[.int .i64 32, .int .i64 0, .int .i64 16, .bool false] 91 (0, 0)) ∧ Keeps [] w W) (sets4 HB.out HK.out (Nat.le_refl _) _ _ _ _) (fun W hW => ?_)
  have cr := cell_blk hW.1
  exact bodyPost_ret (v := .agg #[.int .i64 32, .int .i64 0, .int .i64 16, .bool false]) (by simp [results, Tryz.results42, go_sem, cr]) rfl ⟨rfl, hW.2⟩
set_option maxRecDepth 20000 in
set_option maxHeartbeats 400000 in
theorem called_2 (w : World) : Calls Tryz.prog 69 #[.string ⟨#[104, 97, 115]⟩] w (RuleSays (32, 8, 2, false) w) := by
  go_enter Tryz.func69, Tryz.ntmps69
  go_wp2_with fail
  exact bodyPost_ret (v := .agg #[.int .i64 32, .int .i64 8, .int .i64 2, .bool false]) (by simp [results, Tryz.results69, go_sem]) rfl ⟨rfl, (Keeps.refl _ _).alloc _⟩
set_option maxRecDepth 20000 in
set_option maxHeartbeats 400000 in
theorem ruledc_2 (w : World) : Calls Tryz.prog 42 #[.string ⟨#[104, 97, 115]⟩] w (RuleSays (32, 8, 2, false) w) := by
  go_enter Tryz.func42, Tryz.ntmps42
  go_wp2_with fail
  refine (called_2 _).mono ?_
  rintro e w1 ⟨rfl, hk1⟩
  have HB : Hid (w1.heap[w.heap.size]? = some (.cells #[.int .i64 0, .int .i64 0, .int .i64 0, .bool false] 91 (0, 0))) := Lib.hid (hk1.same (new_blk _ _))
  have HK : Hid (Keeps [] w w1) := Lib.hid (((Keeps.refl _ _).alloc _).trans hk1)
  have gb := cell_blk HB.out
  have gbf := frozen_blk HB.out
  have hl := hk_lt HB.out
  clear hk1
  go_wp2_with fail
  refine abs_post (F := fun W => W.heap[w.heap.size]? = some (.cells #[.int .i64 32, .int .i64 8, .int .i64 2, .bool false] 91 (0, 0)) ∧ Keeps [] w W) (sets4 HB.out HK.out (Nat.le_refl _) _ _ _ _) (fun W hW => ?_)
  have cr := cell_blk hW.1
  exact bodyPost_ret (v := .agg #[.int .i64 32, .int .i64 8, .int .i64 2, .bool false]) (by simp [results, Tryz.results42, go_sem, cr]) rfl ⟨rfl, hW.2⟩
set_option maxRecDepth 20000 in
set_option maxHeartbeats 400000 in
theorem called_3 (w : World) : Calls Tryz.prog 69 #[.string ⟨#[99, 111, 117, 110, 116]⟩] w (RuleSays (16, 63, 4, false) w) := by
  go_enter Tryz.func69, Tryz.ntmps69
  go_wp2_with fail
  exact bodyPost_ret (v := .agg #[.int .i64 16, .int .i64 63, .int .i64 4, .bool false]) (by simp [results, Tryz.results69, go_sem]) rfl ⟨rfl, (Keeps.refl _ _).alloc _⟩
set_option maxRecDepth 20000 in
set_option maxHeartbeats 400000 in
theorem ruledc_3 (w : World) : Calls Tryz.prog 42 #[.string ⟨#[99, 111, 117, 110, 116]⟩] w (RuleSays (16, 63, 4, false) w) := by
  go_enter Tryz.func42, Tryz.ntmps42
  go_wp2_with fail
  refine (called_3 _).mono ?_
  rintro e w1 ⟨rfl, hk1⟩
  have HB : Hid (w1.heap[w.heap.size]? = some (.cells #[.int .i64 0, .int .i64 0, .int .i64 0, .bool false] 91 (0, 0))) := Lib.hid (hk1.same (new_blk _ _))
  have HK : Hid (Keeps [] w w1) := Lib.hid (((Keeps.refl _ _).alloc _).trans hk1)
  have gb := cell_blk HB.out
  have gbf := frozen_blk HB.out
  have hl := hk_lt HB.out
  clear hk1
  go_wp2_with fail
  refine abs_post (F := fun W => W.heap[w.heap.size]? = some (.cells #[.int .i64 16, .int .i64 63, .int .i64 4, .bool false] 91 (0, 0)) ∧ Keeps [] w W) (sets4 HB.out HK.out (Nat.le_refl _) _ _ _ _) (fun W hW => ?_)
  have cr := cell_blk hW.1
  exact bodyPost_ret (v := .agg #[.int .i64 16, .int .i64 63, .int .i64 4, .bool false]) (by simp [results, Tryz.results42, go_sem, cr]) rfl ⟨rfl, hW.2⟩
set_option maxRecDepth 20000 in
set_option maxHeartbeats 400000 in
theorem called_4 (w : World) : Calls Tryz.prog 69 #[.string ⟨#[106, 111, 105, 110]⟩] w (RuleSays (16, 8, 8, false) w) := by
  go_enter Tryz.func69, Tryz.ntmps69
  go_wp2_with fail
  exact bodyPost_ret (v := .agg #[.int .i64 16, .int .i64 8, .int .i64 8, .bool false]) (by simp [results, Tryz.results69, go_sem]) rfl ⟨rfl, (Keeps.refl _ _).alloc _⟩
set_option maxRecDepth 20000 in
set_option maxHeartbeats 400000 in
theorem ruledc_4 (w : World) : Calls Tryz.prog 42 #[.string ⟨#[106, 111, 105, 110]⟩] w (RuleSays (16, 8, 8, false) w) := by
  go_enter Tryz.func42, Tryz.ntmps42
  go_wp2_with fail
  refine (called_4 _).mono ?_
  rintro e w1 ⟨rfl, hk1⟩
  have HB : Hid (w1.heap[w.heap.size]? = some (.cells #[.int .i64 0, .int .i64 0, .int .i64 0, .bool false] 91 (0, 0))) := Lib.hid (hk1.same (new_blk _ _))
  have HK : Hid (Keeps [] w w1) := Lib.hid (((Keeps.refl _ _).alloc _).trans hk1)
  have gb := cell_blk HB.out
  have gbf := frozen_blk HB.out
  have hl := hk_lt HB.out
  clear hk1
  go_wp2_with fail
  refine abs_post (F := fun W => W.heap[w.heap.size]? = some (.cells #[.int .i64 16, .int .i64 8, .int .i64 8, .bool false] 91 (0, 0)) ∧ Keeps [] w W) (sets4 HB.out HK.out (Nat.le_refl _) _ _ _ _) (fun W hW => ?_)
  have cr := cell_blk hW.1
  exact bodyPost_ret (v := .agg #[.int .i64 16, .int .i64 8, .int .i64 8, .bool false]) (by simp [results, Tryz.results42, go_sem, cr]) rfl ⟨rfl, hW.2⟩
set_option maxRecDepth 20000 in
set_option maxHeartbeats 400000 in
theorem called_5 (w : World) : Calls Tryz.prog 69 #[.string ⟨#[115, 117, 109]⟩] w (RuleSays (16, 0, 4, false) w) := by
  go_enter Tryz.func69, Tryz.ntmps69
  go_wp2_with fail
  exact bodyPost_ret (v := .agg #[.int .i64 16, .int .i64 0, .int .i64 4, .bool false]) (by simp [results, Tryz.results69, go_sem]) rfl ⟨rfl, (Keeps.refl _ _).alloc _⟩
set_option maxRecDepth 20000 in
set_option maxHeartbeats 400000 in
theorem ruledc_5 (w : World) : Calls Tryz.prog 42 #[.string ⟨#[115, 117, 109]⟩] w (RuleSays (16, 0, 4, false) w) := by
  go_enter Tryz.func42, Tryz.ntmps42
  go_wp2_with fail
  refine (called_5 _).mono ?_
  rintro e w1 ⟨rfl, hk1⟩
  have HB : Hid (w1.heap[w.heap.size]? = some (.cells #[.int .i64 0, .int .i64 0, .int .i64 0, .bool false] 91 (0, 0))) := Lib.hid (hk1.same (new_blk _ _))
  have HK : Hid (Keeps [] w w1) := Lib.hid (((Keeps.refl _ _).alloc _).trans hk1)
  have gb := cell_blk HB.out
  have gbf := frozen_blk HB.out
  have hl := hk_lt HB.out
  clear hk1
  go_wp2_with fail
  refine abs_post (F := fun W => W.heap[w.heap.size]? = some (.cells #[.int .i64 16, .int .i64 0, .int .i64 4, .bool false] 91 (0, 0)) ∧ Keeps [] w W) (sets4 HB.out HK.out (Nat.le_refl _) _ _ _ _) (fun W hW => ?_)
  have cr := cell_blk hW.1
  exact bodyPost_ret (v := .agg #[.int .i64 16, .int .i64 0, .int .i64 4, .bool false]) (by simp [results, Tryz.results42, go_sem, cr]) rfl ⟨rfl, hW.2⟩
set_option maxRecDepth 20000 in
set_option maxHeartbeats 400000 in
theorem called_6 (w : World) : Calls Tryz.prog 69 #[.string ⟨#[109, 105, 110]⟩] w (RuleSays (16, 0, 4, false) w) := by
  go_enter Tryz.func69, Tryz.ntmps69
  go_wp2_with fail
  exact bodyPost_ret (v := .agg #[.int .i64 16, .int .i64 0, .int .i64 4, .bool false]) (by simp [results, Tryz.results69, go_sem]) rfl ⟨rfl, (Keeps.refl _ _).alloc _⟩
set_option maxRecDepth 20000 in
set_option maxHeartbeats 400000 in
theorem ruledc_6 (w : World) : Calls Tryz.prog 42 #[.string ⟨#[109, 105, 110]⟩] w (RuleSays (16, 0, 4, false) w) := by
  go_enter Tryz.func42, Tryz.ntmps42
  go_wp2_with fail
  refine (called_6 _).mono ?_
  rintro e w1 ⟨rfl, hk1⟩
  have HB : Hid (w1.heap[w.heap.size]? = some (.cells #[.int .i64 0, .int .i64 0, .int .i64 0, .bool false] 91 (0, 0))) := Lib.hid (hk1.same (new_blk _ _))
  have HK : Hid (Keeps [] w w1) := Lib.hid (((Keeps.refl _ _).alloc _).trans hk1)
  have gb := cell_blk HB.out
  have gbf := frozen_blk HB.out
  have hl := hk_lt HB.out
  clear hk1
  go_wp2_with fail
  refine abs_post (F := fun W => W.heap[w.heap.size]? = some (.cells #[.int .i64 16, .int .i64 0, .int .i64 4, .bool false] 91 (0, 0)) ∧ Keeps [] w W) (sets4 HB.out HK.out (Nat.le_refl _) _ _ _ _) (fun W hW => ?_)
  have cr := cell_blk hW.1
  exact bodyPost_ret (v := .agg #[.int .i64 16, .int .i64 0, .int .i64 4, .bool false]) (by simp [results, Tryz.results42, go_sem, cr]) rfl ⟨rfl, hW.2⟩
set_option maxRecDepth 20000 in
set_option maxHeartbeats 400000 in
theorem called_7 (w : World) : Calls Tryz.prog 69 #[.string ⟨#[109, 97, 120]⟩] w (RuleSays (16, 0, 4, false) w) := by
  go_enter Tryz.func69, Tryz.ntmps69
  go_wp2_with fail
  exact bodyPost_ret (v := .agg #[.int .i64 16, .int .i64 0, .int .i64 4, .bool false]) (by simp [results, Tryz.results69, go_sem]) rfl ⟨rfl, (Keeps.refl _ _).alloc _⟩
set_option maxRecDepth 20000 in
set_option maxHeartbeats 400000 in
theorem ruledc_7 (w : World) : Calls Tryz.prog 42 #[.string ⟨#[109, 97, 120]⟩] w (RuleSays (16, 0, 4, false) w) := by
  go_enter Tryz.func42, Tryz.ntmps42
  go_wp2_with fail
  refine (called_7 _).mono ?_
  rintro e w1 ⟨rfl, hk1⟩
  have HB : Hid (w1.heap[w.heap.size]? = some (.cells #[.int .i64 0, .int .i64 0, .int .i64 0, .bool false] 91 (0, 0))) := Lib.hid (hk1.same (new_blk _ _))
  have HK : Hid (Keeps [] w w1) := Lib.hid (((Keeps.refl _ _).alloc _).trans hk1)
  have gb := cell_blk HB.out
  have gbf := frozen_blk HB.out
  have hl := hk_lt HB.out
  clear hk1
  go_wp2_with fail
  refine abs_post (F := fun W => W.heap[w.heap.size]? = some (.cells #[.int .i64 16, .int .i64 0, .int .i64 4, .bool false] 91 (0, 0)) ∧ Keeps [] w W) (sets4 HB.out HK.out (Nat.le_refl _) _ _ _ _) (fun W hW => ?_)
  have cr := cell_blk hW.1
  exact bodyPost_ret (v := .agg #[.int .i64 16, .int .i64 0, .int .i64 4, .bool false]) (by simp [results, Tryz.results42, go_sem, cr]) rfl ⟨rfl, hW.2⟩
set_option maxRecDepth 20000 in
set_option maxHeartbeats 400000 in
theorem called_8 (w : World) : Calls Tryz.prog 69 #[.string ⟨#[97, 108, 108]⟩] w (RuleSays (16, 0, 2, false) w) := by
  go_enter Tryz.func69, Tryz.ntmps69
  go_wp2_with fail
  exact bodyPost_ret (v := .agg #[.int .i64 16, .int .i64 0, .int .i64 2, .bool false]) (by simp [results, Tryz.results69, go_sem]) rfl ⟨rfl, (Keeps.refl _ _).alloc _⟩
set_option maxRecDepth 20000 in
set_option maxHeartbeats 400000 in
theorem ruledc_8 (w : World) : Calls Tryz.prog 42 #[.string ⟨#[97, 108, 108]⟩] w (RuleSays (16, 0, 2, false) w) := by
  go_enter Tryz.func42, Tryz.ntmps42
  go_wp2_with fail
  refine (called_8 _).mono ?_
  rintro e w1 ⟨rfl, hk1⟩
  have HB : Hid (w1.heap[w.heap.size]? = some (.cells #[.int .i64 0, .int .i64 0, .int .i64 0, .bool false] 91 (0, 0))) := Lib.hid (hk1.same (new_blk _ _))
  have HK : Hid (Keeps [] w w1) := Lib.hid (((Keeps.refl _ _).alloc _).trans hk1)
  have gb := cell_blk HB.out
  have gbf := frozen_blk HB.out
  have hl := hk_lt HB.out
  clear hk1
  go_wp2_with fail
  refine abs_post (F := fun W => W.heap[w.heap.size]? = some (.cells #[.int .i64 16, .int .i64 0, .int .i64 2, .bool false] 91 (0, 0)) ∧ Keeps [] w W) (sets4 HB.out HK.out (Nat.le_refl _) _ _ _ _) (fun W hW => ?_)
  have cr := cell_blk hW.1
  exact bodyPost_ret (v := .agg #[.int .i64 16, .int .i64 0, .int .i64 2, .bool false]) (by simp [results, Tryz.results42, go_sem, cr]) rfl ⟨rfl, hW.2⟩
set_option maxRecDepth 20000 in
set_option maxHeartbeats 400000 in
theorem called_9 (w : World) : Calls Tryz.prog 69 #[.string ⟨#[97, 110, 121]⟩] w (RuleSays (16, 0, 2, false) w) := by
  go_enter Tryz.func69, Tryz.ntmps69
  go_wp2_with fail
  exact bodyPost_ret (v := .agg #[.int .i64 16, .int .i64 0, .int .i64 2, .bool false]) (by simp [results, Tryz.results69, go_sem]) rfl ⟨rfl, (Keeps.refl _ _).alloc _⟩
set_option maxRecDepth 20000 in
set_option maxHeartbeats 400000 in
theorem ruledc_9 (w : World) : Calls Tryz.prog 42 #[.string ⟨#[97, 110, 121]⟩] w (RuleSays (16, 0, 2, false) w) := by
  go_enter Tryz.func42, Tryz.ntmps42
  go_wp2_with fail
  refine (called_9 _).mono ?_
  rintro e w1 ⟨rfl, hk1⟩
  have HB : Hid (w1.heap[w.heap.size]? = some (.cells #[.int .i64 0, .int .i64 0, .int .i64 0, .bool false] 91 (0, 0))) := Lib.hid (hk1.same (new_blk _ _))
  have HK : Hid (Keeps [] w w1) := Lib.hid (((Keeps.refl _ _).alloc _).trans hk1)
  have gb := cell_blk HB.out
  have gbf := frozen_blk HB.out
  have hl := hk_lt HB.out
  clear hk1
  go_wp2_with fail
  refine abs_post (F := fun W => W.heap[w.heap.size]? = some (.cells #[.int .i64 16, .int .i64 0, .int .i64 2, .bool false] 91 (0, 0)) ∧ Keeps [] w W) (sets4 HB.out HK.out (Nat.le_refl _) _ _ _ _) (fun W hW => ?_)
  have cr := cell_blk hW.1
  exact bodyPost_ret (v := .agg #[.int .i64 16, .int .i64 0, .int .i64 2, .bool false]) (by simp [results, Tryz.results42, go_sem, cr]) rfl ⟨rfl, hW.2⟩
set_option maxRecDepth 20000 in
set_option maxHeartbeats 400000 in
theorem called_10 (w : World) : Calls Tryz.prog 69 #[.string ⟨#[115, 116, 97, 114, 116, 115]⟩] w (RuleSays (8, 8, 2, false) w) := by
  go_enter Tryz.func69, Tryz.ntmps69
  go_wp2_with fail
  exact bodyPost_ret (v := .agg #[.int .i64 8, .int .i64 8, .int .i64 2, .bool false]) (by simp [results, Tryz.results69, go_sem]) rfl ⟨rfl, (Keeps.refl _ _).alloc _⟩
set_option maxRecDepth 20000 in
set_option maxHeartbeats 400000 in
theorem ruledc_10 (w : World) : Calls Tryz.prog 42 #[.string ⟨#[115, 116, 97, 114, 116, 115]⟩] w (RuleSays (8, 8, 2, false) w) := by
  go_enter Tryz.func42, Tryz.ntmps42
  go_wp2_with fail
  refine (called_10 _).mono ?_
  rintro e w1 ⟨rfl, hk1⟩
  have HB : Hid (w1.heap[w.heap.size]? = some (.cells #[.int .i64 0, .int .i64 0, .int .i64 0, .bool false] 91 (0, 0))) := Lib.hid (hk1.same (new_blk _ _))
  have HK : Hid (Keeps [] w w1) := Lib.hid (((Keeps.refl _ _).alloc _).trans hk1)
  have gb := cell_blk HB.out
  have gbf := frozen_blk HB.out
  have hl := hk_lt HB.out
  clear hk1
  go_wp2_with fail
  refine abs_post (F := fun W => W.heap[w.heap.size]? = some (.cells #[.int .i64 8, .int .i64 8, .int .i64 2, .bool false] 91 (0, 0)) ∧ Keeps [] w W) (sets4 HB.out HK.out (Nat.le_refl _) _ _ _ _) (fun W hW => ?_)
  have cr := cell_blk hW.1
  exact bodyPost_ret (v := .agg #[.int .i64 8, .int .i64 8, .int .i64 2, .bool false]) (by simp [results, Tryz.results42, go_sem, cr]) rfl ⟨rfl, hW.2⟩
set_option maxRecDepth 20000 in
set_option maxHeartbeats 400000 in
theorem called_11 (w : World) : Calls Tryz.prog 69 #[.string ⟨#[101, 110, 100, 115]⟩] w (RuleSays (8, 8, 2, false) w) := by
  go_enter Tryz.func69, Tryz.ntmps69
  go_wp2_with fail
  exact bodyPost_ret (v := .agg #[.int .i64 8, .int .i64 8, .int .i64 2, .bool false]) (by simp [results, Tryz.results69, go_sem]) rfl ⟨rfl, (Keeps.refl _ _).alloc _⟩
set_option maxRecDepth 20000 in
set_option maxHeartbeats 400000 in
theorem ruledc_11 (w : World) : Calls Tryz.prog 42 #[.string ⟨#[101, 110, 100, 115]⟩] w (RuleSays (8, 8, 2, false) w) := by
  go_enter Tryz.func42, Tryz.ntmps42
  go_wp2_with fail
  refine (called_11 _).mono ?_
  rintro e w1 ⟨rfl, hk1⟩
  have HB : Hid (w1.heap[w.heap.size]? = some (.cells #[.int .i64 0, .int .i64 0, .int .i64 0, .bool false] 91 (0, 0))) := Lib.hid (hk1.same (new_blk _ _))
  have HK : Hid (Keeps [] w w1) := Lib.hid (((Keeps.refl _ _).alloc _).trans hk1)
  have gb := cell_blk HB.out
  have gbf := frozen_blk HB.out
  have hl := hk_lt HB.out
  clear hk1
  go_wp2_with fail
  refine abs_post (F := fun W => W.heap[w.heap.size]? = some (.cells #[.int .i64 8, .int .i64 8, .int .i64 2, .bool false] 91 (0, 0)) ∧ Keeps [] w W) (sets4 HB.out HK.out (Nat.le_refl _) _ _ _ _) (fun W hW => ?_)
  have cr := cell_blk hW.1
  exact bodyPost_ret (v := .agg #[.int .i64 8, .int .i64 8, .int .i64 2, .bool false]) (by simp [results, Tryz.results42, go_sem, cr]) rfl ⟨rfl, hW.2⟩
set_option maxRecDepth 20000 in
set_option maxHeartbeats 400000 in
theorem ruled_0 (w : World) : Calls Tryz.prog 42 #[.string ⟨#[103, 101, 116]⟩] w (RuleSays (32, 0, 63, false) w) := by
  go_enter Tryz.func42, Tryz.ntmps42
  go_wp2_with fail
  exact bodyPost_ret (v := .agg #[.int .i64 32, .int .i64 0, .int .i64 63, .bool false]) (by simp [results, Tryz.results42, go_sem]) rfl ⟨rfl, (Keeps.refl _ _).alloc _⟩
set_option maxRecDepth 20000 in
set_option maxHeartbeats 400000 in
theorem ruled_1 (w : World) : Calls Tryz.prog 42 #[.string ⟨#[97, 116]⟩] w (RuleSays (16, 4, 63, false) w) := by
  go_enter Tryz.func42, Tryz.ntmps42
  go_wp2_with fail
  exact bodyPost_ret (v := .agg #[.int .i64 16, .int .i64 4, .int .i64 63, .bool false]) (by simp [results, Tryz.results42, go_sem]) rfl ⟨rfl, (Keeps.refl _ _).alloc _⟩
set_option maxRecDepth 20000 in
set_option maxHeartbeats 400000 in
theorem ruled_2 (w : World) : Calls Tryz.prog 42 #[.string ⟨#[110, 111, 116]⟩] w (RuleSays (2, 0, 2, false) w) := by
  go_enter Tryz.func42, Tryz.ntmps42
  go_wp2_with fail
  exact bodyPost_ret (v := .agg #[.int .i64 2, .int .i64 0, .int .i64 2, .bool false]) (by simp [results, Tryz.results42, go_sem]) rfl ⟨rfl, (Keeps.refl _ _).alloc _⟩
set_option maxRecDepth 20000 in
set_option maxHeartbeats 400000 in
theorem ruled_3 (w : World) : Calls Tryz.prog 42 #[.string ⟨#[110, 101, 103]⟩] w (RuleSays (4, 0, 4, false) w) := by
  go_enter Tryz.func42, Tryz.ntmps42
  go_wp2_with fail
  exact bodyPost_ret (v := .agg #[.int .i64 4, .int .i64 0, .int .i64 4, .bool false]) (by simp [results, Tryz.results42, go_sem]) rfl ⟨rfl, (Keeps.refl _ _).alloc _⟩
set_option maxRecDepth 20000 in
set_option maxHeartbeats 400000 in
theorem ruled_4 (w : World) : Calls Tryz.prog 42 #[.string ⟨#[111, 114]⟩] w (RuleSays (2, 2, 2, false) w) := by
  go_enter Tryz.func42, Tryz.ntmps42
  go_wp2_with fail
  exact bodyPost_ret (v := .agg #[.int .i64 2, .int .i64 2, .int .i64 2, .bool false]) (by simp [results, Tryz.results42, go_sem]) rfl ⟨rfl, (Keeps.refl _ _).alloc _⟩
set_option maxRecDepth 20000 in
set_option maxHeartbeats 400000 in
theorem ruled_5 (w : World) : Calls Tryz.prog 42 #[.string ⟨#[97, 110, 100]⟩] w (RuleSays (2, 2, 2, false) w) := by
  go_enter Tryz.func42, Tryz.ntmps42
  go_wp2_with fail
  exact bodyPost_ret (v := .agg #[.int .i64 2, .int .i64 2, .int .i64 2, .bool false]) (by simp [results, Tryz.results42, go_sem]) rfl ⟨rfl, (Keeps.refl _ _).alloc _⟩
set_option maxRecDepth 20000 in
set_option maxHeartbeats 400000 in
theorem ruled_6 (w : World) : Calls Tryz.prog 42 #[.string ⟨#[61, 61]⟩] w (RuleSays (63, 63, 2, false) w) := by
  go_enter Tryz.func42, Tryz.ntmps42
  go_wp2_with fail
  exact bodyPost_ret (v := .agg #[.int .i64 63, .int .i64 63, .int .i64 2, .bool false]) (by simp [results, Tryz.results42, go_sem]) rfl ⟨rfl, (Keeps.refl _ _).alloc _⟩
set_option maxRecDepth 20000 in
set_option maxHeartbeats 400000 in
theorem ruled_7 (w : World) : Calls Tryz.prog 42 #[.string ⟨#[33, 61]⟩] w (RuleSays (63, 63, 2, false) w) := by
  go_enter Tryz.func42, Tryz.ntmps42
  go_wp2_with fail
  exact bodyPost_ret (v := .agg #[.int .i64 63, .int .i64 63, .int .i64 2, .bool false]) (by simp [results, Tryz.results42, go_sem]) rfl ⟨rfl, (Keeps.refl _ _).alloc _⟩
set_option maxRecDepth 20000 in
set_option maxHeartbeats 400000 in
theorem ruled_8 (w : World) : Calls Tryz.prog 42 #[.string ⟨#[60]⟩] w (RuleSays (12, 12, 2, true) w) := by
  go_enter Tryz.func42, Tryz.ntmps42
  go_wp2_with fail
  exact bodyPost_ret (v := .agg #[.int .i64 12, .int .i64 12, .int .i64 2, .bool true]) (by simp [results, Tryz.results42, go_sem]) rfl ⟨rfl, (Keeps.refl _ _).alloc _⟩
set_option maxRecDepth 20000 in
set_option maxHeartbeats 400000 in
theorem ruled_9 (w : World) : Calls Tryz.prog 42 #[.string ⟨#[60, 61]⟩] w (RuleSays (12, 12, 2, true) w) := by
  go_enter Tryz.func42, Tryz.ntmps42
  go_wp2_with fail
  exact bodyPost_ret (v := .agg #[.int .i64 12, .int .i64 12, .int .i64 2, .bool true]) (by simp [results, Tryz.results42, go_sem]) rfl ⟨rfl, (Keeps.refl _ _).alloc _⟩
set_option maxRecDepth 20000 in
set_option maxHeartbeats 400000 in
theorem ruled_10 (w : World) : Calls Tryz.prog 42 #[.string ⟨#[62]⟩] w (RuleSays (12, 12, 2, true) w) := by
  go_enter Tryz.func42, Tryz.ntmps42
  go_wp2_with fail
  exact bodyPost_ret (v := .agg #[.int .i64 12, .int .i64 12, .int .i64 2, .bool true]) (by simp [results, Tryz.results42, go_sem]) rfl ⟨rfl, (Keeps.refl _ _).alloc _⟩
set_option maxRecDepth 20000 in
set_option maxHeartbeats 400000 in
theorem ruled_11 (w : World) : Calls Tryz.prog 42 #[.string ⟨#[62, 61]⟩] w (RuleSays (12, 12, 2, true) w) := by
  go_enter Tryz.func42, Tryz.ntmps42
  go_wp2_with fail
  exact bodyPost_ret (v := .agg #[.int .i64 12, .int .i64 12, .int .i64 2, .bool true]) (by simp [results, Tryz.results42, go_sem]) rfl ⟨rfl, (Keeps.refl _ _).alloc _⟩
set_option maxRecDepth 20000 in
set_option maxHeartbeats 400000 in
theorem ruled_12 (w : World) : Calls Tryz.prog 42 #[.string ⟨#[43]⟩] w (RuleSays (4, 4, 4, false) w) := by
  go_enter Tryz.func42, Tryz.ntmps42
  go_wp2_with fail
  exact bodyPost_ret (v := .agg #[.int .i64 4, .int .i64 4, .int .i64 4, .bool false]) (by simp [results, Tryz.results42, go_sem]) rfl ⟨rfl, (Keeps.refl _ _).alloc _⟩
set_option maxRecDepth 20000 in
set_option maxHeartbeats 400000 in
theorem ruled_13 (w : World) : Calls Tryz.prog 42 #[.string ⟨#[45]⟩] w (RuleSays (4, 4, 4, false) w) := by
  go_enter Tryz.func42, Tryz.ntmps42
  go_wp2_with fail
  exact bodyPost_ret (v := .agg #[.int .i64 4, .int .i64 4, .int .i64 4, .bool false]) (by simp [results, Tryz.results42, go_sem]) rfl ⟨rfl, (Keeps.refl _ _).alloc _⟩
set_option maxRecDepth 20000 in
set_option maxHeartbeats 400000 in
theorem ruled_14 (w : World) : Calls Tryz.prog 42 #[.string ⟨#[42]⟩] w (RuleSays (4, 4, 4, false) w) := by
  go_enter Tryz.func42, Tryz.ntmps42
  go_wp2_with fail
  exact bodyPost_ret (v := .agg #[.int .i64 4, .int .i64 4, .int .i64 4, .bool false]) (by simp [results, Tryz.results42, go_sem]) rfl ⟨rfl, (Keeps.refl _ _).alloc _⟩
set_option maxRecDepth 20000 in
set_option maxHeartbeats 400000 in
theorem ruled_15 (w : World) : Calls Tryz.prog 42 #[.string ⟨#[47]⟩] w (RuleSays (4, 4, 4, false) w) := by
  go_enter Tryz.func42, Tryz.ntmps42
  go_wp2_with fail
  exact bodyPost_ret (v := .agg #[.int .i64 4, .int .i64 4, .int .i64 4, .bool false]) (by simp [results, Tryz.results42, go_sem]) rfl ⟨rfl, (Keeps.refl _ _).alloc _⟩
set_option maxRecDepth 20000 in
set_option maxHeartbeats 400000 in
theorem ruled_16 (w : World) : Calls Tryz.prog 42 #[.string ⟨#[37]⟩] w (RuleSays (4, 4, 4, false) w) := by
  go_enter Tryz.func42, Tryz.ntmps42
  go_wp2_with fail
  exact bodyPost_ret (v := .agg #[.int .i64 4, .int .i64 4, .int .i64 4, .bool false]) (by simp [results, Tryz.results42, go_sem]) rfl ⟨rfl, (Keeps.refl _ _).alloc _⟩
theorem ruled_any {op : ByteArray} (h : memL op (ruleL.map (·.1)) = true) (w : World) : Calls Tryz.prog 42 #[.string op] w (RuleSays (ruleF op) w) := by
  rw [memL_iff] at h
  simp only [ruleL, List.map_cons, List.map_nil, List.mem_cons, List.not_mem_nil, or_false] at h
  rcases h with rfl | rfl | rfl | rfl | rfl | rfl | rfl | rfl | rfl | rfl | rfl | rfl | rfl | rfl | rfl | rfl | rfl | rfl | rfl | rfl | rfl | rfl | rfl | rfl | rfl | rfl | rfl | rfl | rfl
  · exact ruled_0 w
  · exact ruled_1 w
  · exact ruled_2 w
  · exact ruled_3 w
  · exact ruled_4 w
  · exact ruled_5 w
  · exact ruled_6 w
  · exact ruled_7 w
  · exact ruled_8 w
  · exact ruled_9 w
  · exact ruled_10 w
  · exact ruled_11 w
  · exact ruled_12 w
  · exact ruled_13 w
  · exact ruled_14 w
  · exact ruled_15 w
  · exact ruled_16 w
  · exact ruledc_0 w
  · exact ruledc_1 w
  · exact ruledc_2 w
  · exact ruledc_3 w
  · exact ruledc_4 w
  · exact ruledc_5 w
  · exact ruledc_6 w
  · exact ruledc_7 w
  · exact ruledc_8 w
  · exact ruledc_9 w
  · exact ruledc_10 w
  · exact ruledc_11 w
end Go.Proofs.YtdlkdecigpaaaaaGreatDoor
namespace Go.Proofs.YtdlkdecigpaaaaaGreatDoor
set_option linter.unusedVariables false
set_option linter.unusedSimpArgs false
open Go.RowKit

/-- Whether a kind is one of some sorts. -/
def hasK (m k : Int) : Bool := decide (0 ≤ k ∧ k ≤ 5) && (bits BinOp.and IntKind.i64 m (2 ^ k.toNat) != 0)
set_option maxRecDepth 20000 in
set_option maxHeartbeats 400000 in
theorem shas_in (m k : Int) (w : World) (h0 : 0 ≤ m) (h1 : m ≤ 63) (k0 : 0 ≤ k) (k1 : k ≤ 5) : Calls Tryz.prog 21 #[.int .i64 m, .int .i64 k] w fun e w' => e = .returned (.bool (hasK m k)) ∧ w = w' := by
  rcases (by omega : k = 0 ∨ k = 1 ∨ k = 2 ∨ k = 3 ∨ k = 4 ∨ k = 5) with rfl | rfl | rfl | rfl | rfl | rfl
  all_goals
    go_enter Tryz.func21, Tryz.ntmps21
    go_wp2
    go_ret
    exact ⟨rfl, rfl⟩
set_option maxRecDepth 20000 in
set_option maxHeartbeats 400000 in
theorem shas_out (m k : Int) (w : World) (hk : k < 0 ∨ 5 < k) (k0 : -9223372036854775808 ≤ k) (k1 : k ≤ 9223372036854775807) : Calls Tryz.prog 21 #[.int .i64 m, .int .i64 k] w fun e w' => e = .returned (.bool false) ∧ w = w' := by
  rcases hk with hk | hk
  all_goals
    go_enter Tryz.func21, Tryz.ntmps21
    go_wp2
    go_ret
    exact ⟨rfl, rfl⟩
set_option maxRecDepth 20000 in
set_option maxHeartbeats 400000 in
theorem sof_any (k n : Int) (b : Bool) (s : ByteArray) (a1 a2 : Option Addr) (n1 c1 n2 c2 : Nat) (w : World) (h0 : 0 ≤ k) (h1 : k ≤ 5) : Calls Tryz.prog 22 #[.agg #[.int .i64 k, .bool b, .int .i64 n, .string s, .slice a1 n1 c1, .slice a2 n2 c2]] w fun e w' => e = .returned (.int .i64 (2 ^ k.toNat)) ∧ Keeps [] w w' := by
  rcases (by omega : k = 0 ∨ k = 1 ∨ k = 2 ∨ k = 3 ∨ k = 4 ∨ k = 5) with rfl | rfl | rfl | rfl | rfl | rfl
  all_goals
    go_enter Tryz.func22, Tryz.ntmps22
    go_wp2
    go_ret
    exact ⟨rfl, (Keeps.refl _ _).alloc _⟩
theorem two_pow (k : Int) (h0 : 0 ≤ k) (h1 : k ≤ 5) : (0 : Int) < 2 ^ k.toNat ∧ (2 : Int) ^ k.toNat ≤ 32 := by
  rcases (by omega : k = 0 ∨ k = 1 ∨ k = 2 ∨ k = 3 ∨ k = 4 ∨ k = 5) with rfl | rfl | rfl | rfl | rfl | rfl <;> decide
/-- The first place of a text in a row. -/
def findL (l : List ByteArray) (t : ByteArray) : Option Nat := l.findIdx? fun x => decide (x = t)
section
variable (l : List ByteArray) (vL : Value) (S : Nat → Prop) (t : ByteArray) (w : World)
set_option maxRecDepth 20000 in
set_option maxHeartbeats 400000 in
theorem sindex_none (hL : Sl w S 1 vL l.length (l.map Value.string)) (hl : l.length ≤ 1000000) (hn : ∀ (j : Nat) (hj : j < l.length), l[j] ≠ t) :
    Calls Tryz.prog 41 #[vL, .string t] w fun e w' => e = .returned (.int .i64 (-1)) ∧ w = w' := by
  obtain ⟨aL, cL, rfl, hcL, _⟩ := hL.shape
  have HL := Lib.hid hL
  have HN := Lib.hid hn
  clear hL hn
  go_enter Tryz.func41, Tryz.ntmps41
  go_wp2
  go_loop [8] (fun v => ∃ k : Nat, k ≤ l.length ∧ v = .int .i64 k) (fun v => l.length - (intOf v).toNat)
  case atStart => exact ⟨0, Nat.zero_le _, rfl⟩
  case round =>
    obtain ⟨k, hk, rfl⟩ := hrel
    by_cases hlt : k < l.length
    · obtain ⟨g', o', c', hv, _, _, _, hcells⟩ := HL.out.at (by omega)
      cases hv
      have y0 := hcells k (.string l[k]) (by rw [List.getElem?_map, List.getElem?_eq_getElem hlt]; rfl)
      have y1 : (t.toList == l[k].toList) = false := str_bne fun e => HN.out k hlt e.symm
      have y2 : (l[k].toList == t.toList) = false := str_bne (HN.out k hlt)
      clear hcells
      go_wp2
      go_round
      case rel => exact ⟨k + 1, by omega, by go_num⟩
      case measure => simp [intOf]; omega
    · obtain rfl : k = l.length := by omega
      go_wp2
      go_ret
      exact ⟨rfl, rfl⟩
set_option maxRecDepth 20000 in
set_option maxHeartbeats 400000 in
theorem sindex_some (q : Nat) (hq : q < l.length) (hL : Sl w S 1 vL l.length (l.map Value.string)) (hl : l.length ≤ 1000000) (hy : l[q] = t) (hn : ∀ (j : Nat) (hj : j < l.length), j < q → l[j] ≠ t) :
    Calls Tryz.prog 41 #[vL, .string t] w fun e w' => e = .returned (.int .i64 q) ∧ w = w' := by
  obtain ⟨aL, cL, rfl, hcL, _⟩ := hL.shape
  have HL := Lib.hid hL
  have HN := Lib.hid hn
  have HY := Lib.hid hy
  clear hL hn hy
  go_enter Tryz.func41, Tryz.ntmps41
  go_wp2
  go_loop [8] (fun v => ∃ k : Nat, k ≤ q ∧ v = .int .i64 k) (fun v => l.length - (intOf v).toNat)
  case atStart => exact ⟨0, Nat.zero_le _, rfl⟩
  case round =>
    obtain ⟨k, hk, rfl⟩ := hrel
    have hlt : k < l.length := by omega
    obtain ⟨g', o', c', hv, _, _, _, hcells⟩ := HL.out.at (by omega)
    cases hv
    have y0 := hcells k (.string l[k]) (by rw [List.getElem?_map, List.getElem?_eq_getElem hlt]; rfl)
    clear hcells
    by_cases hkq : k < q
    · have y1 : (t.toList == l[k].toList) = false := str_bne fun e => HN.out k hlt hkq e.symm
      have y2 : (l[k].toList == t.toList) = false := str_bne (HN.out k hlt hkq)
      go_wp2
      go_round
      case rel => exact ⟨k + 1, by omega, by go_num⟩
      case measure => simp [intOf]; omega
    · obtain rfl : k = q := by omega
      have y1 : (t.toList == l[k].toList) = true := str_beq HY.out.symm
      have y2 : (l[k].toList == t.toList) = true := str_beq HY.out
      go_wp2
      go_ret
      exact ⟨rfl, rfl⟩
end
end Go.Proofs.YtdlkdecigpaaaaaGreatDoor
namespace Go.Proofs.YtdlkdecigpaaaaaGreatDoor
set_option linter.unusedVariables false
set_option linter.unusedSimpArgs false
open Go.RowKit

/-- What this, and some names, may be. -/
structure SEnv where
  this : Int
  names : List ByteArray
  sorts : List Int
def mayB (q : Int × Int × Int × Bool) : List Int → Bool
  | [a] => bits BinOp.and IntKind.i64 a q.1 != 0
  | [a, b] => (bits BinOp.and IntKind.i64 a q.1 != 0) && ((bits BinOp.and IntKind.i64 b q.2.1 != 0) && (!q.2.2.2 || bits BinOp.and IntKind.i64 (bits BinOp.and IntKind.i64 a b) q.1 != 0))
  | _ => false
def ruleOut (q : Int × Int × Int × Bool) (got : List Int) : Int × Int := if mayB q got = true then (q.2.2.1, 0) else (0, 9)
mutual
def chk (E : SEnv) : XT → Int × Int
  | .mk o nm v l =>
    if o = litS then (2 ^ v.k.toNat, 0)
    else if o = thisS then (E.this, 0)
    else if o = varS then (match findL E.names nm with | some q => (E.sorts.getD q 0, 0) | none => (0, 13))
    else if (chkL E l).2 = 0 then ruleOut (ruleF o) (chkL E l).1 else (0, (chkL E l).2)
def chkL (E : SEnv) : List XT → List Int × Int
  | [] => ([], 0)
  | T :: l => if (chk E T).2 = 0 then (if (chkL E l).2 = 0 then ((chk E T).1 :: (chkL E l).1, 0) else ([], (chkL E l).2)) else ([], (chk E T).2)
end
theorem chkL_ok {E : SEnv} : ∀ {l : List XT}, (∀ T ∈ l, (chk E T).2 = 0) → chkL E l = (l.map fun T => (chk E T).1, 0)
  | [], _ => by rw [chkL]; rfl
  | T :: l, h => by
    rw [chkL, if_pos (h T (.head _)), chkL_ok (l := l) fun U hU => h U (.tail _ hU)]
    rfl
theorem chkL_err {E : SEnv} : ∀ {l : List XT} {j : Nat} (hj : j < l.length), (∀ i (hi : i < j), (chk E (l[i]'(by omega))).2 = 0) → (chk E l[j]).2 ≠ 0 → (chkL E l).2 = (chk E l[j]).2
  | T :: l, 0, _, _, h => by have h' : (chk E T).2 ≠ 0 := h; rw [chkL, if_neg h']; rfl
  | T :: l, j + 1, hj, h1, h => by
    have h0 : (chk E T).2 = 0 := h1 0 (by omega)
    have ih := chkL_err (E := E) (l := l) (j := j) (by simpa using hj) (fun i hi => h1 (i + 1) (by omega)) h
    rw [chkL, if_pos h0, if_neg (by rw [ih]; exact h)]
    exact ih
/-- An environment's cells. -/
structure EnvAt (E : SEnv) (vN vS : Value) (w : World) (S : Nat → Prop) : Prop where
  names : Sl w S 1 vN E.names.length (E.names.map Value.string)
  sorts : Sl w S 1 vS E.sorts.length (E.sorts.map (Value.int .i64))
  same : E.names.length = E.sorts.length
  len : E.names.length ≤ 1000000
theorem EnvAt.keep {E : SEnv} {vN vS : Value} {w w' : World} {S : Nat → Prop} (h : EnvAt E vN vS w S) (k : Kc S w w') : EnvAt E vN vS w' S := ⟨h.names.keep k, h.sorts.keep k, h.same, h.len⟩
abbrev envV (E : SEnv) (vN vS : Value) : Value := .agg #[.int .i64 E.this, vN, vS]
def ChkSays (a : Int × Int) (w : World) (e : Ending) (w' : World) : Prop := e = .returned (.tuple #[.int .i64 a.1, .int .i64 a.2]) ∧ Keeps [] w w'
section
variable (E : SEnv) (a1 a2 : Option Addr) (c1 c2 : Nat) (w : World) (S : Nat → Prop)
set_option maxRecDepth 20000 in
set_option maxHeartbeats 600000 in
theorem scheck_lit (v : VT) (hv : litOk v) (b1 b2 b3 : Option Addr) (d1 d2 d3 : Nat) :
    Calls Tryz.prog 17 #[.agg #[.string litS, .string eS, .int .i64 v.k, .bool v.b, .int .i64 v.n, .string v.s, .slice b1 v.its.length d1, .slice b2 v.ks.length d2, .slice b3 0 d3], envV E (.slice a1 E.names.length c1) (.slice a2 E.sorts.length c2)] w (ChkSays (chk E (litT v)) w) := by
  have HC : Hid (chk E (litT v) = (2 ^ v.k.toNat, 0)) := Lib.hid (by unfold litT; rw [chk]; rfl)
  have hk : 0 ≤ v.k ∧ v.k ≤ 5 := by rcases hv with rfl | ⟨b, rfl⟩ | ⟨n, _, _, rfl⟩ | ⟨t, rfl⟩ <;> exact ⟨by show (0 : Int) ≤ _; simp [VT.k, VT.zero, boolV, nrV, textV], by show _ ≤ (5 : Int); simp [VT.k, VT.zero, boolV, nrV, textV]⟩
  obtain ⟨k, b, n, s, its, ks⟩ := v
  simp only [VT.k, VT.b, VT.n, VT.s, VT.its, VT.ks] at *
  have HO := Lib.hid (fun W => sof_any k n b s b1 b2 its.length d1 ks.length d2 W hk.1 hk.2)
  generalize chk E (litT (.mk k b n s its ks)) = r at *
  clear hv hk
  go_enter Tryz.func17, Tryz.ntmps17
  go_wp2_with (go_at_call 22; refine (HO.out _).mono ?_; rintro e w1 ⟨rfl, hk1⟩; have HK := Lib.hid ((((Keeps.refl [] w).alloc _).alloc _).trans hk1); clear hk1)
  go_ret2
  rw [HC.out]
  exact ⟨rfl, HK.out⟩
set_option maxRecDepth 20000 in
set_option maxHeartbeats 600000 in
theorem scheck_this (b1 b2 b3 : Option Addr) (d1 d2 d3 : Nat) :
    Calls Tryz.prog 17 #[.agg #[.string thisS, .string eS, .int .i64 0, .bool false, .int .i64 0, .string eS, .slice b1 0 d1, .slice b2 0 d2, .slice b3 0 d3], envV E (.slice a1 E.names.length c1) (.slice a2 E.sorts.length c2)] w (ChkSays (chk E (.mk thisS eS VT.zero [])) w) := by
  have HC : Hid (chk E (.mk thisS eS VT.zero []) = (E.this, 0)) := Lib.hid (by rw [chk]; rfl)
  generalize chk E (.mk thisS eS VT.zero []) = r at *
  go_enter Tryz.func17, Tryz.ntmps17
  go_wp2_with fail
  go_ret2
  rw [HC.out]
  exact ⟨rfl, ((Keeps.refl _ _).alloc _).alloc _⟩
set_option maxRecDepth 20000 in
set_option maxHeartbeats 600000 in
theorem scheck_var (nm : ByteArray) (hE : EnvAt E (.slice a1 E.names.length c1) (.slice a2 E.sorts.length c2) w S) (b1 b2 b3 : Option Addr) (d1 d2 d3 : Nat) :
    Calls Tryz.prog 17 #[.agg #[.string varS, .string nm, .int .i64 0, .bool false, .int .i64 0, .string eS, .slice b1 0 d1, .slice b2 0 d2, .slice b3 0 d3], envV E (.slice a1 E.names.length c1) (.slice a2 E.sorts.length c2)] w (ChkSays (chk E (.mk varS nm VT.zero [])) w) := by
  have hc : chk E (.mk varS nm VT.zero []) = (match findL E.names nm with | some q => (E.sorts.getD q 0, 0) | none => (0, 13)) := by rw [chk]; rfl
  have HEA := Lib.hid (fun (W : World) (k : Keeps [] w W) => hE.keep (kc_keeps k fun _ _ => by simp))
  cases hf : findL E.names nm with
  | none =>
    rw [hf] at hc
    have HC := Lib.hid hc
    have hn : ∀ (j : Nat) (hj : j < E.names.length), E.names[j] ≠ nm := fun j hj e => by
      unfold findL at hf
      rw [List.findIdx?_eq_none_iff] at hf
      have := hf _ (List.getElem_mem hj)
      simp [e] at this
    have HI := Lib.hid (fun (W : World) (k : Keeps [] w W) => sindex_none E.names _ S nm W (HEA.out W k).names hE.len hn)
    generalize chk E (.mk varS nm VT.zero []) = r at *
    clear hE hc hf hn
    go_enter Tryz.func17, Tryz.ntmps17
    go_wp2_with (go_at_call 41; refine (HI.out _ (((Keeps.refl [] w).alloc _).alloc _)).mono ?_; rintro e w1 ⟨rfl, rfl⟩)
    go_ret2
    rw [HC.out]
    exact ⟨rfl, ((Keeps.refl _ _).alloc _).alloc _⟩
  | some q =>
    rw [hf] at hc
    unfold findL at hf
    rw [List.findIdx?_eq_some_iff_getElem] at hf
    obtain ⟨hq, hy, hn⟩ := hf
    have hqs : q < E.sorts.length := by have := hE.same; omega
    have hg : E.sorts.getD q 0 = E.sorts[q] := by rw [List.getD_eq_getElem?_getD, List.getElem?_eq_getElem hqs]; rfl
    have HC : Hid (chk E (.mk varS nm VT.zero []) = (E.sorts[q], 0)) := Lib.hid (by rw [hc]; show (E.sorts.getD q 0, (0 : Int)) = _; rw [hg])
    have HI := Lib.hid (fun (W : World) (k : Keeps [] w W) => sindex_some E.names _ S nm W q hq (HEA.out W k).names hE.len (by simpa using hy) (fun j hj hjq => by simpa using hn j hjq))
    obtain ⟨g', o', c', hv, _, _, hgl, hcells⟩ := hE.sorts.at (by omega)
    cases hv
    have y0 := hcells q (.int .i64 E.sorts[q]) (by rw [List.getElem?_map, List.getElem?_eq_getElem hqs]; rfl)
    have hlen := hE.len
    have hlen2 : E.sorts.length ≤ 1000000 := by have := hE.same; omega
    generalize chk E (.mk varS nm VT.zero []) = r at *
    clear hE hc hn hcells hy hg
    go_enter Tryz.func17, Tryz.ntmps17
    go_wp2_with (go_at_call 41; refine (HI.out _ (((Keeps.refl [] w).alloc _).alloc _)).mono ?_; rintro e w1 ⟨rfl, rfl⟩)
    go_ret2
    rw [HC.out]
    exact ⟨rfl, ((Keeps.refl _ _).alloc _).alloc _⟩
end
end Go.Proofs.YtdlkdecigpaaaaaGreatDoor
namespace Go.Proofs.YtdlkdecigpaaaaaGreatDoor
set_option linter.unusedVariables false
set_option linter.unusedSimpArgs false
open Go.RowKit

theorem elem_so : Elem Tryz.prog 34 33 (.int .i64 0) 1 8 := ⟨Tryz.underlying34, by kernel_rfl, rfl, by decide⟩
def nodeOk (T : XT) : Prop := memL T.op (ruleL.map (·.1)) = true ∧ 0 < T.args.length
theorem XGood.node {T : XT} (h : XGood T) : (∃ v, litOk v ∧ T = litT v) ∨ T = .mk thisS eS VT.zero [] ∨ (∃ nm, T = .mk varS nm VT.zero []) ∨ nodeOk T := by
  have hb : ∀ op ∈ binL, memL op (ruleL.map (·.1)) = true := fun op h => by
    simp only [binL, List.mem_cons, List.not_mem_nil, or_false] at h
    rcases h with rfl | rfl | rfl | rfl | rfl | rfl | rfl | rfl | rfl | rfl | rfl | rfl | rfl <;> decide +kernel
  cases h with
  | lit h => exact .inl ⟨_, h, rfl⟩
  | this => exact .inr (.inl rfl)
  | var => exact .inr (.inr (.inl ⟨_, rfl⟩))
  | get h => exact .inr (.inr (.inr ⟨by show memL getS _ = true; decide +kernel, by show 0 < List.length [_]; simp⟩))
  | at_ h k => exact .inr (.inr (.inr ⟨by show memL atS _ = true; decide +kernel, by show 0 < List.length [_, _]; simp⟩))
  | un ho h => exact .inr (.inr (.inr ⟨by rcases ho with rfl | rfl; exact (by decide +kernel : memL notS (ruleL.map (·.1)) = true); exact (by decide +kernel : memL negS (ruleL.map (·.1)) = true), by show 0 < List.length [_]; simp⟩))
  | bin ho h k => exact .inr (.inr (.inr ⟨hb _ ho, by show 0 < List.length [_, _]; simp⟩))
  | call ha hl h =>
    rename_i w l
    refine .inr (.inr (.inr ⟨?_, by show 0 < List.length l; omega⟩))
    show memL w _ = true
    have ha2 : w ∈ oneL ∨ w ∈ twoL := by
      unfold argsN at ha
      split at ha
      · rename_i h; exact .inl (memL_iff.1 h)
      · split at ha
        · rename_i h; exact .inr (memL_iff.1 h)
        · omega
    rcases ha2 with h | h
    · simp only [oneL, List.mem_cons, List.not_mem_nil, or_false] at h
      rcases h with rfl | rfl | rfl | rfl | rfl | rfl | rfl <;> decide +kernel
    · simp only [twoL, List.mem_cons, List.not_mem_nil, or_false] at h
      rcases h with rfl | rfl | rfl | rfl | rfl <;> decide +kernel
theorem rule_ne {t : ByteArray} (h : memL t (ruleL.map (·.1)) = true) : t ≠ litS ∧ t ≠ thisS ∧ t ≠ varS := by
  refine ⟨?_, ?_, ?_⟩ <;> (rintro rfl; revert h; decide +kernel)
/-- What holds in Check's loop. -/
structure ChkX (E : SEnv) (T : XT) (a1 a2 a3 b1 b2 : Option Addr) (c1 c2 c3 d1 d2 : Nat) (v : Value) (j : Nat) (w W : World) : Prop where
  own : W.ownsRow (w.heap.size + 2) 33 1 v j (((T.args.take j).map fun U => (chk E U).1).map (Value.int .i64))
  ok : ∀ i (hi : i < T.args.length), i < j → (chk E T.args[i]).2 = 0
  keeps : Keeps [] w W
  bt : W.heap[w.heap.size]? = some (.cells (T.nine (.slice a1 T.lit.its.length c1) (.slice a2 T.lit.ks.length c2) (.slice a3 T.args.length c3)) 52 (0, 0))
  be : W.heap[w.heap.size + 1]? = some (.cells #[.int .i64 E.this, .slice b1 E.names.length d1, .slice b2 E.sorts.length d2] 36 (0, 0))
section
variable {E : SEnv} {T : XT} {a1 a2 a3 b1 b2 : Option Addr} {c1 c2 c3 d1 d2 : Nat} {v : Value} {j : Nat} {w W W' : World}
theorem ChkX.go (h : ChkX E T a1 a2 a3 b1 b2 c1 c2 c3 d1 d2 v j w W) (k : Keeps [] W W') : ChkX E T a1 a2 a3 b1 b2 c1 c2 c3 d1 d2 v j w W' :=
  ⟨own_below h.own k.nil_below, h.ok, h.keeps.trans k, k.same h.bt, k.same h.be⟩
theorem chkx_new : ChkX E T a1 a2 a3 b1 b2 c1 c2 c3 d1 d2 (.slice none 0 0) 0 w ((w.alloc (.cells (T.nine (.slice a1 T.lit.its.length c1) (.slice a2 T.lit.ks.length c2) (.slice a3 T.args.length c3)) 52)).alloc (.cells #[.int .i64 E.this, .slice b1 E.names.length d1, .slice b2 E.sorts.length d2] 36)) :=
  ⟨World.ownsRow_nil _ _ _ _, fun i hi h => absurd h (Nat.not_lt_zero _), ((Keeps.refl _ _).alloc _).alloc _, hk_alloc (new_blk _ _) _, new_blk1 _ _ _⟩
theorem ChkX.app {v' : Value} {w3 : World} {xv : Int} (h : ChkX E T a1 a2 a3 b1 b2 c1 c2 c3 d1 d2 v j w W) (hj : j < T.args.length) (hx : chk E T.args[j] = (xv, 0)) (ho : w3.ownsRow (w.heap.size + 2) 33 1 v' (j + 1) (((T.args.take j).map fun U => (chk E U).1).map (Value.int .i64) ++ [.int .i64 xv]))
    (hgr : (W.alloc (.cells #[.int .i64 xv] 33)).grownBy w3 v.ownBlock) : ChkX E T a1 a2 a3 b1 b2 c1 c2 c3 d1 d2 v' (j + 1) w w3 := by
  have hrow : ∀ q, v.ownBlock = some q → w.heap.size + 2 ≤ q := fun q hq => (h.own.lt q hq).1
  have hsz := hk_lt h.be
  refine ⟨?_, fun i hi hij => ?_, keeps_grown (h.keeps.alloc _) hgr (fun q hq => by have := hrow q hq; omega), hk_grow (hk_alloc h.bt _) hgr (fun e => by have := hrow _ e.symm; omega), hk_grow (hk_alloc h.be _) hgr (fun e => by have := hrow _ e.symm; omega)⟩
  · rw [List.take_succ_eq_append_getElem hj, List.map_append, List.map_append]
    simpa [hx] using ho
  · by_cases hl : i < j
    · exact h.ok i hi hl
    · obtain rfl : i = j := by omega
      rw [hx]
end
theorem chk_node {E : SEnv} {T : XT} (h : memL T.op (ruleL.map (·.1)) = true) : chk E T = if (chkL E T.args).2 = 0 then ruleOut (ruleF T.op) (chkL E T.args).1 else (0, (chkL E T.args).2) := by
  obtain ⟨o, n, v, l⟩ := T
  have hz := rule_ne h
  simp only [XT.op, XT.args] at *
  rw [chk, if_neg hz.1, if_neg hz.2.1, if_neg hz.2.2]; split <;> rename_i h1 <;> simp only [h1, if_true, if_false]
theorem rule_facts {w W w2 : World} {v : Value} {n : Nat} {S : Nat → Prop} {cs : List Value} {c : Array Value} {t : TypeId} (hk : Keeps [] w w2) (hk2 : Keeps [] W w2) (hs : Sl W S 1 v n cs) (o : Unit) (nq : Nat) :
    Keeps [] w ((w2.alloc (.cells c t)).drewN nq) ∧ ((w2.alloc (.cells c t)).drewN nq).heap[w2.heap.size]? = some (.cells c t (0, 0)) ∧ Sl ((w2.alloc (.cells c t)).drewN nq) S 1 v n cs :=
  ⟨(hk.alloc _).drewN _, new_blk _ _, (hs.keep (kc_keeps hk2 fun _ _ => by simp)).keep ((kc_alloc _).trans (kc_drewN _))⟩
set_option maxRecDepth 20000 in
set_option maxHeartbeats 3000000 in
theorem scheck_any (E : SEnv) : ∀ (k : Nat) (T : XT) (vi vk va vN vS : Value) (S S2 : Nat → Prop) (w : World), T.depth ≤ k → k ≤ 1000000 → XGood T → T.Rep w S vi vk va → EnvAt E vN vS w S2 →
    Calls Tryz.prog 17 #[T.agg vi vk va, envV E vN vS] w (ChkSays (chk E T) w) := by
  intro k
  induction k with
  | zero => intro T _ _ _ _ _ _ _ _ h; have := depth_pos T; omega
  | succ k ih =>
    intro T vi vk va vN vS S S2 w hd hk hg h hE
    obtain ⟨a1, c1, a2, c2, a3, c3, rfl, rfl, rfl⟩ := xrep_shape h
    obtain ⟨b1, d1, rfl, _, _⟩ := hE.names.shape
    obtain ⟨b2, d2, rfl, _, _⟩ := hE.sorts.shape
    rcases hg.node with ⟨v, hv, rfl⟩ | rfl | ⟨nm, rfl⟩ | ⟨hop, hpos⟩
    · exact scheck_lit E b1 b2 d1 d2 w v hv a1 a2 a3 c1 c2 c3
    · exact scheck_this E b1 b2 d1 d2 w a1 a2 a3 c1 c2 c3
    · exact scheck_var E b1 b2 d1 d2 w S2 nm hE a1 a2 a3 c1 c2 c3
    · obtain ⟨cs, hsl, hrows⟩ := xrep_row h
      have hlen := hg.len
      have hdl : XT.deepL T.args ≤ k := by have := depth_args T; omega
      have HI := Lib.hid (fun (j : Nat) (hj : j < T.args.length) (a1 : Option Addr) (c1 : Nat) (a2 : Option Addr) (c2 : Nat) (a3 : Option Addr) (c3 : Nat) (W : World) (hk : Keeps [] w W) (hr : T.args[j].Rep W S (.slice a1 T.args[j].lit.its.length c1) (.slice a2 T.args[j].lit.ks.length c2) (.slice a3 T.args[j].args.length c3)) =>
        ih T.args[j] _ _ _ _ _ S S2 W (by have := deepL_mem (List.getElem_mem hj); omega) (by omega) (hg.arg _ (List.getElem_mem hj)) hr (hE.keep (kc_keeps hk fun _ _ => by simp)))
      have HL := Lib.hid (fun (W : World) (k : Keeps [] w W) => And.intro (hsl.keep (kc_keeps k fun _ _ => by simp)) (nine_go (kc_keeps k fun _ _ => by simp) (fun _ _ _ _ h _ => h) hrows))
      have HC := Lib.hid (chk_node (E := E) hop)
      have HRU := Lib.hid (ruled_any hop)
      have hz := rule_ne hop
      have z1 := tl_ne (l := [108, 105, 116]) hz.1
      have z2 := tl_ne (l := [116, 104, 105, 115]) hz.2.1
      have z3 := tl_ne (l := [118, 97, 114]) hz.2.2
      have HX0 := Lib.hid (chkx_new (E := E) (T := T) (a1 := a1) (a2 := a2) (a3 := a3) (b1 := b1) (b2 := b2) (c1 := c1) (c2 := c2) (c3 := c3) (d1 := d1) (d2 := d2) (w := w))
      clear h hsl hrows hg hd ih hE hz hop
      go_enter Tryz.func17, Tryz.ntmps17
      go_wp2_with fail
      go_loopw [7, 42] (fun v i W => ∃ j : Nat, j ≤ T.args.length ∧ i = .int .i64 j ∧ Hid (ChkX E T a1 a2 a3 b1 b2 c1 c2 c3 d1 d2 v j w W)) (fun _ i _ => T.args.length - (intOf i).toNat)
      case atStart => exact ⟨0, Nat.zero_le _, rfl, HX0⟩
      case round =>
        obtain ⟨j, hj, rfl, HX⟩ := hrel
        obtain ⟨A, cp, hvv, hle⟩ := own_slice_len HX.out.own
        subst hvv
        have gb1 := cell_blk HX.out.bt
        have gb2 := cell_blk HX.out.be
        have hl1 := hk_lt HX.out.be
        by_cases hlt : j < T.args.length
        · obtain ⟨hsl, hrw⟩ := HL.out _ HX.out.keeps
          obtain ⟨g', o', c', hv, _, _, _, hcells⟩ := hsl.at (by omega)
          cases hv
          obtain ⟨x1, y1, x2, y2, x3, y3, hrep, q0, q1, q2, q3, q4, q5, q6, q7, q8⟩ := nine_cells hrw hcells hlt
          have HR := Lib.hid hrep
          obtain ⟨xv, cv, hx⟩ : ∃ xv cv, chk E T.args[j] = (xv, cv) := ⟨_, _, rfl⟩
          have HCJ := Lib.hid hx
          have HCALL := Lib.hid (fun (W : World) (k : Keeps [] wr W) => hx ▸ HI.out j hlt _ _ _ _ _ _ W (HX.out.keeps.trans k) (HR.out.keep (kc_keeps k fun _ _ => by simp)))
          clear hsl hrw hcells hrep hx
          by_cases hc : cv = 0
          · subst hc
            go_wp2_with (first
              | (go_at_call 17; refine (HCALL.out _ ((Keeps.refl _ _).alloc _)).mono ?_; rintro e' w2 ⟨rfl, hk2⟩; have HX2 := Lib.hid (HX.out.go (((Keeps.refl _ _).alloc _).trans hk2)); clear hk2)
              | (at_builtin; refine wpList_append_sl rfl _ _ _ rfl rfl elem_so (v := .slice A j cp) (base := w.heap.size + 2) (S := fun _ => True) (x := .slice (some ⟨w2.heap.size, 0, none⟩) 1 1) rfl rfl (HX2.out.own.alloc _) (Sl.of_blk (n := 1) (new_blk _ _) trivial rfl) (by exact one_int [xv]) (by unfold maxLen; omega) (by omega) (by have := hk_lt HX2.out.be; simp; omega) ?_; intro v' w3 ho hgr hb; obtain ⟨vA, vc, hv, _⟩ := own_slice_len ho; subst hv; have HX3 := Lib.hid (HX2.out.app hlt HCJ.out ho hgr); clear ho hgr hb))
            go_roundw
            case rel => exact ⟨j + 1, by omega, by go_num, HX3⟩
            case measure => simp [intOf]; omega
          · have e1 : (cv != 0) = true := by simpa using hc
            have HCE : Hid (chk E T = (0, cv)) := Lib.hid (by
              have h2 := chkL_err (E := E) hlt (fun i hi => HX.out.ok i (by omega) hi) (by rw [HCJ.out]; exact hc)
              rw [HC.out, if_neg (by rw [h2, HCJ.out]; exact hc), h2, HCJ.out])
            clear hc
            go_wp2_with (go_at_call 17; refine (HCALL.out _ ((Keeps.refl _ _).alloc _)).mono ?_; rintro e' w2 ⟨rfl, hk2⟩; have HX2 := Lib.hid (HX.out.go (((Keeps.refl _ _).alloc _).trans hk2)); clear hk2)
            go_ret2
            rw [HCE.out]
            exact ⟨rfl, HX2.out.keeps⟩
        · obtain rfl : j = T.args.length := by omega
          have hall := chkL_ok (E := E) (l := T.args) (fun U hU => by obtain ⟨i, hi, rfl⟩ := List.getElem_of_mem hU; exact HX.out.ok i hi hi)
          have hcf : chk E T = ruleOut (ruleF T.op) (T.args.map fun U => (chk E U).1) := by rw [HC.out, hall, if_pos rfl]
          have hown := HX.out.own
          rw [List.take_length] at hown
          obtain ⟨g', o', c', hv, _, _, hgl, hcells⟩ := (Sl.of_own hown).at hpos
          cases hv
          have HLX := Lib.hid (show (T.args.map fun U => (chk E U).1).length = T.args.length by simp)
          generalize (T.args.map fun U => (chk E U).1) = xs at *
          generalize ruleF T.op = q at *
          obtain ⟨q1, q2, q3, q4⟩ := q
          have HSL : Hid (Sl wr (w.heap.size + 2 ≤ ·) 1 (.slice (some ⟨g', o', none⟩) T.args.length cp) T.args.length (xs.map (Value.int .i64))) := Lib.hid (Sl.of_own hown)
          clear hall hown hgl
          rcases (by omega : T.args.length = 1 ∨ T.args.length = 2) with hL | hL
          · obtain ⟨x0, rfl⟩ := List.length_eq_one_iff.1 (HLX.out.trans hL)
            have HCF := Lib.hid hcf
            have y0 := hcells 0 (.int .i64 x0) rfl
            rw [Nat.add_zero] at y0
            have hd : decide ((1 : Int) < (T.args.length : Int)) = false := decide_eq_false (by omega)
            clear hcells hcf hL
            cases hf1 : (bits BinOp.and IntKind.i64 x0 q1 != 0)
            all_goals
              go_upto_region 21 with (go_at_call 42; refine (HRU.out _).mono ?_; rintro e' w2 ⟨rfl, hk2⟩; have HX2 := Lib.hid (HX.out.go hk2); have HK2 := Lib.hid hk2; have y2 := (hk2.nil_below.cell (p := ⟨g', o', none⟩) (World.block_lt_of_cell? _ _ y0)).trans y0; have hly := World.block_lt_of_cell? _ _ y2; clear hk2)
              go_quiet (fail)
              refine ‹∀ (a : Act) (w : World), _ → _› _ _ ?_
              refine abs_world (F := fun W => Keeps [] w W ∧ W.heap[w2.heap.size]? = some (.cells #[.int .i64 q1, .int .i64 q2, .int .i64 q3, .bool q4] 91 (0, 0)) ∧ Sl W (w.heap.size + 2 ≤ ·) 1 (.slice (some ⟨g', o', none⟩) T.args.length cp) T.args.length ([x0].map (Value.int .i64))) (rule_facts HX2.out.keeps HK2.out HSL.out () _) (fun W4 HW4 => ?_)
              have H4 := Lib.hid HW4
              have gr := cell_blk H4.out.2.1
              have hlr := hk_lt H4.out.2.1
              clear HW4
              go_wp2_with fail
              go_ret2
              rw [HCF.out]
              exact ⟨by simp [ruleOut, mayB, hf1], H4.out.1⟩
          · obtain ⟨x0, x1, rfl⟩ : ∃ x0 x1, xs = [x0, x1] := by
              have h2 := HLX.out.trans hL
              match xs, h2 with
              | [x0, x1], _ => exact ⟨x0, x1, rfl⟩
            have HCF := Lib.hid hcf
            have y0 := hcells 0 (.int .i64 x0) rfl
            have y1 := hcells 1 (.int .i64 x1) rfl
            rw [Nat.add_zero] at y0
            have hd : decide ((1 : Int) < (T.args.length : Int)) = true := decide_eq_true (by omega)
            have hL1 : 1 < T.args.length := by omega
            clear hcells hcf hL
            cases hf1 : (bits BinOp.and IntKind.i64 x0 q1 != 0) <;> cases hf2 : (bits BinOp.and IntKind.i64 x1 q2 != 0) <;> cases q4 <;> cases hf3 : (bits BinOp.and IntKind.i64 (bits BinOp.and IntKind.i64 x0 x1) q1 != 0)
            all_goals
              go_upto_region 21 with (go_at_call 42; refine (HRU.out _).mono ?_; rintro e' w2 ⟨rfl, hk2⟩; have HX2 := Lib.hid (HX.out.go hk2); have HK2 := Lib.hid hk2; have y2 := (hk2.nil_below.cell (p := ⟨g', o', none⟩) (World.block_lt_of_cell? _ _ y0)).trans y0; have hly := World.block_lt_of_cell? _ _ y2; have y3 := (hk2.nil_below.cell (p := ⟨g', o' + 1, none⟩) (World.block_lt_of_cell? _ _ y1)).trans y1; clear hk2)
              go_quiet (fail)
              refine ‹∀ (a : Act) (w : World), _ → _› _ _ ?_
              refine abs_world (F := fun W => Keeps [] w W ∧ W.heap[w2.heap.size]? = some (.cells #[.int .i64 q1, .int .i64 q2, .int .i64 q3, .bool _] 91 (0, 0)) ∧ Sl W (w.heap.size + 2 ≤ ·) 1 (.slice (some ⟨g', o', none⟩) T.args.length cp) T.args.length ([x0, x1].map (Value.int .i64))) (rule_facts HX2.out.keeps HK2.out HSL.out () _) (fun W4 HW4 => ?_)
              have H4 := Lib.hid HW4
              have gr := cell_blk H4.out.2.1
              have hlr := hk_lt H4.out.2.1
              clear HW4
              obtain ⟨g5, o5, c5, hv5, _, _, hg5, hc5⟩ := H4.out.2.2.at hpos
              cases hv5
              have y4 := hc5 0 (.int .i64 x0) rfl
              have y5 := hc5 1 (.int .i64 x1) rfl
              rw [Nat.add_zero] at y4
              clear hc5
              go_upto_region 23 with fail
              go_quiet (fail)
              refine ‹∀ (a : Act) (w : World), _ → _› _ _ ?_
              refine abs_world (F := fun W => Keeps [] w W ∧ W.heap[w2.heap.size]? = some (.cells #[.int .i64 q1, .int .i64 q2, .int .i64 q3, .bool _] 91 (0, 0))) ⟨H4.out.1.drewN _, H4.out.2.1⟩ (fun W6 HW6 => ?_)
              have H6 := Lib.hid HW6
              have gr6 := cell_blk H6.out.2
              clear HW6
              go_wp2_with fail
              go_ret2
              rw [HCF.out]
              exact ⟨by simp [ruleOut, mayB, hf1, hf2, hf3], H6.out.1⟩
end Go.Proofs.YtdlkdecigpaaaaaGreatDoor
namespace Go.Proofs.YtdlkdecigpaaaaaGreatDoor
set_option linter.unusedVariables false
set_option linter.unusedSimpArgs false
open Go.RowKit

def bitZ (m : Int) (i : Nat) : Bool := m / 2 ^ i % 2 == 1
def arrB (m : Int) (j : Nat) : Array Value := #[.bool (decide (0 < j) && bitZ m 0), .bool (decide (1 < j) && bitZ m 1), .bool (decide (2 < j) && bitZ m 2), .bool (decide (3 < j) && bitZ m 3), .bool (decide (4 < j) && bitZ m 4), .bool (decide (5 < j) && bitZ m 5)]
abbrev bit6 (m : Int) : Array Value := #[.bool (bitZ m 0), .bool (bitZ m 1), .bool (bitZ m 2), .bool (bitZ m 3), .bool (bitZ m 4), .bool (bitZ m 5)]
theorem bit_has : ∀ m : Fin 64, ∀ i : Fin 6, hasK (m.val : Int) (i.val : Int) = bitZ m.val i.val := by decide +kernel
theorem arr_set (m : Int) (j : Nat) (hj : j < 6) (x : Int) (hx : x = m / 2 ^ j) : (arrB m j).setIfInBounds j (.bool (x % 2 == 1)) = arrB m (j + 1) := by
  subst hx
  rcases (by omega : j = 0 ∨ j = 1 ∨ j = 2 ∨ j = 3 ∨ j = 4 ∨ j = 5) with rfl | rfl | rfl | rfl | rfl | rfl <;> rfl
theorem half_pow (m : Int) (j : Nat) (hj : j < 6) : m / 2 ^ j / 2 = m / 2 ^ (j + 1) := by
  rcases (by omega : j = 0 ∨ j = 1 ∨ j = 2 ∨ j = 3 ∨ j = 4 ∨ j = 5) with rfl | rfl | rfl | rfl | rfl | rfl <;> simp <;> omega
set_option maxRecDepth 20000 in
set_option maxHeartbeats 1000000 in
theorem rof_any (m : Int) (w : World) (h0 : 0 ≤ m) (h1 : m ≤ 63) : Calls Tryz.prog 20 #[.int .i64 m] w fun e w' => e = .returned (.agg (bit6 m)) ∧ Keeps [] w w' := by
  have HX0 : Hid (Keeps [] w ((w.alloc (.cells #[.bool false, .bool false, .bool false, .bool false, .bool false, .bool false] 38)).alloc (.cells #[.bool false, .bool false, .bool false, .bool false, .bool false, .bool false] 38)) ∧
      ((w.alloc (.cells #[.bool false, .bool false, .bool false, .bool false, .bool false, .bool false] 38)).alloc (.cells #[.bool false, .bool false, .bool false, .bool false, .bool false, .bool false] 38)).heap[w.heap.size]? = some (.cells #[.bool false, .bool false, .bool false, .bool false, .bool false, .bool false] 38 (0, 0)) ∧
      ((w.alloc (.cells #[.bool false, .bool false, .bool false, .bool false, .bool false, .bool false] 38)).alloc (.cells #[.bool false, .bool false, .bool false, .bool false, .bool false, .bool false] 38)).heap[w.heap.size + 1]? = some (.cells (arrB m 0) 38 (0, 0))) := Lib.hid ⟨((Keeps.refl _ _).alloc _).alloc _, hk_alloc (new_blk _ _) _, new_blk1 _ _ _⟩
  have HM : Hid ((m : Int) = m / 2 ^ 0) := Lib.hid (by simp)
  go_enter Tryz.func20, Tryz.ntmps20
  go_wp2
  go_loopw [0, 5] (fun n i W => ∃ (j : Nat) (x : Int), j ≤ 6 ∧ 0 ≤ x ∧ x ≤ 63 ∧ i = .int .i64 j ∧ n = .int .i64 x ∧ Hid (x = m / 2 ^ j ∧ Keeps [] w W ∧ W.heap[w.heap.size]? = some (.cells #[.bool false, .bool false, .bool false, .bool false, .bool false, .bool false] 38 (0, 0)) ∧ W.heap[w.heap.size + 1]? = some (.cells (arrB m j) 38 (0, 0)))) (fun _ i _ => 6 - (intOf i).toNat)
  case atStart => exact ⟨0, m, by omega, h0, h1, rfl, rfl, Lib.hid ⟨HM.out, HX0.out⟩⟩
  case round =>
    obtain ⟨j, x, hj, hx0, hx1, rfl, rfl, HX⟩ := hrel
    have gb1 := cell_blk HX.out.2.2.1
    have gf1 := frozen_blk HX.out.2.2.1
    have gb2 := cell_blk HX.out.2.2.2
    have gf2 := frozen_blk HX.out.2.2.2
    have hl1 := hk_lt HX.out.2.2.1
    have hl2 := hk_lt HX.out.2.2.2
    by_cases hlt : j < 6
    · have HS := Lib.hid (set_to (cs' := arrB m (j + 1)) HX.out.2.2.2 j (.bool (x % 2 == 1)) (arr_set m j hlt x HX.out.1))
      have HN : Hid (x / 2 = m / 2 ^ (j + 1)) := Lib.hid (by rw [HX.out.1]; exact half_pow m j hlt)
      have hx2 : 0 ≤ x / 2 ∧ x / 2 ≤ 63 := by omega
      have HK := Lib.hid (HX.out.2.1.set (p := ⟨w.heap.size + 1, j, none⟩) (.inr (by dsimp only; omega)) (.bool (x % 2 == 1)))
      have HB := Lib.hid (hk_set HX.out.2.2.1 (p := ⟨w.heap.size + 1, j, none⟩) (by dsimp only; omega) (.bool (x % 2 == 1)))
      have hcell : wr.cell? ⟨w.heap.size + 1, j, none⟩ = some ((arrB m j)[j]'hlt) := by rw [gb2 j]; exact Array.getElem?_eq_getElem hlt
      clear gb2
      go_wp2
      go_roundw
      case rel => exact ⟨j + 1, x / 2, by omega, hx2.1, hx2.2, by go_num, rfl, Lib.hid ⟨HN.out, HK.out, HB.out, HS.out⟩⟩
      case measure => simp [intOf]; omega
    · obtain rfl : j = 6 := by omega
      have hbb : wr.heap[w.heap.size + 1]? = some (.cells (bit6 m) 38 (0, 0)) := HX.out.2.2.2
      have HE := Lib.hid (And.intro (six_set HX.out.2.2.1 (.bool (bitZ m 0)) (.bool (bitZ m 1)) (.bool (bitZ m 2)) (.bool (bitZ m 3)) (.bool (bitZ m 4)) (.bool (bitZ m 5))) ((((((HX.out.2.1.set (p := ⟨w.heap.size, 0, none⟩) (.inr (Nat.le_refl _)) (.bool (bitZ m 0))).set (p := ⟨w.heap.size, 1, none⟩) (.inr (Nat.le_refl _)) (.bool (bitZ m 1))).set (p := ⟨w.heap.size, 2, none⟩) (.inr (Nat.le_refl _)) (.bool (bitZ m 2))).set (p := ⟨w.heap.size, 3, none⟩) (.inr (Nat.le_refl _)) (.bool (bitZ m 3))).set (p := ⟨w.heap.size, 4, none⟩) (.inr (Nat.le_refl _)) (.bool (bitZ m 4))).set (p := ⟨w.heap.size, 5, none⟩) (.inr (Nat.le_refl _)) (.bool (bitZ m 5))))
      clear gb2
      have gb2 := cell_blk hbb
      clear hbb
      go_wp2
      refine abs_post (F := fun W => W.heap[w.heap.size]? = some (.cells (bit6 m) 38 (0, 0)) ∧ Keeps [] w W) HE.out (fun W hW => ?_)
      have cr := cell_blk hW.1
      exact bodyPost_ret (v := .agg (bit6 m)) (by simp [results, Tryz.results20, go_sem, cr]) rfl ⟨rfl, hW.2⟩
end Go.Proofs.YtdlkdecigpaaaaaGreatDoor
