/- chevallaw09.Env: what this, and the names x and y, may be. -/
import Derived.Test.YtdlkdecigpaaaaaGreatDoorMpGA
import Derived.Test.YtdlkdecigpaaaaaGreatDoorMp36
namespace Go.Proofs.YtdlkdecigpaaaaaGreatDoor
set_option linter.unusedVariables false
set_option linter.unusedSimpArgs false
open Go.RowKit

abbrev xS : ByteArray := ⟨#[120]⟩
abbrev yS : ByteArray := ⟨#[121]⟩
def env3 (a b c : Int) : SEnv := ⟨a % 64, [xS, yS], [b % 64, c % 64]⟩
/-- What it answers: the program's, and the document's. -/
def EnvSays (a b c : Int) (w : World) (e : Ending) (w' : World) : Prop :=
  ∃ (n1 n2 : Nat) (q : Array Value), e = .returned (.tuple #[.agg #[.int .i64 (a % 64), .slice (some ⟨n1, 0, none⟩) 2 2, .slice (some ⟨n2, 0, none⟩) 2 2], .agg q]) ∧ (∃ q0 q1 q2 q3 q4 q5 n6 n7, q = #[.bool q0, .bool q1, .bool q2, .bool q3, .bool q4, .bool q5, .slice (some ⟨n6, 0, none⟩) 2 2, .slice (some ⟨n7, 0, none⟩) 2 2]) ∧ EnvAt (env3 a b c) (.slice (some ⟨n1, 0, none⟩) 2 2) (.slice (some ⟨n2, 0, none⟩) 2 2) w' (w.heap.size ≤ ·) ∧ Keeps [] w w'
theorem env_end {W : World} {r1 r2 : Nat} {t1 t2 : TypeId} {x0 x1 x2 y0 y1 y2 y3 y4 y5 y6 y7 : Value} (h1 : W.heap[r1]? = some (.cells #[x0, x1, x2] t1 (0, 0))) (h2 : W.heap[r2]? = some (.cells #[y0, y1, y2, y3, y4, y5, y6, y7] t2 (0, 0))) (hne : r1 ≠ r2) (o : Obj) (v0 v1 v2 u0 u1 u2 u3 u4 u5 u6 u7 : Value) :
    ((((((((((((W.setCell ⟨r1, 0, none⟩ v0).setCell ⟨r1, 1, none⟩ v1).setCell ⟨r1, 2, none⟩ v2).setCell ⟨r2, 0, none⟩ u0).setCell ⟨r2, 1, none⟩ u1).setCell ⟨r2, 2, none⟩ u2).setCell ⟨r2, 3, none⟩ u3).setCell ⟨r2, 4, none⟩ u4).setCell ⟨r2, 5, none⟩ u5).setCell ⟨r2, 6, none⟩ u6).setCell ⟨r2, 7, none⟩ u7).alloc o).heap[r1]? = some (.cells #[v0, v1, v2] t1 (0, 0)) ∧
    ((((((((((((W.setCell ⟨r1, 0, none⟩ v0).setCell ⟨r1, 1, none⟩ v1).setCell ⟨r1, 2, none⟩ v2).setCell ⟨r2, 0, none⟩ u0).setCell ⟨r2, 1, none⟩ u1).setCell ⟨r2, 2, none⟩ u2).setCell ⟨r2, 3, none⟩ u3).setCell ⟨r2, 4, none⟩ u4).setCell ⟨r2, 5, none⟩ u5).setCell ⟨r2, 6, none⟩ u6).setCell ⟨r2, 7, none⟩ u7).alloc o).heap[r2]? = some (.cells #[u0, u1, u2, u3, u4, u5, u6, u7] t2 (0, 0)) ∧
    Keeps [r1, r2] W ((((((((((((W.setCell ⟨r1, 0, none⟩ v0).setCell ⟨r1, 1, none⟩ v1).setCell ⟨r1, 2, none⟩ v2).setCell ⟨r2, 0, none⟩ u0).setCell ⟨r2, 1, none⟩ u1).setCell ⟨r2, 2, none⟩ u2).setCell ⟨r2, 3, none⟩ u3).setCell ⟨r2, 4, none⟩ u4).setCell ⟨r2, 5, none⟩ u5).setCell ⟨r2, 6, none⟩ u6).setCell ⟨r2, 7, none⟩ u7).alloc o) := by
  have k3 : Keeps [r1, r2] W (((W.setCell ⟨r1, 0, none⟩ v0).setCell ⟨r1, 1, none⟩ v1).setCell ⟨r1, 2, none⟩ v2) := (((Keeps.refl _ _).set (.inl (by simp)) _).set (.inl (by simp)) _).set (.inl (by simp)) _
  have b1 : (((W.setCell ⟨r1, 0, none⟩ v0).setCell ⟨r1, 1, none⟩ v1).setCell ⟨r1, 2, none⟩ v2).heap[r1]? = some (.cells #[v0, v1, v2] t1 (0, 0)) := set_to (cs' := #[v0, v1, v2]) (set_to (cs' := #[v0, v1, x2]) (set_to (cs' := #[v0, x1, x2]) h1 0 v0 rfl) 1 v1 rfl) 2 v2 rfl
  have b2 : (((W.setCell ⟨r1, 0, none⟩ v0).setCell ⟨r1, 1, none⟩ v1).setCell ⟨r1, 2, none⟩ v2).heap[r2]? = some (.cells #[y0, y1, y2, y3, y4, y5, y6, y7] t2 (0, 0)) := hk_set (hk_set (hk_set h2 (fun e => hne e.symm) _) (fun e => hne e.symm) _) (fun e => hne e.symm) _
  generalize ((W.setCell ⟨r1, 0, none⟩ v0).setCell ⟨r1, 1, none⟩ v1).setCell ⟨r1, 2, none⟩ v2 = X at *
  have k8 : Keeps [r2] X ((((((((X.setCell ⟨r2, 0, none⟩ u0).setCell ⟨r2, 1, none⟩ u1).setCell ⟨r2, 2, none⟩ u2).setCell ⟨r2, 3, none⟩ u3).setCell ⟨r2, 4, none⟩ u4).setCell ⟨r2, 5, none⟩ u5).setCell ⟨r2, 6, none⟩ u6).setCell ⟨r2, 7, none⟩ u7) := ((((((((Keeps.refl _ _).set (.inl (by simp)) _).set (.inl (by simp)) _).set (.inl (by simp)) _).set (.inl (by simp)) _).set (.inl (by simp)) _).set (.inl (by simp)) _).set (.inl (by simp)) _).set (.inl (by simp)) _
  have b3 : ((((((((X.setCell ⟨r2, 0, none⟩ u0).setCell ⟨r2, 1, none⟩ u1).setCell ⟨r2, 2, none⟩ u2).setCell ⟨r2, 3, none⟩ u3).setCell ⟨r2, 4, none⟩ u4).setCell ⟨r2, 5, none⟩ u5).setCell ⟨r2, 6, none⟩ u6).setCell ⟨r2, 7, none⟩ u7).heap[r2]? = some (.cells #[u0, u1, u2, u3, u4, u5, u6, u7] t2 (0, 0)) :=
    set_to (cs' := #[u0, u1, u2, u3, u4, u5, u6, u7]) (set_to (cs' := #[u0, u1, u2, u3, u4, u5, u6, y7]) (set_to (cs' := #[u0, u1, u2, u3, u4, u5, y6, y7]) (set_to (cs' := #[u0, u1, u2, u3, u4, y5, y6, y7]) (set_to (cs' := #[u0, u1, u2, u3, y4, y5, y6, y7]) (set_to (cs' := #[u0, u1, u2, y3, y4, y5, y6, y7]) (set_to (cs' := #[u0, u1, y2, y3, y4, y5, y6, y7]) (set_to (cs' := #[u0, y1, y2, y3, y4, y5, y6, y7]) b2 0 u0 rfl) 1 u1 rfl) 2 u2 rfl) 3 u3 rfl) 4 u4 rfl) 5 u5 rfl) 6 u6 rfl) 7 u7 rfl
  exact ⟨hk_alloc (k8.heap b1 (by simpa using hne)) _, hk_alloc b3 _, (k3.trans (k8.mono (by simp))).alloc _⟩
theorem env_rep {a b c : Int} {m1 m2 m3 : Int} (hm : m1 = a % 64 ∧ m2 = b % 64 ∧ m3 = c % 64) {w W : World} {n : Nat} (hn : w.heap.size ≤ n) (h1 : W.heap[n]? = some (.cells #[.string xS, .string yS] 9 (0, 0))) (h2 : W.heap[n + 1]? = some (.cells #[.int .i64 m2, .int .i64 m3] 33 (0, 0))) :
    EnvAt (env3 a b c) (.slice (some ⟨n, 0, none⟩) 2 2) (.slice (some ⟨n + 1, 0, none⟩) 2 2) W (w.heap.size ≤ ·) := by
  obtain ⟨rfl, rfl, rfl⟩ := hm
  exact ⟨Sl.of_blk (n := 2) (size := 1) h1 hn rfl, Sl.of_blk (n := 2) (size := 1) h2 (Nat.le_succ_of_le hn) rfl, rfl, (by show 2 ≤ 1000000; decide)⟩
set_option maxRecDepth 20000 in
set_option maxHeartbeats 2000000 in
theorem env_any (a b c : Int) (w : World) (a0 : 0 ≤ a) (a1 : a ≤ 255) (b0 : 0 ≤ b) (b1 : b ≤ 255) (c0 : 0 ≤ c) (c1 : c ≤ 255) :
    Calls Tryz.prog 16 #[.agg #[.int .u8 a, .int .u8 b, .int .u8 c]] w (EnvSays a b c w) := by
  have HO := Lib.hid (fun (m : Int) W (h0 : 0 ≤ m) (h1 : m ≤ 63) => rof_any m W h0 h1)
  have ra : 0 ≤ a % 64 ∧ a % 64 ≤ 63 := by omega
  have rb : 0 ≤ b % 64 ∧ b % 64 ≤ 63 := by omega
  have rc : 0 ≤ c % 64 ∧ c % 64 ≤ 63 := by omega
  have ta : a.tmod 64 = a % 64 := Int.tmod_eq_emod_of_nonneg a0
  have tb : b.tmod 64 = b % 64 := Int.tmod_eq_emod_of_nonneg b0
  have tc : c.tmod 64 = c % 64 := Int.tmod_eq_emod_of_nonneg c0
  obtain ⟨ra0, ra1⟩ := ra
  obtain ⟨rb0, rb1⟩ := rb
  obtain ⟨rc0, rc1⟩ := rc
  go_enter Tryz.func16, Tryz.ntmps16
  go_upto_region 1 with fail
  refine abs_world (F := fun W => Keeps [] w W ∧ W.heap[w.heap.size]? = some (.cells #[.int .u8 a, .int .u8 b, .int .u8 c] 22 (0, 0)) ∧ W.heap[w.heap.size + 1]? = some (.cells #[.int .i64 0, .slice none 0 0, .slice none 0 0] 36 (0, 0)) ∧ W.heap[w.heap.size + 2]? = some (.cells #[.bool false, .bool false, .bool false, .bool false, .bool false, .bool false, .slice none 0 0, .slice none 0 0] 41 (0, 0))) ⟨(((Keeps.refl _ _).alloc _).alloc _).alloc _, hk_alloc (hk_alloc (new_blk _ _) _) _, hk_alloc (new_blk1 _ _ _) _, new_blk2 _ _ _ _⟩ (fun W1 HW1 => ?_)
  have H1 := Lib.hid HW1
  clear HW1
  have gn := cell_blk H1.out.2.1
  go_quiet (fail)
  refine ‹∀ (a : Act) (w : World), _ → _› _ _ ?_
  refine abs_world (F := fun W => Keeps [] w W ∧ W.heap[w.heap.size + 1]? = some (.cells #[.int .i64 0, .slice none 0 0, .slice none 0 0] 36 (0, 0)) ∧ W.heap[w.heap.size + 2]? = some (.cells #[.bool false, .bool false, .bool false, .bool false, .bool false, .bool false, .slice none 0 0, .slice none 0 0] 41 (0, 0))) (by exact ⟨H1.out.1.drewN _, H1.out.2.2.1, H1.out.2.2.2⟩) (fun W2 HW2 => ?_)
  have H2 := Lib.hid HW2
  clear HW2 H1 gn ta tb tc
  generalize hma : a % 64 = ma at *
  generalize hmb : b % 64 = mb at *
  generalize hmc : c % 64 = mc at *
  have HMM := Lib.hid (And.intro hma.symm (And.intro hmb.symm hmc.symm))
  clear hma hmb hmc
  have HO1 := Lib.hid (fun W => HO.out ma W ra0 ra1)
  have HO2 := Lib.hid (fun W => HO.out mb W rb0 rb1)
  have HO3 := Lib.hid (fun W => HO.out mc W rc0 rc1)
  clear HO
  go_wp2_with fail
  refine (HO1.out _).mono ?_
  rintro e3 w3 ⟨rfl, hk3⟩
  have K3 := Lib.hid hk3
  clear hk3
  go_wp2_with fail
  refine (HO2.out _).mono ?_
  rintro e4 w4 ⟨rfl, hk4⟩
  have K4 := Lib.hid hk4
  clear hk4
  go_wp2_with fail
  refine (HO3.out _).mono ?_
  rintro e5 w5 ⟨rfl, hk5⟩
  have K35 : Hid (Keeps [] ((W2.alloc (.cells #[.string xS, .string yS] 9)).alloc (.cells #[.int .i64 mb, .int .i64 mc] 33)) w5) := Lib.hid ((K3.out.alloc _).trans (K4.out.trans hk5))
  clear hk5
  have HB1 := Lib.hid (K35.out.same (hk_alloc (hk_alloc H2.out.2.1 _) _))
  have HB2 := Lib.hid (K35.out.same (hk_alloc (hk_alloc H2.out.2.2 _) _))
  have gb1 := cell_blk HB1.out
  have gf1 := frozen_blk HB1.out
  have gb2 := cell_blk HB2.out
  have gf2 := frozen_blk HB2.out
  have hl1 := hk_lt HB1.out
  have hl2 := hk_lt HB2.out
  have HBN := Lib.hid (K35.out.same (hk_alloc (new_blk W2 (.cells #[.string xS, .string yS] 9)) (.cells #[.int .i64 mb, .int .i64 mc] 33)))
  have HBS := Lib.hid (K35.out.same (new_blk1 W2 (.cells #[.string xS, .string yS] 9) (.cells #[.int .i64 mb, .int .i64 mc] 33)))
  have HKW : Hid (Keeps [] w w5) := Lib.hid (((H2.out.1.alloc _).alloc _).trans K35.out)
  have hz2 := hk_lt H2.out.2.2
  have HE := Lib.hid (fun (o : Obj) (u6 u7 : Value) => env_end HB1.out HB2.out (by omega) o (.int .i64 ma) (.slice (some ⟨W2.heap.size, 0, none⟩) 2 2) (.slice (some ⟨W2.heap.size + 1, 0, none⟩) 2 2) (.bool (bitZ ma 0)) (.bool (bitZ ma 1)) (.bool (bitZ ma 2)) (.bool (bitZ ma 3)) (.bool (bitZ ma 4)) (.bool (bitZ ma 5)) u6 u7)
  go_wp2_with fail
  refine abs_post (F := fun W => W.heap[w.heap.size + 1]? = some (.cells #[.int .i64 ma, .slice (some ⟨W2.heap.size, 0, none⟩) 2 2, .slice (some ⟨W2.heap.size + 1, 0, none⟩) 2 2] 36 (0, 0)) ∧ W.heap[w.heap.size + 2]? = some (.cells #[.bool (bitZ ma 0), .bool (bitZ ma 1), .bool (bitZ ma 2), .bool (bitZ ma 3), .bool (bitZ ma 4), .bool (bitZ ma 5), .slice (some ⟨w3.heap.size, 0, none⟩) 2 2, .slice (some ⟨w5.heap.size, 0, none⟩) 2 2] 41 (0, 0)) ∧ Keeps [w.heap.size + 1, w.heap.size + 2] w5 W) (HE.out _ _ _) (fun W hW => ?_)
  have cr1 := cell_blk hW.1
  have cr2 := cell_blk hW.2.1
  have hn : w.heap.size ≤ W2.heap.size := by omega
  have he := env_rep HMM.out hn (hW.2.2.heap HBN.out (by simp; omega)) (hW.2.2.heap HBS.out (by simp; omega))
  have hk := HKW.out.step hW.2.2 (S := []) (fun k h1 h2 => by simp at h1; omega)
  exact bodyPost_ret (v := .tuple #[.agg #[.int .i64 ma, .slice (some ⟨W2.heap.size, 0, none⟩) 2 2, .slice (some ⟨W2.heap.size + 1, 0, none⟩) 2 2], .agg #[.bool (bitZ ma 0), .bool (bitZ ma 1), .bool (bitZ ma 2), .bool (bitZ ma 3), .bool (bitZ ma 4), .bool (bitZ ma 5), .slice (some ⟨w3.heap.size, 0, none⟩) 2 2, .slice (some ⟨w5.heap.size, 0, none⟩) 2 2]]) (by simp [results, Tryz.results16, go_sem, cr1, cr2]) rfl
    ⟨_, _, _, by rw [← HMM.out.1], ⟨_, _, _, _, _, _, _, _, rfl⟩, he, hk⟩
end Go.Proofs.YtdlkdecigpaaaaaGreatDoor
