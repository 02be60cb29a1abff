/- Arrays of three bytes that come in, opened. -/
import Derived.ProofKit
import Derived.OpenShut
import Derived.Carry
import Derived.Test.YtdlkdecigpaaaaaGreatDoorMg45
namespace Go.Proofs.YtdlkdecigpaaaaaGreatDoor
set_option linter.unusedVariables false
set_option linter.unusedSimpArgs false
open Go.RowKit Go.WideShapes Go.ChangeShapes

theorem laid_out : laidOutB Tryz.prog = true := by kernel_rfl
theorem u8_range {x : Int} (h : (Lit.int .u8 x).wf = true) : 0 ≤ x ∧ x ≤ 255 := by
  simp only [Lit.wf, Bool.and_eq_true, decide_eq_true_eq] at h
  have h1 : IntKind.u8.min = 0 := rfl
  have h2 : IntKind.u8.max = 255 := rfl
  omega
set_option maxRecDepth 100000 in
theorem open_a3 {H : Type} {enc : TypeId × Value → H} {W : World} {b : Nat} {v : Value} {d : DataW H} {ps : List MemPlace} (hval : Value.okWide Tryz.prog W .any b 22 v) (h : DataW.Trod enc Tryz.prog W 0 (fun _ => true) true 22 v d ps) :
    ∃ x y z, v = .agg #[.int .u8 x, .int .u8 y, .int .u8 z] ∧ ps = [] ∧ (Lit.int .u8 x).wf = true ∧ (Lit.int .u8 y).wf = true ∧ (Lit.int .u8 z).wf = true := by
  obtain ⟨cs, rfl⟩ : ∃ cs, v = .agg cs := by
    simp only [Value.okWide, Tryz.underlying22] at hval
    cases v <;> simp_all [Cell.okWide, Cell.ok]
  obtain ⟨n, h⟩ := h
  obtain ⟨xs, m, _, hx, hl, hn, hf⟩ := DataW.trod_array Tryz.underlying22 h
  have hc : Tryz.prog.cellsOf 5 = 1 := by kernel_rfl
  have hc3 : Tryz.prog.cellsOf 22 = 3 := by kernel_rfl
  rw [hc3] at hl
  have hl3 : cs.toList.length = 3 := by simpa [Value.cells] using hl
  obtain ⟨l⟩ := cs
  match l, hl3 with
  | [u0, u1, u2], _ =>
    match xs, hn with
    | [p0, p1, p2], _ =>
      have h0 := hf 0 (by decide)
      have h1 := hf 1 (by decide)
      have h2 := hf 2 (by decide)
      rw [hc] at h0 h1 h2
      obtain ⟨z0, e0, q0, w0⟩ := DataW.trod_int Tryz.underlying5 (x := p0) (by simpa [Value.cells] using h0)
      obtain ⟨z1, e1, q1, w1⟩ := DataW.trod_int Tryz.underlying5 (x := p1) (by simpa [Value.cells] using h1)
      obtain ⟨z2, e2, q2, w2⟩ := DataW.trod_int Tryz.underlying5 (x := p2) (by simpa [Value.cells] using h2)
      have f0 : u0 = .int .u8 z0 := by simpa using e0
      have f1 : u1 = .int .u8 z1 := by simpa using e1
      have f2 : u2 = .int .u8 z2 := by simpa using e2
      subst f0
      subst f1
      subst f2
      refine ⟨z0, z1, z2, rfl, ?_, w0, w1, w2⟩
      have hp := congrArg Prod.snd hx
      simpa [q0, q1, q2] using hp
theorem grow_card (s : ByteArray) (n0 n1 n2 m0 m1 m2 : Int) (w : World) (hv : VarOk w) (hs : s.size ≤ 140737488351232) (a0 : (Lit.int .u8 n0).wf = true) (a1 : (Lit.int .u8 n1).wf = true) (a2 : (Lit.int .u8 n2).wf = true) (b0 : (Lit.int .u8 m0).wf = true) (b1 : (Lit.int .u8 m1).wf = true) (b2 : (Lit.int .u8 m2).wf = true) :
    Calls Tryz.prog 3 #[.string s, .agg #[.int .u8 n0, .int .u8 n1, .int .u8 n2], .agg #[.int .u8 m0, .int .u8 m1, .int .u8 m2]] w fun e w' => e = .returned (.bool true) ∧ Below w.heap.size w w' :=
  grow_walk s n0 n1 n2 m0 m1 m2 w hv hs (u8_range a0).1 (u8_range a0).2 (u8_range a1).1 (u8_range a1).2 (u8_range a2).1 (u8_range a2).2 (u8_range b0).1 (u8_range b0).2 (u8_range b1).1 (u8_range b1).2 (u8_range b2).1 (u8_range b2).2
end Go.Proofs.YtdlkdecigpaaaaaGreatDoor
