/- Bytes that come in, opened. -/
import Derived.Test.YtdlkdecigpaaaaaGreatDoorMpBD
import Derived.Test.YtdlkdecigpaaaaaGreatDoorMpRowK
namespace Go.Proofs.YtdlkdecigpaaaaaGreatDoor
set_option linter.unusedVariables false
set_option linter.unusedSimpArgs false
open Go.RowKit Go.WideShapes Go.ChangeShapes

theorem u8_rangeQ {x : Int} (h : (Lit.int .u8 x).wf = true) : 0 ≤ x ∧ x ≤ 255 := by
  simp only [Lit.wf, Bool.and_eq_true, decide_eq_true_eq] at h
  have h1 : IntKind.u8.min = 0 := rfl
  have h2 : IntKind.u8.max = 255 := rfl
  omega
/-- A slice of bytes. -/
def U8s (W : World) (v : Value) (l : List Int) : Prop := l.length ≤ maxLen ∧ Sl W (fun _ => True) 1 v l.length (l.map (Value.int .u8 ·)) ∧ ∀ x ∈ l, 0 ≤ x ∧ x ≤ 255
theorem rows_u8 : ∀ {l : List Int} {cs : List Value}, Rows (fun (a : Int) (c : List Value) => c = [.int .u8 a] ∧ 0 ≤ a ∧ a ≤ 255) l cs → cs = l.map (Value.int .u8 ·) ∧ ∀ x ∈ l, 0 ≤ x ∧ x ≤ 255
  | [], cs, h => ⟨h, fun x hx => by cases hx⟩
  | a :: l, cs, h => by
    obtain ⟨c1, c2, rfl, ⟨rfl, h0, h1⟩, h2⟩ := h
    obtain ⟨e, k⟩ := rows_u8 h2
    refine ⟨by rw [e]; rfl, fun x hx => ?_⟩
    rcases List.mem_cons.1 hx with rfl | hx
    · exact ⟨h0, h1⟩
    · exact k x hx
set_option maxRecDepth 100000 in
theorem open_u8s {H : Type} {enc : TypeId × Value → H} {v : Value} {d : DataW H} {ps : List MemPlace} {W : World} {b : Nat} (hz : NoFrz W ps) (hval : Value.okWide Tryz.prog W .any b 69 v) (h : DataW.Trod enc Tryz.prog W 0 (fun _ => true) true 69 v d ps) :
    ∃ l : List Int, U8s W v l := by
  obtain ⟨a, len, cap, rfl⟩ := okWide_slice Tryz.underlying69 hval
  obtain ⟨n, h⟩ := h
  obtain ⟨l, h1, cs, h2, h3⟩ := sl_of_trod (R := fun (a : Int) (c : List Value) => c = [.int .u8 a] ∧ 0 ≤ a ∧ a ≤ 255) Tryz.underlying69 (by kernel_rfl) (by decide : 0 < 1) hz (fun n cs y hy hq hl => by
    obtain ⟨z, e, _, wf⟩ := DataW.trod_int Tryz.underlying5 hy
    exact ⟨z, by simpa using e, u8_rangeQ wf⟩) (v := .slice a len cap) (by simpa [Value.cells] using h)
  obtain ⟨e, k⟩ := rows_u8 h3
  rw [e] at h2
  exact ⟨l, h1, h2, k⟩
theorem blanks_card (s : ByteArray) (vg : Value) (l : List Int) (w : World) (hv : VarOk w) (hs : s.size ≤ 140737488351232) (h : U8s w vg l) :
    Calls Tryz.prog 8 #[.string s, vg] w fun e w' => e = .returned (.bool true) ∧ Below w.heap.size w w' := blanks_walk s vg l w hv hs h.1 h.2.1 h.2.2
end Go.Proofs.YtdlkdecigpaaaaaGreatDoor
