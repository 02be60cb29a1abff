/- Acts that come in, opened. -/
import Derived.Test.YtbajghjdnjodmaaRowK
import Derived.Test.YtbajghjdnjodmaaCFew
namespace Go.Proofs.Ytbajghjdnjodmaa
set_option linter.unusedVariables false
set_option linter.unusedSimpArgs false
open Go.RowKit Go.WideShapes Go.ChangeShapes Go.Deep

section
variable {H : Type} {enc : TypeId × Value → H} {w : World} {base : Nat} {held : Bool}
theorem u8_lit {x : Int} (h : (Lit.int .u8 x).wf = true) : 0 ≤ x ∧ x ≤ 255 := by
  simp only [Lit.wf, Bool.and_eq_true, decide_eq_true_eq] at h; exact h
theorem sl_u8 {fuel : Nat} {v : Value} {x : DataW H × List MemPlace} (hz : NoFrz w x.2) (h : DataW.trod enc Try.prog w base (fun _ => true) held fuel 35 [v] = some x) :
    ∃ l : List Int, l.length ≤ maxLen ∧ Sl w (fun _ => True) 1 v l.length (l.map (Value.int .u8)) ∧ ∀ d ∈ l, 0 ≤ d ∧ d ≤ 255 := by
  obtain ⟨l, h1, cs, h2, h3⟩ := sl_of_trod (R := fun a x => (0 ≤ a ∧ a ≤ 255) ∧ x = [Value.int .u8 a]) Try.underlying35 (by kernel_rfl) (Nat.lt_succ_self 0) hz (fun n cs y hy _ _ => by
    obtain ⟨k, rfl, _, hk⟩ := DataW.trod_int Try.underlying5 hy
    exact ⟨k, u8_lit hk, rfl⟩) h
  obtain ⟨rfl, h5⟩ := rows_map h3
  exact ⟨l, h1, h2, h5⟩
theorem sl_str {fuel : Nat} {v : Value} {x : DataW H × List MemPlace} (hz : NoFrz w x.2) (h : DataW.trod enc Try.prog w base (fun _ => true) held fuel 28 [v] = some x) :
    ∃ l : List ByteArray, l.length ≤ maxLen ∧ Sl w (fun _ => True) 1 v l.length (l.map Value.string) ∧ ∀ s ∈ l, s.size ≤ maxLen := by
  obtain ⟨l, h1, cs, h2, h3⟩ := sl_of_trod (R := fun a x => a.size ≤ maxLen ∧ x = [Value.string a]) Try.underlying28 (by kernel_rfl) (Nat.lt_succ_self 0) hz (fun n cs y hy _ _ => by
    obtain ⟨k, rfl, _, hk⟩ := DataW.trod_string Try.underlying9 hy
    exact ⟨k, hk, rfl⟩) h
  obtain ⟨rfl, h5⟩ := rows_map h3
  exact ⟨l, h1, h2, h5⟩
theorem sl_int {fuel : Nat} {v : Value} {x : DataW H × List MemPlace} (hz : NoFrz w x.2) (h : DataW.trod enc Try.prog w base (fun _ => true) held fuel 31 [v] = some x) :
    ∃ l : List Int, l.length ≤ maxLen ∧ Sl w (fun _ => True) 1 v l.length (l.map (Value.int .i64)) := by
  obtain ⟨l, h1, cs, h2, h3⟩ := sl_of_trod (R := fun (a : Int) x => True ∧ x = [Value.int .i64 a]) Try.underlying31 (by kernel_rfl) (Nat.lt_succ_self 0) hz (fun n cs y hy _ _ => by
    obtain ⟨k, rfl, _, hk⟩ := DataW.trod_int Try.underlying3 hy
    exact ⟨k, trivial, rfl⟩) h
  obtain ⟨rfl, h5⟩ := rows_map h3
  exact ⟨l, h1, h2⟩
set_option maxRecDepth 100000 in
theorem node_of_trod {n : Nat} {cs : List Value} {y : DataW H × List MemPlace} (hz : NoFrz w y.2) (h : DataW.trod enc Try.prog w base (fun _ => true) held n 92 cs = some y) (hl : cs.length = 5) : ∃ a : NT, a.Five w (fun _ => True) cs := by
  match cs, hl with
  | [c0, c1, c2, c3, c4], _ =>
    obtain ⟨y0, y1, y2, y3, y4, m, hy2, _, t0, t1, t2, t3, t4⟩ := trod_struct5 Try.underlying92 h
    obtain ⟨k, e0, _, hk⟩ := DataW.trod_int Try.underlying5 t0
    obtain ⟨i, e1, _, hi⟩ := DataW.trod_int Try.underlying2 t1
    obtain ⟨s, e2, _, hs⟩ := DataW.trod_string Try.underlying9 t2
    obtain ⟨its, h3, h3', h3''⟩ := sl_u8 (hz.sub fun p hp => by rw [hy2]; simp [hp]) t3
    obtain ⟨ks, h4, h4', h4''⟩ := sl_str (hz.sub fun p hp => by rw [hy2]; simp [hp]) t4
    cases e0; cases e1; cases e2
    exact ⟨⟨k, i, s, its, ks⟩, ⟨u8_lit hk, i64_lit hi, hs, h3, h4, h3'', h4''⟩, _, _, rfl, h3', h4'⟩
set_option maxRecDepth 100000 in
theorem act_of_trod {n : Nat} {cs : List Value} {y : DataW H × List MemPlace} (hz : NoFrz w y.2) (h : DataW.trod enc Try.prog w base (fun _ => true) held n 41 cs = some y) (hl : cs.length = 5) : ∃ a : AT, a.Five w (fun _ => True) cs := by
  match cs, hl with
  | [c0, c1, c2, c3, c4], _ =>
    obtain ⟨y0, y1, y2, y3, y4, m, hy2, _, t0, t1, t2, t3, t4⟩ := trod_struct5 Try.underlying41 h
    obtain ⟨k, e0, _, hk⟩ := DataW.trod_int Try.underlying5 t0
    obtain ⟨s, e1, _, hs⟩ := DataW.trod_string Try.underlying9 t1
    obtain ⟨nodes, h2, ncs, h2', h2''⟩ := sl_of_trod (R := NT.Five w (fun _ => True)) Try.underlying39 (by kernel_rfl) (by decide : 0 < 5) (hz.sub fun p hp => by rw [hy2]; simp [hp]) (fun n cs y hy hq hl => node_of_trod hq hy hl) t2
    obtain ⟨b, e3, _⟩ := DataW.trod_bool Try.underlying4 t3
    obtain ⟨dr, h4, h4'⟩ := sl_int (hz.sub fun p hp => by rw [hy2]; simp [hp]) t4
    cases e0; cases e1; cases e3
    exact ⟨⟨k, s, nodes, b, dr⟩, _, _, rfl, ⟨u8_lit hk, hs, h2, h4⟩, ⟨ncs, h2', h2''⟩, h4'⟩
set_option maxRecDepth 100000 in
theorem open_acts {v : Value} {d : DataW H} {ps : List MemPlace} {W : World} {b : Nat} (hz : NoFrz W ps) (hval : Value.okWide Try.prog W .any b 43 v) (h : DataW.Trod enc Try.prog W 0 (fun _ => true) true 43 v d ps) :
    ∃ l : List AT, Acts W (fun _ => True) v l := by
  obtain ⟨a, len, cap, rfl⟩ := okWide_slice Try.underlying43 hval
  obtain ⟨n, h⟩ := h
  obtain ⟨l, h1, cs, h2, h3⟩ := sl_of_trod (R := AT.Five W (fun _ => True)) Try.underlying43 (by kernel_rfl) (by decide : 0 < 5) hz (fun n cs y hy hq hl => act_of_trod hq hy hl) (v := .slice a len cap) (by simpa [Value.cells] using h)
  exact ⟨l, h1, cs, h2, h3⟩
set_option maxRecDepth 100000 in
theorem open_act {v : Value} {d : DataW H} {ps : List MemPlace} {W : World} {b : Nat} (hz : NoFrz W ps) (hval : Value.okWide Try.prog W .any b 41 v) (h : DataW.Trod enc Try.prog W 0 (fun _ => true) true 41 v d ps) :
    ∃ (a : AT) (vn vd : Value), v = a.agg vn vd ∧ a.Cells W (fun _ => True) vn vd := by
  obtain ⟨cs, rfl⟩ : ∃ cs, v = .agg cs := by
    simp only [Value.okWide, Try.underlying41] at hval
    cases v <;> simp_all [Cell.okWide, Cell.ok]
  obtain ⟨n, h⟩ := h
  have hlen : cs.toList.length = 5 := by
    obtain ⟨_, _, _, _, _, _, _, hl, _⟩ := trod_struct5 Try.underlying41 h
    simpa [Value.cells] using hl.trans (by kernel_rfl : Try.prog.cellsOf 41 = 5)
  obtain ⟨a, vn, vd, h1, h2⟩ := act_of_trod hz h hlen
  refine ⟨a, vn, vd, ?_, h2⟩
  have : cs.toList = a.head vn vd := h1
  obtain ⟨l⟩ := cs
  simp only at this
  rw [this]
  rfl
end
end Go.Proofs.Ytbajghjdnjodmaa
