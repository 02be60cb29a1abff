/- The laws' own calls: is, awake. -/
import Derived.Test.YtlnmjpacagimnaaDoorAll
namespace Go.Proofs.YtlnmjpacagimnaaDoor
set_option linter.unusedVariables false
set_option linter.unusedSimpArgs false
open Go.RowKit

def awS : ByteArray := ⟨#[48, 49]⟩
theorem aw_says : (allOf awS).2 = (0, 0) ∧ (allOf awS).1.map (fun t => (t.kind, t.val, t.head, t.stop)) = [(3, 0, 0, 1), (3, 1, 1, 2), (0, 0, 2, 2)] := by decide +kernel
theorem aw_list : ∃ t0 t1 t2, allOf awS = ([t0, t1, t2], 0, 0) ∧ t0.kind = 3 ∧ t1.val = 1 ∧ t1.head = 1 := by
  have h := aw_says
  generalize allOf awS = r at *
  obtain ⟨l, p, c⟩ := r
  simp only [Prod.mk.injEq] at h
  obtain ⟨⟨rfl, rfl⟩, hl⟩ := h
  have hlen := congrArg List.length hl
  simp only [List.length_map, List.length_cons, List.length_nil] at hlen
  rcases l with _ | ⟨t0, _ | ⟨t1, _ | ⟨t2, _ | ⟨t3, r⟩⟩⟩⟩
  · simp at hlen
  · simp at hlen
  · simp at hlen
  · simp only [List.map_cons, List.map_nil, List.cons.injEq, Prod.mk.injEq] at hl
    exact ⟨t0, t1, t2, rfl, hl.1.1, hl.2.1.2.1, hl.2.1.2.2.1⟩
  · simp at hlen
set_option maxRecDepth 20000 in
set_option maxHeartbeats 4000000 in
theorem is_any (t : Tk) (w : World) :
    Calls Tryd.prog 12 #[.agg t.cells, .agg t.cells] w fun e w' => e = .returned (.bool true) ∧ Below w.heap.size w w' := by
  obtain ⟨kd, tx, vl, hd, st⟩ := t
  unfold Tk.cells
  have h1 : (tx.toList == tx.toList) = true := str_beq rfl
  go_enter Tryd.func12, Tryd.ntmps12
  go_wp2
  go_ret
  exact ⟨rfl, bl_alloc (bl_alloc (Below.refl _ _) _) _⟩
theorem allF_len (s : ByteArray) : ∀ (k : Nat) (i : Int) (acc : List Tk), (allF s k i acc).1.length ≤ acc.length + k
  | 0, i, acc => by simp [allF]
  | k + 1, i, acc => by
    unfold allF
    split
    · simp
    · split
      · simp
      · have := allF_len s k (nextF s i).1.stop (acc ++ [(nextF s i).1])
        rw [List.length_append] at this; simp at this; omega
theorem allOf_len (s : ByteArray) : (allOf s).1.length ≤ s.size + 1 := by
  have := allF_len s (s.size + 1 - (0 : Int).toNat) 0 []
  simpa [allOf, allAt] using this
theorem add_at (g k : Nat) : (⟨g, 0, none⟩ : Addr).add k = ⟨g, k, none⟩ := by unfold Addr.add; split <;> simp_all
/-- The cells of a slice of tokens. -/
theorem tk_cell {w : World} {base : Nat} {e : TypeId} {g n cap : Nat} {l : List Tk} (h : w.ownsRow base e 5 (.slice (some ⟨g, 0, none⟩) n cap) l.length (tksV l)) {j : Nat} {t : Tk} (hj : l[j]? = some t) {k : Nat} {u : Value} (hu : t.cells[k]? = some u) : w.cell? ⟨g, j * 5 + k, none⟩ = some u := by
  have := h.cells (g := g) rfl (j * 5 + k) u (tksV_at l j t hj k u hu)
  rwa [add_at] at this
set_option maxRecDepth 20000 in
set_option maxHeartbeats 4000000 in
theorem awake_any (w : World) (hv : VarOk w) :
    Calls Tryd.prog 9 #[] w fun e w' => e = .returned (.bool true) ∧ Below w.heap.size w w' := by
  have HA := Lib.hid (all_any awS w (by decide) hv)
  obtain ⟨t0, t1, t2, hl, h0, h1, h2⟩ := aw_list
  rw [hl] at HA
  obtain ⟨k0, x0, v0, a0, s0⟩ := t0
  obtain ⟨k1, x1, v1, a1, s1⟩ := t1
  simp only at h0 h1 h2
  subst h0 h1 h2
  clear hv hl
  unfold awS at HA
  go_enter Tryd.func9, Tryd.ntmps9
  go_wp2_with fail
  refine HA.out.mono ?_
  rintro e' w1 ⟨v, rfl, ho, hb⟩
  obtain ⟨g, cap, rfl, hg⟩ := own_shape ho (by simp)
  have c0 : w1.cell? ⟨g, 0, none⟩ = some (.int .i64 3) := tk_cell ho (j := 0) (k := 0) rfl rfl
  have c1 : w1.cell? ⟨g, 7, none⟩ = some (.int .i64 1) := tk_cell ho (j := 1) (k := 2) rfl rfl
  have c2 : w1.cell? ⟨g, 8, none⟩ = some (.int .i64 1) := tk_cell ho (j := 1) (k := 3) rfl rfl
  have HB := Lib.hid hb
  have HO := Lib.hid ho
  clear ho hb HA
  simp only [List.length_cons, List.length_nil, Nat.zero_add, Nat.reduceAdd]
  go_wp2
  go_ret
  exact ⟨rfl, HB.out⟩
end Go.Proofs.YtlnmjpacagimnaaDoor
