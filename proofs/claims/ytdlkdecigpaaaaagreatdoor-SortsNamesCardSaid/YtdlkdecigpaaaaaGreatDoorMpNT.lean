/- A region that draws, whose last operations write what its first ones load: a fact of the world that holds until one of the operations T comes up. -/
import Derived.Deep.RegionHeld
namespace Go.Proofs.YtdlkdecigpaaaaaGreatDoor
set_option linter.unusedVariables false
set_option linter.unusedSimpArgs false

section
variable {P : Program} {ops : Array Oper} {Q : Exit → Act → World → Prop} {md : Region.Mode} {S : World → Prop} {T : List Nat}
/-- Whatever order is drawn; behind each operation that is none of T's S holds. -/
def wpTill (P : Program) (md : Region.Mode) (ops : Array Oper) (Q : Exit → Act → World → Prop) (S : World → Prop) (T : List Nat) : Nat → Array Bool → Act → World → Prop
  | 0, listed, a, w => Region.ready md ops listed = [] ∧ Q .normal a w
  | n + 1, listed, a, w => (Region.ready md ops listed = [] → Q .normal a w) ∧
      ∀ i ∈ Region.ready md ops listed, wpOp P ops Q i (fun a' w' => (i ∉ T → S w') ∧ wpTill P md ops Q S T n (listed.setIfInBounds i true) a' w') a w
theorem wpTill.any : ∀ (n : Nat) (listed : Array Bool) (a : Act) (w : World), wpTill P md ops Q S T n listed a w → wpAny P md ops Q n listed a w
  | 0, _, _, _, h => h
  | n + 1, _, _, _, h => ⟨h.1, fun i hi => wpOp_mono (fun a' w' k => wpTill.any n _ a' w' k.2) (h.2 i hi)⟩
/-- Each of T waits for i. -/
def waitsAll (md : Region.Mode) (ops : Array Oper) (T : List Nat) (i : Nat) : Bool := T.all fun t => match ops[t]? with
  | some o => o.after.any fun e => Region.binds md e && e.on == i
  | none => false
theorem waits_not {i j : Nat} {listed : Array Bool} (hw : waitsAll md ops T i = true) (hi : i ∈ Region.ready md ops listed) (hj : j ∈ Region.ready md ops listed) : j ∉ T := fun hT => by
  have h1 := List.all_eq_true.1 hw j hT
  obtain ⟨hjun, oj, hoj, hall⟩ := mem_ready.1 hj
  rw [hoj] at h1
  obtain ⟨e, he, hb⟩ := Array.any_eq_true'.1 h1
  rw [Bool.and_eq_true, beq_iff_eq] at hb
  have h2 := hall e he hb.1
  have h3 := (mem_ready.1 hi).1
  rw [hb.2] at h2
  rcases Nat.lt_or_ge i listed.size with h | h
  · simp [h] at h2 h3; rw [h2] at h3; cases h3
  · simp [Array.getElem?_eq_none h] at h2
theorem till_first {i : Nat} {oi : Oper} {v : Value} (hi : ops[i]? = some oi) (hsel : ∀ (j : Nat) (o : Oper) cs b, ops[j]? = some o → o.op ≠ .select cs b)
    (hQ : ∀ c a w, Q (.panic c) (a.put oi.dst v) w → Q (.panic c) a w) (hT : waitsAll md ops T i = true) (hiT : i ∉ T) :
    ∀ (n : Nat) (listed : Array Bool) (a : Act) (w : World),
      (∀ j oj, ops[j]? = some oj → j ≠ i → listed.getD j true = false → (∀ e ∈ oj.after, Region.binds md e = true → e.on ≠ i) → oi.apart ops oj = true) →
      i ∈ Region.ready md ops listed → YieldsIf P ops S oi v a → S w →
      wpTill P md ops Q S T n (listed.setIfInBounds i true) (a.put oi.dst v) w → wpTill P md ops Q S T (n + 1) listed a w := by
  intro n
  induction n with
  | zero =>
    intro listed a w _ hr hy hS H
    refine ⟨fun h => (by rw [h] at hr; cases hr), fun j hj => ?_⟩
    by_cases hji : j = i
    · subst hji; exact hy.wpOp hi hS ⟨fun _ => hS, H⟩
    · have := ready_mono hj hji
      rw [H.1] at this
      cases this
  | succ n ih =>
    intro listed a w hfree hr hy hS H
    refine ⟨fun h => (by rw [h] at hr; cases hr), fun j hj => ?_⟩
    by_cases hji : j = i
    · subst hji; exact hy.wpOp hi hS ⟨fun _ => hS, H⟩
    · have h1 := H.2 j (ready_mono hj hji)
      have hjT := waits_not hT hr hj
      obtain ⟨hjun, oj, hoj, hall⟩ := mem_ready.1 hj
      have hnot : ∀ e ∈ oj.after, Region.binds md e = true → e.on ≠ i := fun e he hb heq => by
        have h2 := hall e he hb
        have h3 := (mem_ready.1 hr).1
        rw [heq] at h2
        rcases Nat.lt_or_ge i listed.size with h | h
        · simp [h] at h2 h3; rw [h2] at h3; cases h3
        · simp [Array.getElem?_eq_none h] at h2
      have h2 := wpOp_putIf hoj (hfree j oj hoj hji hjun hnot) (fun cs b => hsel i oi cs b hi) (fun cs b => hsel j oj cs b hoj) hQ hy h1
      refine wpOp_mono (fun a' w' h3 => ⟨h3.2.1, ih (listed.setIfInBounds j true) a' w' (fun k ok hk hki hun hno => hfree k ok hk hki ?_ hno) (ready_mono hr (Ne.symm hji)) h3.1 (h3.2.1 hjT) ?_⟩) h2
      · by_cases hjk : j = k
        · subst hjk; exact hjun
        · rw [getD_set_ne true hjk] at hun; exact hun
      · rw [Array.setIfInBounds_comm _ _ hji]
        exact h3.2.2
/-- What yields where S holds is taken first. -/
theorem till_take {i : Nat} {oi : Oper} {v : Value} {n : Nat} {listed : Array Bool} {a a2 : Act} {w : World} (hi : ops[i]? = some oi)
    (hs : Region.noSelect ops = true) (hf : Region.free md ops listed i = true) (hr : (Region.ready md ops listed).contains i = true) (hT : waitsAll md ops T i = true) (hiT : T.contains i = false)
    (hQ : ∀ c a w, Q (.panic c) (a.put oi.dst v) w → Q (.panic c) a w) (hy : YieldsIf P ops S oi v a) (hS : S w) (ha : a.put oi.dst v = a2)
    (h : wpTill P md ops Q S T n (listed.setIfInBounds i true) a2 w) : wpTill P md ops Q S T (n + 1) listed a w :=
  till_first hi (Region.noSelect_spec hs) hQ hT (fun k => by rw [List.contains_eq_mem, decide_eq_false_iff_not] at hiT; exact hiT k) n listed a w (Region.free_spec hi hf) (by simpa using hr) hy hS (ha ▸ h)
/-- Each of these comes up next. -/
def AllTill (P : Program) (md : Region.Mode) (ops : Array Oper) (Q : Exit → Act → World → Prop) (S : World → Prop) (T : List Nat) (n : Nat) (listed : Array Bool) (a : Act) (w : World) (rs : List Nat) : Prop :=
  ∀ i ∈ rs, wpOp P ops Q i (fun a' w' => (i ∉ T → S w') ∧ wpTill P md ops Q S T n (listed.setIfInBounds i true) a' w') a w
theorem AllTill.nil {n : Nat} {listed : Array Bool} {a : Act} {w : World} : AllTill P md ops Q S T n listed a w [] := fun _ h => by cases h
theorem AllTill.cons {n : Nat} {listed : Array Bool} {a : Act} {w : World} {i : Nat} {o : Oper} {rs : List Nat} (ho : ops[i]? = some o)
    (h : ∀ K : Act → World → Prop, Shut (∀ a w, (i ∉ T → S w) → wpTill P md ops Q S T n (listed.setIfInBounds i true) a w → K a w) → if Region.wanted o (yielded ops a.tmps) = true then Oper.wp P o a w K Q else K (a.put o.dst undef) w)
    (hs : AllTill P md ops Q S T n listed a w rs) : AllTill P md ops Q S T n listed a w (i :: rs) := fun j hj => by
  rcases List.mem_cons.1 hj with rfl | hj
  · exact wpOp_step ho (fun K hK => h K (fun a w h1 h2 => hK a w ⟨h1, h2⟩))
  · exact hs j hj
theorem till_ready {rs : List Nat} {n : Nat} {listed : Array Bool} {a : Act} {w : World} (hr : Region.ready md ops listed = rs) (hne : rs ≠ []) (h : AllTill P md ops Q S T n listed a w rs) : wpTill P md ops Q S T (n + 1) listed a w :=
  ⟨fun h0 => absurd (hr ▸ h0) hne, hr ▸ h⟩
theorem till_done {listed : Array Bool} {a : Act} {w : World} (hr : Region.ready md ops listed = []) (h : Q .normal a w) : ∀ n, wpTill P md ops Q S T n listed a w
  | 0 => ⟨hr, h⟩
  | _ + 1 => ⟨fun _ => h, by rw [hr]; simp⟩
/-- The beginning, behind the draw. -/
theorem till_start {id : Nat} {a : Act} {w : World} (hm : P.follows .mixedOrders = true) (T : List Nat) (S : World → Prop) (h : wpTill P .any ops Q S T ops.size (Array.replicate ops.size false) a w.drew) : (Code.region id ops true).wp P Q a w :=
  wp_region_any hm (wpTill.any _ _ _ _ h)
end
end Go.Proofs.YtdlkdecigpaaaaaGreatDoor
