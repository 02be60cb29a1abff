/- An expression's names: plain words. -/
import Derived.Test.YtdlkdecigpaaaaaGreatDoorMpNB
import Derived.Test.YtdlkdecigpaaaaaGreatDoorMp36
namespace Go.Proofs.YtdlkdecigpaaaaaGreatDoor
set_option linter.unusedVariables false
set_option linter.unusedSimpArgs false
open Go.RowKit

def lessB (a b : ByteArray) : Bool := Op.bytesLess a.toList b.toList
def placeF (l : List ByteArray) (nm : ByteArray) : Nat := (l.takeWhile fun x => lessB x nm).length
/-- A name, put in at its place, if it isn't there. -/
def insF (l : List ByteArray) (nm : ByteArray) : List ByteArray := if l[placeF l nm]? = some nm then l else l.take (placeF l nm) ++ [nm] ++ l.drop (placeF l nm)
mutual
def namesF (l : List ByteArray) : XT → List ByteArray
  | .mk o nm _ xs => namesL (if o = varS then insF l nm else l) xs
def namesL (l : List ByteArray) : List XT → List ByteArray
  | [] => l
  | T :: r => namesL (namesF l T) r
end
mutual
def varsF : XT → List ByteArray
  | .mk o nm _ xs => (if o = varS then [nm] else []) ++ varsL xs
def varsL : List XT → List ByteArray
  | [] => []
  | T :: r => varsF T ++ varsL r
end
theorem place_le (l : List ByteArray) (nm : ByteArray) : placeF l nm ≤ l.length := (List.takeWhile_prefix _).length_le
theorem ins_len (l : List ByteArray) (nm : ByteArray) : (insF l nm).length ≤ l.length + 1 := by
  unfold insF; split
  · omega
  · have := place_le l nm; simp; omega
theorem ins_mem {l : List ByteArray} {nm x : ByteArray} : x ∈ insF l nm ↔ x ∈ l ∨ x = nm := by
  unfold insF; split
  · rename_i h
    have := List.mem_of_getElem? h
    exact ⟨.inl, fun h => h.elim id fun e => e ▸ this⟩
  · rw [List.mem_append, List.mem_append, List.mem_singleton]
    conv => rhs; rw [← List.take_append_drop (placeF l nm) l, List.mem_append]
    constructor
    · rintro ((h | h) | h)
      · exact .inl (.inl h)
      · exact .inr h
      · exact .inl (.inr h)
    · rintro ((h | h) | h)
      · exact .inl (.inl h)
      · exact .inr h
      · exact .inl (.inr h)
mutual
theorem names_mem {x : ByteArray} : ∀ (T : XT) (l : List ByteArray), x ∈ namesF l T ↔ x ∈ l ∨ x ∈ varsF T
  | .mk o nm v xs, l => by
    rw [namesF, varsF, namesL_mem xs, List.mem_append]
    by_cases c : o = varS
    · rw [if_pos c, if_pos c, ins_mem, List.mem_singleton, or_assoc]
    · rw [if_neg c, if_neg c]; simp
theorem namesL_mem {x : ByteArray} : ∀ (xs : List XT) (l : List ByteArray), x ∈ namesL l xs ↔ x ∈ l ∨ x ∈ varsL xs
  | [], l => by rw [namesL, varsL]; simp
  | T :: r, l => by rw [namesL, varsL, namesL_mem r, names_mem T, List.mem_append, or_assoc]
end
mutual
theorem names_len : ∀ (T : XT) (l : List ByteArray), (namesF l T).length ≤ l.length + T.cnt
  | .mk o nm v xs, l => by
    rw [namesF, cnt_mk]
    have h := namesL_len xs (if o = varS then insF l nm else l)
    have h2 := ins_len l nm
    split at h
    · rename_i c; rw [if_pos c]; omega
    · rename_i c; rw [if_neg c]; omega
theorem namesL_len : ∀ (xs : List XT) (l : List ByteArray), (namesL l xs).length ≤ l.length + XT.cntL xs
  | [], l => by rw [namesL, cntL_nil]; omega
  | T :: r, l => by
    rw [namesL, cntL_cons]
    have h := namesL_len r (namesF l T)
    have h2 := names_len T l
    omega
end
section
variable {E : SEnv}
theorem chk_var (nm : ByteArray) (v : VT) : chk E (.mk varS nm v []) = (match findL E.names nm with | some q => (E.sorts.getD q 0, 0) | none => (0, 13)) := by rw [chk]; rfl
theorem rule_code (q : Int × Int × Int × Bool) (l : List Int) : (ruleOut q l).2 = 0 ∨ (ruleOut q l).2 = 9 := by unfold ruleOut; split; exact .inl rfl; exact .inr rfl
theorem find_some {l : List ByteArray} {x : ByteArray} (h : x ∈ l) : ∃ q, findL l x = some q := by
  unfold findL
  cases e : List.findIdx? _ l with
  | some q => exact ⟨q, rfl⟩
  | none =>
    rw [List.findIdx?_eq_none_iff] at e
    have := e x h
    simp at this
mutual
/-- Where all names have sorts, none is told to be none. -/
theorem chk_named : ∀ {T : XT}, (∀ x ∈ varsF T, x ∈ E.names) → (chk E T).2 ≠ 13
  | .mk o nm v l, h => by
    rw [varsF] at h
    rw [chk]
    split
    · exact (by decide : (0 : Int) ≠ 13)
    · split
      · exact (by decide : (0 : Int) ≠ 13)
      · split
        · rename_i c
          rw [if_pos c] at h
          obtain ⟨q, hq⟩ := find_some (h nm (by simp))
          rw [hq]; show (0 : Int) ≠ 13; decide
        · have hL := chkL_named (l := l) fun x hx => h x (List.mem_append_right _ hx)
          split
          · rcases rule_code (ruleF o) (chkL E l).1 with e | e <;> rw [e] <;> decide
          · exact hL
theorem chkL_named : ∀ {l : List XT}, (∀ x ∈ varsL l, x ∈ E.names) → (chkL E l).2 ≠ 13
  | [], _ => by rw [chkL]; exact (by decide : (0 : Int) ≠ 13)
  | T :: l, h => by
    rw [varsL] at h
    rw [chkL]
    split
    · have hL := chkL_named (l := l) fun x hx => h x (List.mem_append_right _ hx)
      split
      · exact (by decide : (0 : Int) ≠ 13)
      · exact hL
    · exact chk_named (T := T) fun x hx => h x (List.mem_append_left _ hx)
end
end
theorem leaf_vars {T : XT} (h : T.args = []) (ho : T.op ≠ varS) : varsF T = [] := by
  obtain ⟨o, n, v, l⟩ := T
  simp only [XT.args, XT.op] at h ho
  rw [h, varsF, if_neg ho, varsL]; rfl
/-- Where no name has sorts, one that has names is none. -/
theorem chk_nameless {E : SEnv} (hE : E.names = []) {T : XT} (hg : XGood T) : (chk E T).2 = 0 → varsF T = [] := by
  have node : ∀ T : XT, nodeOk T → (∀ U ∈ T.args, (chk E U).2 = 0 → varsF U = []) → (chk E T).2 = 0 → varsF T = [] := fun T h1 h2 h3 => by
    have hc : (chkL E T.args).2 = 0 := by
      rw [chk_node h1.1] at h3
      by_cases c : (chkL E T.args).2 = 0
      · exact c
      · rw [if_neg c] at h3; exact h3
    have hz := rule_ne h1.1
    clear h3
    obtain ⟨o, n, v, l⟩ := T
    simp only [XT.op, XT.args] at *
    have hL : ∀ {l : List XT}, (∀ U ∈ l, (chk E U).2 = 0 → varsF U = []) → (chkL E l).2 = 0 → varsL l = [] := by
      intro l
      induction l with
      | nil => intro _ _; rw [varsL]
      | cons U r ih =>
        intro k1 k2
        rw [chkL] at k2
        by_cases c : (chk E U).2 = 0
        · rw [if_pos c] at k2
          by_cases d : (chkL E r).2 = 0
          · rw [varsL, k1 U (.head _) c, ih (fun U hU => k1 U (.tail _ hU)) d]; rfl
          · rw [if_neg d] at k2; exact absurd k2 d
        · rw [if_neg c] at k2; exact absurd k2 c
    rw [varsF, if_neg hz.2.2, hL h2 hc]; rfl
  have nd : ∀ {T : XT}, XGood T → T.op ≠ litS → T.op ≠ thisS → T.op ≠ varS → nodeOk T := fun {T} h a b c => by
    rcases h.node with ⟨v, _, rfl⟩ | rfl | ⟨nm, rfl⟩ | h
    · exact absurd rfl a
    · exact absurd rfl b
    · exact absurd rfl c
    · exact h
  induction hg with
  | lit _ => intro _; exact leaf_vars rfl (by show litS ≠ varS; decide)
  | this => intro _; exact leaf_vars rfl (by show thisS ≠ varS; decide)
  | @var nm _ _ _ =>
    rw [chk_var, hE]
    intro h; exact absurd h (by show ¬ ((13 : Int) = 0); decide)
  | get h ih => exact node _ (nd (.get h) (by show getS ≠ _; decide) (by show getS ≠ _; decide) (by show getS ≠ _; decide)) fun U hU => by simp [XT.args, getT] at hU; rw [hU]; exact ih
  | at_ h k ih1 ih2 => exact node _ (nd (.at_ h k) (by show atS ≠ _; decide) (by show atS ≠ _; decide) (by show atS ≠ _; decide)) fun U hU => by simp [XT.args, binT] at hU; rcases hU with rfl | rfl <;> assumption
  | un ho h ih =>
    have hb : ∀ op, (op = notS ∨ op = negS) → op ≠ litS ∧ op ≠ thisS ∧ op ≠ varS := by rintro op (rfl | rfl) <;> decide
    obtain ⟨b1, b2, b3⟩ := hb _ ho
    exact node _ (nd (.un ho h) b1 b2 b3) fun U hU => by simp [XT.args, unT] at hU; rw [hU]; exact ih
  | bin ho h k ih1 ih2 =>
    have hb : ∀ op ∈ binL, op ≠ litS ∧ op ≠ thisS ∧ op ≠ varS := by decide +kernel
    obtain ⟨b1, b2, b3⟩ := hb _ ho
    exact node _ (nd (.bin ho h k) b1 b2 b3) fun U hU => by simp [XT.args, binT] at hU; rcases hU with rfl | rfl <;> assumption
  | @call w l ha hl h ih =>
    have hx : ∀ t, argsN t = 0 → w ≠ t := fun t ht e => by rw [e, ht] at ha; omega
    exact node _ (nd (.call ha hl h) (hx _ (by decide +kernel)) (hx _ (by decide +kernel)) (hx _ (by decide +kernel))) fun U hU => ih U hU
/-- Where no name stands, none is told to be none. -/
theorem chk_no_vars {E : SEnv} {T : XT} (h : varsF T = []) : (chk E T).2 ≠ 13 := chk_named fun x hx => by rw [h] at hx; cases hx
end Go.Proofs.YtdlkdecigpaaaaaGreatDoor
