/- Where more may be, no less comes out: plain words on sorts. -/
import Derived.Test.YtdlkdecigpaaaaaGreatDoorMp36
namespace Go.Proofs.YtdlkdecigpaaaaaGreatDoor
set_option linter.unusedVariables false
set_option linter.unusedSimpArgs false
open Go.RowKit

abbrev bvI (x : Int) : BitVec 64 := BitVec.ofInt 64 x
theorem bits_and (x y : Int) : bits BinOp.and IntKind.i64 x y = (bvI x &&& bvI y).toInt := by
  show IntKind.i64.wrap ((bvI x &&& bvI y).toNat : Int) = _
  rw [IntKind.wrap_i64, BitVec.toInt_eq_toNat_cond]
  have := (bvI x &&& bvI y).isLt
  split <;> omega
theorem bvI_bits (x y : Int) : bvI (bits BinOp.and IntKind.i64 x y) = bvI x &&& bvI y := by
  rw [bits_and]; exact BitVec.ofInt_toInt
theorem bits_ne (x y : Int) : (bits BinOp.and IntKind.i64 x y != 0) = true ↔ bvI x &&& bvI y ≠ 0#64 := by
  rw [bits_and, bne_iff_ne, ne_eq, ne_eq, ← BitVec.toInt_zero (w := 64), BitVec.toInt_inj]
/-- All of the one are the other's. -/
def SubS (a b : Int) : Prop := bits BinOp.and IntKind.i64 a b = a
theorem sub_bv {a b : Int} (h : SubS a b) : bvI a &&& bvI b = bvI a := by
  rw [← bvI_bits]; rw [show bits BinOp.and IntKind.i64 a b = a from h]
theorem sub_refl {a : Int} (h0 : 0 ≤ a) (h1 : a ≤ 1000) : SubS a a := by
  unfold SubS
  rw [bits_and, BitVec.and_self, BitVec.toInt_ofInt]
  show Int.bmod a (2 ^ 64) = a
  rw [Int.bmod_def]; split <;> omega
theorem and_grow {a b m : Int} (h : SubS a b) (hm : (bits BinOp.and IntKind.i64 a m != 0) = true) : (bits BinOp.and IntKind.i64 b m != 0) = true := by
  rw [bits_ne] at hm ⊢
  intro e
  apply hm
  rw [← sub_bv h, BitVec.and_assoc, e, BitVec.and_zero]
theorem sub_and {a b c d : Int} (h : SubS a b) (k : SubS c d) : SubS (bits BinOp.and IntKind.i64 a c) (bits BinOp.and IntKind.i64 b d) := by
  show bits BinOp.and IntKind.i64 (bits BinOp.and IntKind.i64 a c) (bits BinOp.and IntKind.i64 b d) = _
  rw [bits_and, bvI_bits, bvI_bits, bits_and a c]
  congr 1
  have e : bvI a &&& bvI c &&& (bvI b &&& bvI d) = (bvI a &&& bvI b) &&& (bvI c &&& bvI d) := by ac_rfl
  rw [e, sub_bv h, sub_bv k]
def SubL : List Int → List Int → Prop
  | [], [] => True
  | a :: l, b :: m => SubS a b ∧ SubL l m
  | _, _ => False
theorem may_grow {q : Int × Int × Int × Bool} : ∀ {l m : List Int}, SubL l m → mayB q l = true → mayB q m = true
  | [], [], _, h => h
  | [a], [b], h, k => and_grow h.1 k
  | [a, a'], [b, b'], h, k => by
    simp only [mayB, Bool.and_eq_true, Bool.or_eq_true] at k ⊢
    exact ⟨and_grow h.1 k.1, and_grow h.2.1 k.2.1, k.2.2.imp id fun z => and_grow (sub_and h.1 h.2.1) z⟩
  | _ :: _ :: _ :: _, _ :: _ :: _ :: _, _, h => (by simp [mayB] at h)
  | [], _ :: _, h, _ => h.elim
  | _ :: _, [], h, _ => h.elim
  | [_], _ :: _ :: _, h, _ => h.2.elim
  | _ :: _ :: _, [_], h, _ => h.2.elim
  | [_, _], _ :: _ :: _ :: _, h, _ => h.2.2.elim
  | _ :: _ :: _ :: _, [_, _], h, _ => h.2.2.elim
theorem rule_out_le (op : ByteArray) : 0 ≤ (ruleF op).2.2.1 ∧ (ruleF op).2.2.1 ≤ 63 := by
  unfold ruleF
  cases h : ruleL.find? fun x => decide (x.1 = op) with
  | none => exact ⟨by decide, by decide⟩
  | some x =>
    have hm := List.mem_of_find?_eq_some h
    have hall : ∀ x ∈ ruleL, 0 ≤ x.2.2.2.1 ∧ x.2.2.2.1 ≤ 63 := by decide +kernel
    exact hall x hm
section
variable {E F : SEnv}
theorem chkL_grow : ∀ {l : List XT}, (∀ T ∈ l, (chk E T).2 = 0 → (chk F T).2 = 0 ∧ SubS (chk E T).1 (chk F T).1) → (chkL E l).2 = 0 → (chkL F l).2 = 0 ∧ SubL (chkL E l).1 (chkL F l).1
  | [], _, _ => by rw [chkL, chkL]; exact ⟨rfl, trivial⟩
  | T :: l, h, k => by
    rw [chkL] at k ⊢
    rw [chkL]
    by_cases c : (chk E T).2 = 0
    · obtain ⟨h1, h2⟩ := h T (.head _) c
      rw [if_pos c] at k ⊢
      rw [if_pos h1]
      by_cases d : (chkL E l).2 = 0
      · obtain ⟨h3, h4⟩ := chkL_grow (fun U hU => h U (.tail _ hU)) d
        rw [if_pos d, if_pos h3]
        exact ⟨rfl, h2, h4⟩
      · rw [if_neg d] at k; exact absurd k d
    · rw [if_neg c] at k; exact absurd k c
theorem chk_grow_node {T : XT} (hop : memL T.op (ruleL.map (·.1)) = true) (h : ∀ U ∈ T.args, (chk E U).2 = 0 → (chk F U).2 = 0 ∧ SubS (chk E U).1 (chk F U).1) (k : (chk E T).2 = 0) : (chk F T).2 = 0 ∧ SubS (chk E T).1 (chk F T).1 := by
  rw [chk_node hop] at k ⊢
  rw [chk_node hop]
  by_cases c : (chkL E T.args).2 = 0
  · obtain ⟨h1, h2⟩ := chkL_grow h c
    rw [if_pos c] at k ⊢
    rw [if_pos h1]
    unfold ruleOut at k ⊢
    by_cases d : mayB (ruleF T.op) (chkL E T.args).1 = true
    · rw [if_pos d, if_pos (may_grow h2 d)]
      have := rule_out_le T.op
      exact ⟨rfl, sub_refl this.1 (by omega)⟩
    · rw [if_neg d] at k; exact absurd k (by decide)
  · rw [if_neg c] at k; exact absurd k c
theorem chk_grow (ht : SubS E.this F.this) (hn : F.names = E.names) (hs : ∀ q, SubS (E.sorts.getD q 0) (F.sorts.getD q 0)) {T : XT} (hg : XGood T) : (chk E T).2 = 0 → (chk F T).2 = 0 ∧ SubS (chk E T).1 (chk F T).1 := by
  have node : ∀ T : XT, nodeOk T → (∀ U ∈ T.args, (chk E U).2 = 0 → (chk F U).2 = 0 ∧ SubS (chk E U).1 (chk F U).1) → (chk E T).2 = 0 → (chk F T).2 = 0 ∧ SubS (chk E T).1 (chk F T).1 := fun T h1 h2 h3 => chk_grow_node h1.1 h2 h3
  have nd : ∀ {T : XT}, XGood T → T.op ≠ litS → T.op ≠ thisS → T.op ≠ varS → nodeOk T := fun {T} h a b c => by
    rcases h.node with ⟨v, _, rfl⟩ | rfl | ⟨nm, rfl⟩ | h
    · exact absurd rfl a
    · exact absurd rfl b
    · exact absurd rfl c
    · exact h
  induction hg with
  | @lit v hv =>
    intro _
    have hk : 0 ≤ v.k ∧ v.k ≤ 5 := by rcases hv with rfl | ⟨b, rfl⟩ | ⟨n, _, _, rfl⟩ | ⟨t, rfl⟩ <;> exact ⟨by show (0 : Int) ≤ _; simp [VT.k, VT.zero, boolV, nrV, textV], by show _ ≤ (5 : Int); simp [VT.k, VT.zero, boolV, nrV, textV]⟩
    have e : ∀ G : SEnv, chk G (litT v) = (2 ^ v.k.toNat, 0) := fun G => by unfold litT; rw [chk]; rfl
    rw [e, e]
    refine ⟨rfl, ?_⟩
    show SubS (2 ^ v.k.toNat) (2 ^ v.k.toNat)
    have h6 : v.k.toNat = 0 ∨ v.k.toNat = 1 ∨ v.k.toNat = 2 ∨ v.k.toNat = 3 ∨ v.k.toNat = 4 ∨ v.k.toNat = 5 := by omega
    rcases h6 with h | h | h | h | h | h <;> rw [h] <;> exact sub_refl (by decide) (by decide)
  | this =>
    intro _
    have e : ∀ G : SEnv, chk G (.mk thisS eS VT.zero []) = (G.this, 0) := fun G => by rw [chk]; rfl
    rw [e, e]; exact ⟨rfl, ht⟩
  | @var nm _ _ _ =>
    have e : ∀ G : SEnv, chk G (.mk varS nm VT.zero []) = (match findL G.names nm with | some q => (G.sorts.getD q 0, 0) | none => (0, 13)) := fun G => by rw [chk]; rfl
    rw [e, e, hn]
    cases findL E.names nm with
    | none => intro h; exact absurd (show (13 : Int) = 0 from h) (by decide)
    | some q => intro _; exact ⟨rfl, hs q⟩
  | get h ih => exact node _ (nd (.get h) (by show getS ≠ _; decide) (by show getS ≠ _; decide) (by show getS ≠ _; decide)) fun U hU => by simp [XT.args, getT] at hU; rw [hU]; exact ih
  | at_ h k ih1 ih2 => exact node _ (nd (.at_ h k) (by show atS ≠ _; decide) (by show atS ≠ _; decide) (by show atS ≠ _; decide)) fun U hU => by simp [XT.args, binT] at hU; rcases hU with rfl | rfl <;> assumption
  | un ho h ih =>
    have hb : ∀ op, (op = notS ∨ op = negS) → op ≠ litS ∧ op ≠ thisS ∧ op ≠ varS := by rintro op (rfl | rfl) <;> decide
    obtain ⟨b1, b2, b3⟩ := hb _ ho
    exact node _ (nd (.un ho h) b1 b2 b3) fun U hU => by simp [XT.args, unT] at hU; rw [hU]; exact ih
  | bin ho h k ih1 ih2 =>
    have hb : ∀ op ∈ binL, op ≠ litS ∧ op ≠ thisS ∧ op ≠ varS := by decide +kernel
    obtain ⟨b1, b2, b3⟩ := hb _ ho
    exact node _ (nd (.bin ho h k) b1 b2 b3) fun U hU => by simp [XT.args, binT] at hU; rcases hU with rfl | rfl <;> assumption
  | @call w l ha hl h ih =>
    have hx : ∀ t, argsN t = 0 → w ≠ t := fun t ht e => by rw [e, ht] at ha; omega
    exact node _ (nd (.call ha hl h) (hx _ (by decide +kernel)) (hx _ (by decide +kernel)) (hx _ (by decide +kernel))) fun U hU => ih U hU
end
end Go.Proofs.YtdlkdecigpaaaaaGreatDoor
