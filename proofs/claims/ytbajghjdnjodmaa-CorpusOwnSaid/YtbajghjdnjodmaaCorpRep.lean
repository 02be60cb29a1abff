/- Acts, nodes and entries, and what cells of memory hold one; the document's rows as lists. -/
import Derived.Test.YtbajghjdnjodmaaTree
import Derived.Test.YtbajghjdnjodmaaNameB
namespace Go.Proofs.Ytbajghjdnjodmaa
set_option linter.unusedVariables false
set_option linter.unusedSimpArgs false
open Go.RowKit

theorem i64_lit {x : Int} (h : (Lit.int .i64 x).wf = true) : -9223372036854775808 ≤ x ∧ x ≤ 9223372036854775807 := by
  simp only [Lit.wf, Bool.and_eq_true, decide_eq_true_eq] at h; exact h
/-- A part of a value, as it comes in. -/
structure NT where
  k : Int
  n : Int
  s : ByteArray
  its : List Int
  ks : List ByteArray
def NT.wf (a : NT) : Prop := (0 ≤ a.k ∧ a.k ≤ 255) ∧ (-9223372036854775808 ≤ a.n ∧ a.n ≤ 9223372036854775807) ∧ a.s.size ≤ maxLen ∧ a.its.length ≤ maxLen ∧ a.ks.length ≤ maxLen ∧ (∀ d ∈ a.its, 0 ≤ d ∧ d ≤ 255) ∧ ∀ t ∈ a.ks, t.size ≤ maxLen
def NT.Five (w : World) (S : Nat → Prop) (a : NT) (x : List Value) : Prop := a.wf ∧ ∃ vi vk, x = [.int .u8 a.k, .int .i64 a.n, .string a.s, vi, vk] ∧
  Sl w S 1 vi a.its.length (a.its.map (Value.int .u8)) ∧ Sl w S 1 vk a.ks.length (a.ks.map Value.string)
/-- An act. -/
structure AT where
  k : Int
  nm : ByteArray
  nodes : List NT
  has : Bool
  dr : List Int
def AT.wf (a : AT) : Prop := (0 ≤ a.k ∧ a.k ≤ 255) ∧ a.nm.size ≤ maxLen ∧ a.nodes.length ≤ maxLen ∧ a.dr.length ≤ maxLen
def AT.Cells (w : World) (S : Nat → Prop) (a : AT) (vn vd : Value) : Prop := a.wf ∧ (∃ cs, Sl w S 5 vn a.nodes.length cs ∧ Rows (NT.Five w S) a.nodes cs) ∧ Sl w S 1 vd a.dr.length (a.dr.map (Value.int .i64))
def AT.head (a : AT) (vn vd : Value) : List Value := [.int .u8 a.k, .string a.nm, vn, .bool a.has, vd]
abbrev AT.agg (a : AT) (vn vd : Value) : Value := .agg #[.int .u8 a.k, .string a.nm, vn, .bool a.has, vd]
def AT.Five (w : World) (S : Nat → Prop) (a : AT) (x : List Value) : Prop := ∃ vn vd, x = a.head vn vd ∧ a.Cells w S vn vd
/-- A name's entry. -/
structure ET where
  nm : ByteArray
  v : VT
  has : Bool
  st : ByteArray
  dr : List Int
def ET.ok (e : ET) : Prop := e.v.ok ∧ e.dr.length ≤ 40
def ET.Cells (w : World) (S : Nat → Prop) (e : ET) (vi vk vd : Value) : Prop := e.v.Rep w S vi vk ∧ Sl w S 1 vd e.dr.length (e.dr.map (Value.int .i64))
def ET.head (e : ET) (vi vk vd : Value) : List Value := [.string e.nm, .int .i64 e.v.k, .bool e.v.b, .int .i64 e.v.n, .string e.v.s, vi, vk, .bool e.has, .string e.st, vd]
/-- The document's entry: its ten cells. -/
abbrev ET.agg (e : ET) (vi vk vd : Value) : Value := .agg #[.string e.nm, .int .i64 e.v.k, .bool e.v.b, .int .i64 e.v.n, .string e.v.s, vi, vk, .bool e.has, .string e.st, vd]
/-- The program's entry: nine cells. -/
abbrev ET.ent (e : ET) (vi vk vd : Value) : Value := .agg #[.int .i64 e.v.k, .bool e.v.b, .int .i64 e.v.n, .string e.v.s, vi, vk, .bool e.has, .string e.st, vd]
def ET.Ten (w : World) (S : Nat → Prop) (e : ET) (x : List Value) : Prop := ∃ vi vk vd, x = e.head vi vk vd ∧ e.Cells w S vi vk vd
section
variable {S S' : Nat → Prop} {w w' : World}
theorem five_len (a : NT) (x : List Value) (h : a.Five w S x) : x.length = 5 := by obtain ⟨_, _, _, rfl, _⟩ := h; rfl
theorem act_len (a : AT) (x : List Value) (h : a.Five w S x) : x.length = 5 := by obtain ⟨_, _, rfl, _⟩ := h; rfl
theorem ten_len (a : ET) (x : List Value) (h : a.Ten w S x) : x.length = 10 := by obtain ⟨_, _, _, rfl, _⟩ := h; rfl
theorem NT.Five.keep {a : NT} {x : List Value} (h : a.Five w S x) (k : Kc S w w') : a.Five w' S x := by
  obtain ⟨h0, vi, vk, h1, h2, h3⟩ := h; exact ⟨h0, vi, vk, h1, h2.keep k, h3.keep k⟩
theorem AT.Cells.keep {a : AT} {vn vd : Value} (h : a.Cells w S vn vd) (k : Kc S w w') : a.Cells w' S vn vd := by
  obtain ⟨h0, ⟨cs, h1, h2⟩, h3⟩ := h
  exact ⟨h0, ⟨cs, h1.keep k, h2.mono fun _ _ h => h.keep k⟩, h3.keep k⟩
theorem AT.Five.keep {a : AT} {x : List Value} (h : a.Five w S x) (k : Kc S w w') : a.Five w' S x := by
  obtain ⟨vn, vd, h1, h2⟩ := h; exact ⟨vn, vd, h1, h2.keep k⟩
theorem ET.Cells.go {e : ET} {vi vk vd : Value} (h : e.Cells w S vi vk vd) (k : Kc S w w') (j : ∀ g x t fr, S g → w'.heap[g]? = some (.cells x t fr) → S' g) : e.Cells w' S' vi vk vd :=
  ⟨h.1.go k j, (h.2.keep k).into j⟩
theorem ET.Cells.keep {e : ET} {vi vk vd : Value} (h : e.Cells w S vi vk vd) (k : Kc S w w') : e.Cells w' S vi vk vd := h.go k fun _ _ _ _ h _ => h
theorem ET.Ten.go {e : ET} {x : List Value} (h : e.Ten w S x) (k : Kc S w w') (j : ∀ g x t fr, S g → w'.heap[g]? = some (.cells x t fr) → S' g) : e.Ten w' S' x := by
  obtain ⟨vi, vk, vd, h1, h2⟩ := h; exact ⟨vi, vk, vd, h1, h2.go k j⟩
end
def ET.zero : ET := ⟨⟨#[]⟩, VT.zero, false, ⟨#[]⟩, []⟩
theorem ET.zero_ok : ET.zero.ok := ⟨VT.zero_ok, by simp [ET.zero]⟩
/-- The document's row: the slice of its entries. -/
def Doc (w : World) (S : Nat → Prop) (v : Value) (l : List ET) : Prop := ∃ cs, Sl w S 10 v l.length cs ∧ Rows (ET.Ten w S) l cs
theorem Doc.go {w w' : World} {S S' : Nat → Prop} {v : Value} {l : List ET} (h : Doc w S v l) (k : Kc S w w') (j : ∀ g x t fr, S g → w'.heap[g]? = some (.cells x t fr) → S' g) : Doc w' S' v l := by
  obtain ⟨cs, h1, h2⟩ := h; exact ⟨cs, (h1.keep k).into j, h2.mono fun _ _ h => h.go k j⟩
theorem Doc.keep {w w' : World} {S : Nat → Prop} {v : Value} {l : List ET} (h : Doc w S v l) (k : Kc S w w') : Doc w' S v l := h.go k fun _ _ _ _ h _ => h

/-- The place of a name's entry from a place on; none: there is none. -/
def findF (nm : ByteArray) : List ET → Nat → Option Nat
  | [], _ => none
  | e :: l, i => if e.nm = nm then some i else findF nm l (i + 1)
theorem findF_at {nm : ByteArray} : ∀ {l : List ET} {i k : Nat}, findF nm l i = some k → ∃ j e, k = i + j ∧ l[j]? = some e ∧ e.nm = nm ∧ ∀ q d, q < j → l[q]? = some d → d.nm ≠ nm
  | [], _, _, h => by simp [findF] at h
  | e :: l, i, k, h => by
    unfold findF at h
    split at h
    · rename_i he; cases h; exact ⟨0, e, rfl, rfl, he, fun q _ hq => by omega⟩
    · rename_i he
      obtain ⟨j, d, h1, h2, h3, h4⟩ := findF_at h
      refine ⟨j + 1, d, by omega, by simpa using h2, h3, fun q d' hq hd => ?_⟩
      cases q with
      | zero => simp at hd; subst hd; exact he
      | succ q => exact h4 q d' (by omega) (by simpa using hd)
theorem findF_none {nm : ByteArray} : ∀ {l : List ET} {i : Nat}, findF nm l i = none → ∀ e ∈ l, e.nm ≠ nm
  | [], _, _, _, h => by cases h
  | e :: l, i, h, d, hd => by
    unfold findF at h
    split at h
    · cases h
    · rename_i he
      cases hd with
      | head => exact he
      | tail _ hd => exact findF_none h d hd
theorem findF_step {nm : ByteArray} {l : List ET} {i : Nat} {e : ET} (h : l[i]? = some e) (hn : e.nm ≠ nm) : findF nm (l.drop i) i = findF nm (l.drop (i + 1)) (i + 1) := by
  have hl := (List.getElem?_eq_some_iff.1 h).1
  rw [List.drop_eq_getElem_cons hl]
  conv => lhs; unfold findF
  have : l[i] = e := by rw [List.getElem?_eq_getElem hl] at h; exact Option.some.inj h
  rw [this, if_neg hn]
theorem findF_hit {nm : ByteArray} {l : List ET} {i : Nat} {e : ET} (h : l[i]? = some e) (hn : e.nm = nm) : findF nm (l.drop i) i = some i := by
  have hl := (List.getElem?_eq_some_iff.1 h).1
  rw [List.drop_eq_getElem_cons hl]
  unfold findF
  have : l[i] = e := by rw [List.getElem?_eq_getElem hl] at h; exact Option.some.inj h
  rw [this, if_pos hn]
theorem findF_end {nm : ByteArray} {l : List ET} {i : Nat} (h : l.length ≤ i) : findF nm (l.drop i) i = none := by
  rw [List.drop_eq_nil_of_le h]; rfl
/-- Names rise. -/
def Rising (l : List ET) : Prop := l.Pairwise fun a b => Op.bytesLess a.nm.toList b.nm.toList = true
/-- How many names stand before one. -/
def posF (nm : ByteArray) : List ET → Nat
  | [] => 0
  | e :: l => if Op.bytesLess e.nm.toList nm.toList = true then posF nm l + 1 else 0
theorem posF_le (nm : ByteArray) : ∀ l : List ET, posF nm l ≤ l.length
  | [] => Nat.le_refl _
  | e :: l => by unfold posF; split; have := posF_le nm l; simp; omega; simp
def insF (l : List ET) (e : ET) : List ET := l.take (posF e.nm l) ++ e :: l.drop (posF e.nm l)
end Go.Proofs.Ytbajghjdnjodmaa
