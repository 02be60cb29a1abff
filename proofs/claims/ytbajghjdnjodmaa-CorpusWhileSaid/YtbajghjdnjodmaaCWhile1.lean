/- CorpusWhile's closure: an entry is told; something is put or dropped meanwhile. -/
import Derived.Test.YtbajghjdnjodmaaCCopies
namespace Go.Proofs.Ytbajghjdnjodmaa
set_option linter.unusedVariables false
set_option linter.unusedSimpArgs false
open Go.RowKit

/-- From a block on nothing has turned. -/
structure Far (n : Nat) (w w' : World) : Prop where
  block : ∀ j, n ≤ j → j < w.heap.size → w'.heap[j]? = w.heap[j]?
  size : w.heap.size ≤ w'.heap.size
theorem far_below {n : Nat} {w w' : World} (h : Below w.heap.size w w') : Far n w w' := ⟨fun j _ hj => h.block j hj, h.size⟩
theorem far_but {n m : Nat} {w w' : World} (h : But m w w') (hm : m < n) : Far n w w' := ⟨fun j hj hl => h.block j hl (by omega), h.size⟩
theorem far_set {n : Nat} {w : World} {p : Addr} (hp : p.block < n) (v : Value) : Far n w (w.setCell p v) := ⟨fun j hj hl => Below.heap_setCell w p v j (by omega), by simp⟩
theorem Far.trans {n : Nat} {a b c : World} (h : Far n a b) (k : Far n b c) : Far n a c := ⟨fun j hj hl => (k.block j hj (Nat.lt_of_lt_of_le hl h.size)).trans (h.block j hj hl), Nat.le_trans h.size k.size⟩
/-- What the closure has, the k-th time. -/
structure WAt (w0 : World) (g m bo bn bw bm bc bl bt : Nat) (wv mv : Value) (most : Int) (was : List ET) (k : Nat) (W : World) : Prop where
  ok : W.heap[bo]? = some (.cells #[.bool true] 4 (0, 0))
  num : W.heap[bn]? = some (.cells #[.int .i64 k] 3 (0, 0))
  row : W.heap[bw]? = some (.cells #[wv] 61 (0, 0))
  more : W.heap[bm]? = some (.cells #[mv] 43 (0, 0))
  han : W.heap[bc]? = some (.cells #[.pointer (some ⟨g, 0, none⟩)] 24 (0, 0))
  top : W.heap[bt]? = some (.cells #[.int .u8 most] 5 (0, 0))
  doc : Doc W (fun x => x ≠ bo ∧ x ≠ bn ∧ x ≠ bl) wv was
  ne : (bo ≠ bn ∧ bo ≠ bw ∧ bo ≠ bm ∧ bo ≠ bc ∧ bo ≠ bt ∧ bo ≠ bl ∧ bo ≠ g ∧ bo ≠ m) ∧ (bn ≠ bw ∧ bn ≠ bm ∧ bn ≠ bc ∧ bn ≠ bt ∧ bn ≠ bl ∧ bn ≠ g ∧ bn ≠ m) ∧ (bl ≠ bw ∧ bl ≠ bm ∧ bl ≠ bc ∧ bl ≠ bt ∧ bl ≠ g ∧ bl ≠ m)
  own : w0.heap.size ≤ bo ∧ w0.heap.size ≤ bn ∧ w0.heap.size ≤ bl
  cor : ∃ lw q, W.heap[bl]? = some (.cells #[lw] 61 (0, 0)) ∧ CInv (fun x => x ≠ bo ∧ x ≠ bn ∧ x ≠ bl) w0 g m lw q W
section
variable {w0 W W' : World} {g m bo bn bw bm bc bl bt k : Nat} {wv mv : Value} {most : Int} {was : List ET}
theorem WAt.below (h : WAt w0 g m bo bn bw bm bc bl bt wv mv most was k W) (hb : Below W.heap.size W W') : WAt w0 g m bo bn bw bm bc bl bt wv mv most was k W' := by
  obtain ⟨lw, q, h1, h2⟩ := h.cor
  exact ⟨hk_below h.ok hb, hk_below h.num hb, hk_below h.row hb, hk_below h.more hb, hk_below h.han hb, hk_below h.top hb, h.doc.below hb, h.ne, h.own, lw, q, hk_below h1 hb, h2.below hb⟩
/-- Another variable's cell is turned. -/
theorem CInv.set {S : Nat → Prop} {lw : Value} {q : List ET} (h : CInv S w0 g m lw q W) {b : Nat} (hS : ¬ S b) (h1 : g ≠ b) (h2 : m ≠ b) (h3 : w0.heap.size ≤ b) (i : Nat) (v : Value) : CInv S w0 g m lw q (W.setCell ⟨b, i, none⟩ v) :=
  ⟨bl_set h.bel h3 _, hk_set h.han h1 _, h.syn.go (Below.heap_setCell W _ v m h2) (kc_set hS _) (fun _ _ _ _ h _ => h), h.ok, h.doc.keep (kc_set hS _), h.hm⟩
/-- Something was done: the document's new row is laid into its variable. -/
theorem WAt.done (h : WAt w0 g m bo bn bw bm bc bl bt wv mv most was k W) {lw : Value} {q : List ET} (hdoc : Doc W' (fun x => x ≠ bo ∧ x ≠ bn ∧ x ≠ bl) lw q) (hok : DocOk q) (hsy : Syn W' (fun x => x ≠ bo ∧ x ≠ bn ∧ x ≠ bl) m q) (hb : But m W W') : WAt w0 g m bo bn bw bm bc bl bt wv mv most was k (W'.setCell ⟨bl, 0, none⟩ lw) := by
  obtain ⟨lw', q', h1, h2⟩ := h.cor
  obtain ⟨⟨e1, e2, e3, e4, e5, e6, e7, e8⟩, ⟨f1, f2, f3, f4, f5, f6, f7⟩, i1, i2, i3, i4, i5, i6⟩ := h.ne
  have s := h2.syn
  have nb : ∀ {b : Nat} {cs : Array Value} {t : TypeId}, b ≠ bl → W.heap[b]? = some (.cells cs t (0, 0)) → (W'.setCell ⟨bl, 0, none⟩ lw).heap[b]? = some (.cells cs t (0, 0)) := fun hn hx => hk_set (but_cells hb s hx) hn _
  have hS : ¬ (fun x => x ≠ bo ∧ x ≠ bn ∧ x ≠ bl) bl := fun h => h.2.2 rfl
  obtain ⟨es, c, hm⟩ := s.isMap
  exact ⟨nb e6 h.ok, nb f5 h.num, nb i1.symm h.row, nb i2.symm h.more, nb i3.symm h.han, nb i4.symm h.top, (h.doc.keep (but_kc hb hm)).keep (kc_set hS _), h.ne, h.own, lw, q, set_to (but_cells hb s h1) 0 lw rfl, (h2.done hdoc hok hsy hb).set hS i5.symm i6.symm h.own.2.2 0 lw⟩
theorem WAt.sure (h : WAt w0 g m bo bn bw bm bc bl bt wv mv most was k W) : WAt w0 g m bo bn bw bm bc bl bt wv mv most was k (W.setCell ⟨bo, 0, none⟩ (.bool true)) := by
  obtain ⟨lw', q', h1, h2⟩ := h.cor
  obtain ⟨⟨e1, e2, e3, e4, e5, e6, e7, e8⟩, _⟩ := h.ne
  have hS : ¬ (fun x => x ≠ bo ∧ x ≠ bn ∧ x ≠ bl) bo := fun h => h.1 rfl
  exact ⟨set_same h.ok 0 _ rfl, hk_set h.num e1.symm _, hk_set h.row e2.symm _, hk_set h.more e3.symm _, hk_set h.han e4.symm _, hk_set h.top e5.symm _, h.doc.keep (kc_set hS _), h.ne, h.own, lw', q', hk_set h1 e6.symm _, h2.set hS e7.symm e8.symm h.own.1 0 _⟩
theorem WAt.next (h : WAt w0 g m bo bn bw bm bc bl bt wv mv most was k W) : WAt w0 g m bo bn bw bm bc bl bt wv mv most was (k + 1) (W.setCell ⟨bn, 0, none⟩ (.int .i64 (k + 1 : Nat))) := by
  obtain ⟨lw', q', h1, h2⟩ := h.cor
  obtain ⟨⟨e1, _⟩, ⟨f1, f2, f3, f4, f5, f6, f7⟩, _⟩ := h.ne
  have hS : ¬ (fun x => x ≠ bo ∧ x ≠ bn ∧ x ≠ bl) bn := fun h => h.2.1 rfl
  exact ⟨hk_set h.ok e1 _, set_to h.num 0 _ rfl, hk_set h.row f1.symm _, hk_set h.more f2.symm _, hk_set h.han f3.symm _, hk_set h.top f4.symm _, h.doc.keep (kc_set hS _), h.ne, h.own, lw', q', hk_set h1 f5.symm _, h2.set hS f6.symm f7.symm h.own.2.1 0 _⟩
end
end Go.Proofs.Ytbajghjdnjodmaa
