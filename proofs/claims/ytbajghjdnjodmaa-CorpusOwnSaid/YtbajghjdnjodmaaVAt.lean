/- A value under way: its items are made one by one, each behind the others. -/
import Derived.Test.YtbajghjdnjodmaaClone
import Derived.Test.YtbajghjdnjodmaaVSize
namespace Go.Proofs.Ytbajghjdnjodmaa
set_option linter.unusedVariables false
set_option linter.unusedSimpArgs false
open Go.RowKit

/-- Blocks of lo, or from one on; but for B, and for a row's own. -/
def Sr (lo : Nat → Prop) (b B : Nat) (rv : Value) (g : Nat) : Prop := (lo g ∨ b ≤ g) ∧ g ≠ B ∧ rv.ownBlock ≠ some g
/-- Where a value is made: the parameter's box, the result's, the variable's; the items made so far, the keys. -/
structure VAt (w : World) (lo : Nat → Prop) (tp tv : TypeId) (A : Array Value) (Z : Array Value) (T : VT) (ks' : Value) (B : Nat) (i : Nat) (rv : Value) (W : World) : Prop where
  par : W.heap[w.heap.size]? = some (.cells A tp (0, 0))
  res : W.heap[w.heap.size + 1]? = some (.cells Z tv (0, 0))
  var : W.heap[B]? = some (.cells #[.int .i64 T.k, .bool T.b, .int .i64 T.n, .string T.s, rv, ks'] tv (0, 0))
  hlo : ∀ g, lo g → g < w.heap.size
  hB : w.heap.size + 2 ≤ B
  bel : Below w.heap.size w W
  n3 : rv.ownBlock ≠ some B
  row : ∃ cs, W.ownsRow (w.heap.size + 2) tv 6 rv i cs ∧ Rows (VT.Six W (Sr lo (w.heap.size + 2) B rv)) (T.its.take i) cs
  key : Sl W (Sr lo (w.heap.size + 2) B rv) 1 ks' T.ks.length (T.ks.map .string)
theorem six_lt {w : World} {S : Nat → Prop} {l : List VT} {cs : List Value} (h : Rows (VT.Six w S) l cs) : Rows (VT.Six w (fun g => S g ∧ g < w.heap.size)) l cs :=
  six_go (Kc.refl _ _) (fun _ _ _ _ h1 h2 => ⟨h1, hk_lt h2⟩) h
theorem VT.Rep.lt {w : World} {S : Nat → Prop} {T : VT} {vi vk : Value} (h : T.Rep w S vi vk) : T.Rep w (fun g => S g ∧ g < w.heap.size) vi vk :=
  h.into fun _ _ _ _ h1 h2 => ⟨h1, hk_lt h2⟩
theorem Sl.lt {w : World} {S : Nat → Prop} {size n : Nat} {v : Value} {cs : List Value} (h : Sl w S size v n cs) : Sl w (fun g => S g ∧ g < w.heap.size) size v n cs :=
  h.into fun _ _ _ _ h1 h2 => ⟨h1, hk_lt h2⟩
/-- One item more: W0: the item's box is laid; w2: it is made; w3: it is appended. -/
theorem VAt.step {w wr W0 w2 w3 : World} {lo : Nat → Prop} {tp tv : TypeId} {A Z : Array Value} {T : VT} {ks' : Value} {B i : Nat} {rv v' vi vk : Value} {o : Obj} {cs : List Value} {m : Nat} (H : VAt w lo tp tv A Z T ks' B i rv wr) (hi : i < T.its.length)
    (h0 : Below wr.heap.size wr W0) (h2 : Below W0.heap.size W0 w2) (hr : T.its[i].Rep w2 (fun g => lo g ∨ W0.heap.size ≤ g) vi vk) (hg : (w2.alloc o).grownBy w3 rv.ownBlock)
    (hrow : wr.ownsRow (w.heap.size + 2) tv 6 rv i cs) (hrs : Rows (VT.Six wr (Sr lo (w.heap.size + 2) B rv)) (T.its.take i) cs)
    (ho : w3.ownsRow (w.heap.size + 2) tv 6 v' m (cs ++ T.its[i].head vi vk)) (hm : m = i + 1) (hv' : v'.ownBlock = rv.ownBlock ∨ v'.ownBlock = some (w2.alloc o).heap.size) :
    VAt w lo tp tv A Z T ks' B (i + 1) v' (w3.setCell ⟨B, 4, none⟩ v') := by
  subst hm
  have hBl := hk_lt H.var
  have hsz := H.bel.size
  have s0 := h0.size
  have s2 := h2.size
  have hown : ∀ k, rv.ownBlock = some k → w.heap.size + 2 ≤ k ∧ k < wr.heap.size := fun k hk => hrow.lt k hk
  have b2 : Below wr.heap.size wr w2 := bl_step h0 h2
  have up : ∀ {b : Nat} {o' : Obj}, wr.heap[b]? = some o' → rv.ownBlock ≠ some b → w3.heap[b]? = some o' := fun hb hn => hk_grow (hk_alloc (hk_below hb b2) _) hg (Ne.symm hn)
  have szg := hg.size
  rw [World.size_alloc] at szg
  have hnw : ∀ g, v'.ownBlock = some g → rv.ownBlock = some g ∨ g = w2.heap.size + 1 := fun g hgv => by
    rcases hv' with h | h
    · exact .inl (h ▸ hgv)
    · rw [h, World.size_alloc] at hgv; exact .inr (Option.some.inj hgv).symm
  -- old blocks
  have kc : Kc (fun g => Sr lo (w.heap.size + 2) B rv g ∧ g < wr.heap.size) wr (w3.setCell ⟨B, 4, none⟩ v') :=
    fun g x t fr hs hx => hk_set (up hx hs.1.2.2) hs.1.2.1 _
  have km : ∀ g, Sr lo (w.heap.size + 2) B rv g ∧ g < wr.heap.size → Sr lo (w.heap.size + 2) B v' g := fun g hs => ⟨hs.1.1, hs.1.2.1, fun hgv => by
    rcases hnw g hgv with h | h
    · exact hs.1.2.2 h
    · have := hs.2; omega⟩
  -- the new item's
  have hn2 : ∀ g, (lo g ∨ W0.heap.size ≤ g) → g < w2.heap.size → rv.ownBlock ≠ some g ∧ g ≠ B ∧ (lo g ∨ w.heap.size + 2 ≤ g) := fun g hgl _ => by
    rcases hgl with h | h
    · have := H.hlo g h
      have := H.hB
      exact ⟨fun e => by have := (hown g e).1; omega, by omega, .inl h⟩
    · have := H.hB
      exact ⟨fun e => by have := (hown g e).2; omega, by omega, .inr (by omega)⟩
  have kn : Kc (fun g => (lo g ∨ W0.heap.size ≤ g) ∧ g < w2.heap.size) w2 (w3.setCell ⟨B, 4, none⟩ v') := fun g x t fr hs hx => by
    have hn := hn2 g hs.1 hs.2
    exact hk_set (hk_grow (hk_alloc hx _) hg (Ne.symm hn.1)) hn.2.1 _
  have mn : ∀ g, (lo g ∨ W0.heap.size ≤ g) ∧ g < w2.heap.size → Sr lo (w.heap.size + 2) B v' g := fun g hs => by
    have hn := hn2 g hs.1 hs.2
    exact ⟨hn.2.2, hn.2.1, fun hgv => by
      rcases hnw g hgv with h | h
      · exact hn.1 h
      · have := hs.2; omega⟩
  have bw3 : Below w.heap.size w w3 := (bl_alloc (bl_step H.bel b2) o).grown hg (by rw [World.size_alloc]; omega) (fun k e => by have := (hown k e).1; omega)
  have hvB : v'.ownBlock ≠ some B := fun e => by
    rcases hnw B e with h | h
    · exact H.n3 h
    · omega
  refine ⟨hk_set (up H.par (fun e => by have := (hown _ e).1; omega)) (by have := H.hB; dsimp only; omega) _, hk_set (up H.res (fun e => by have := (hown _ e).1; omega)) (by have := H.hB; dsimp only; omega) _, set_to (up H.var H.n3) 4 v' rfl, H.hlo, H.hB, bl_set bw3 (by have := H.hB; dsimp only; omega) _, hvB, ⟨cs ++ T.its[i].head vi vk, ?_, ?_⟩, ?_⟩
  · rcases ho with ⟨h1, h2 | ⟨g, cap, cur, h3, h4, h5, h6⟩⟩
    · exact ⟨h1, .inl h2⟩
    · refine ⟨h1, .inr ⟨g, cap, cur, h3, h4, hk_set h5 (fun e => hvB ?_) _, h6⟩⟩
      rw [h3]; dsimp only at e; rw [← e]; rfl
  · rw [List.take_succ_eq_append_getElem hi]
    exact Rows.snoc ((six_keep kc (six_lt hrs)).mono fun _ _ h => h.go (Kc.refl _ _) fun g _ _ _ hs _ => km g hs) ⟨vi, vk, rfl, (hr.lt.keep kn).mono mn⟩
  · exact (H.key.lt.keep kc).mono km
/-- All items are made, and it is stored as the result. -/
theorem VAt.done {w wr : World} {lo : Nat → Prop} {tp tv : TypeId} {A Z : Array Value} {T : VT} {ks' : Value} {B : Nat} {rv : Value} (H : VAt w lo tp tv A Z T ks' B T.its.length rv wr) {wf : World} (hk : ∀ b o, b ≠ w.heap.size + 1 → wr.heap[b]? = some o → wf.heap[b]? = some o) :
    T.Rep wf (fun g => lo g ∨ w.heap.size ≤ g) rv ks' := by
  obtain ⟨cs, h1, h2⟩ := H.row
  rw [List.take_length] at h2
  have kc : Kc (Sr lo (w.heap.size + 2) B rv) wr wf := fun g x t fr hs hx => hk g _ (fun e => by
    rcases hs.1 with h | h
    · have := H.hlo g h; omega
    · omega) hx
  have ms : ∀ g, Sr lo (w.heap.size + 2) B rv g → lo g ∨ w.heap.size ≤ g := fun g hs => hs.1.imp id (fun h => by omega)
  refine rep_iff.2 ⟨⟨cs, ?_, (six_keep kc h2).mono fun _ _ h => h.go (Kc.refl _ _) fun g _ _ _ hs _ => ms g hs⟩, (H.key.keep kc).mono ms⟩
  have h3 := Sl.of_own h1
  exact (h3.keep fun g x t fr hs hx => hk g _ (by omega) hx).mono fun g h => .inr (by omega)
/-- One element in a block of its own. -/
theorem Sl.one_of {w : World} {S : Nat → Prop} {g : Nat} {cs : Array Value} {t : TypeId} (h : w.heap[g]? = some (.cells cs t (0, 0))) (hS : S g) {size : Nat} (hs : cs.size = size) : Sl w S size (.slice (some ⟨g, 0, none⟩) 1 1) 1 cs.toList :=
  ⟨by simp [hs], _, _, rfl, Nat.le_refl _, fun h => (by cases h), fun _ => ⟨g, 0, rfl, hS, cs, t, _, h, fun j u hj => by simpa using hj, fun j _ h => Nat.not_lt_zero _ h.2⟩⟩
end Go.Proofs.Ytbajghjdnjodmaa
