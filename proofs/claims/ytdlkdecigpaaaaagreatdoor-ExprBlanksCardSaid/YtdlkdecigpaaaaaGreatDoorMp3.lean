/- Values as trees, and what cells of memory hold one: plain words, no program in sight but for its types' numbers. -/
import Derived.Maps.AppendAt
import Derived.Test.YtdlkdecigpaaaaaGreatDoorMp1
namespace Go.Proofs.YtdlkdecigpaaaaaGreatDoor
set_option linter.unusedVariables false
set_option linter.unusedSimpArgs false
open Go.RowKit

/-- What is kept of the cells of blocks of S. -/
def Kc (S : Nat → Prop) (w w' : World) : Prop := ∀ g x t fr, S g → w.heap[g]? = some (.cells x t fr) → w'.heap[g]? = some (.cells x t fr)
section
variable {S S' : Nat → Prop} {w w' w1 : World}
theorem Kc.refl (S : Nat → Prop) (w : World) : Kc S w w := fun _ _ _ _ _ h => h
theorem Kc.trans (h : Kc S w w') (k : Kc S w' w1) : Kc S w w1 := fun g x t fr hs e => k g x t fr hs (h g x t fr hs e)
theorem Kc.mono (h : Kc S w w') (hs : ∀ g, S' g → S g) : Kc S' w w' := fun g x t fr k e => h g x t fr (hs g k) e
theorem kc_drew : Kc S w w.drew := fun _ _ _ _ _ h => h
theorem kc_drewN (n : Nat) : Kc S w (w.drewN n) := fun _ _ _ _ _ h => h
theorem kc_below (h : Below w.heap.size w w') : Kc S w w' := fun g _ _ _ _ e => (h.block g (hk_lt e)).trans e
theorem kc_alloc (o : Obj) : Kc S w (w.alloc o) := fun _ _ _ _ _ e => hk_alloc e o
theorem kc_set {p : Addr} (hp : ¬ S p.block) (v : Value) : Kc S w (w.setCell p v) := fun g _ _ _ hs e => hk_set e (fun h => hp (h ▸ hs)) v
theorem kc_grown {row : Option Nat} (h : w.grownBy w' row) (hr : ∀ b, row = some b → ¬ S b) : Kc S w w' := fun g _ _ _ hs e =>
  (h.block g (hk_lt e) (fun h => hr g h.symm hs)).trans e
theorem kc_map {m : Nat} {es : Array MapEntry} {c : Nat} (h : w.grownBy w' (some m)) (hm : w.heap[m]? = some (.map es c)) : Kc S w w' := fun g _ _ _ _ e =>
  (h.block g (hk_lt e) (fun k => by rw [Option.some.inj k, hm] at e; cases e)).trans e
theorem kc_belowN {B : Nat} (h : Below B w w') (hs : ∀ g, S g → g < B) : Kc S w w' := fun g _ _ _ k e => (h.block g (hs g k)).trans e
end

/-- A slice of n elements of so many cells each, that hold cs; where it has elements its block is of S. -/
def Sl (w : World) (S : Nat → Prop) (size : Nat) (v : Value) (n : Nat) (cs : List Value) : Prop :=
  cs.length = n * size ∧ ∃ a c, v = .slice a n c ∧ n ≤ c ∧ (a = none → c = 0) ∧
    (0 < n → ∃ g o, a = some ⟨g, o, none⟩ ∧ S g ∧ ∃ x t fr, w.heap[g]? = some (.cells x t fr) ∧ (∀ j u, cs[j]? = some u → x[o + j]? = some u) ∧ ∀ j, j < cs.length → ¬ (fr.1 ≤ o + j ∧ o + j < fr.2))
section
variable {S S' : Nat → Prop} {w w' : World} {size n : Nat} {v : Value} {cs : List Value}
theorem Sl.keep (h : Sl w S size v n cs) (k : Kc S w w') : Sl w' S size v n cs := by
  obtain ⟨h1, a, c, h2, h3, h4, h5⟩ := h
  refine ⟨h1, a, c, h2, h3, h4, fun hn => ?_⟩
  obtain ⟨g, o, e1, e2, x, t, fr, e3, e4⟩ := h5 hn
  exact ⟨g, o, e1, e2, x, t, fr, k g x t fr e2 e3, e4⟩
theorem Sl.into (h : Sl w S size v n cs) (k : ∀ g x t fr, S g → w.heap[g]? = some (.cells x t fr) → S' g) : Sl w S' size v n cs := by
  obtain ⟨h1, a, c, h2, h3, h4, h5⟩ := h
  refine ⟨h1, a, c, h2, h3, h4, fun hn => ?_⟩
  obtain ⟨g, o, e1, e2, x, t, fr, e3, e4⟩ := h5 hn
  exact ⟨g, o, e1, k g x t fr e2 e3, x, t, fr, e3, e4⟩
theorem Sl.mono (h : Sl w S size v n cs) (k : ∀ g, S g → S' g) : Sl w S' size v n cs := h.into fun g _ _ _ hs _ => k g hs
theorem Sl.nil : Sl w S size (.slice none 0 0) 0 [] := ⟨by simp, none, 0, rfl, Nat.le_refl _, fun _ => rfl, fun h => absurd h (Nat.lt_irrefl _)⟩
theorem Sl.emp (a : Addr) (c : Nat) : Sl w S size (.slice (some a) 0 c) 0 [] := ⟨by simp, _, c, rfl, Nat.zero_le _, fun h => (by cases h), fun h => absurd h (Nat.lt_irrefl _)⟩
theorem Sl.len (h : Sl w S size v n cs) : cs.length = n * size := h.1
theorem Sl.shape (h : Sl w S size v n cs) : ∃ a c, v = .slice a n c ∧ n ≤ c ∧ (a = Option.none → c = 0) := by
  obtain ⟨_, a, c, h2, h3, h4, _⟩ := h; exact ⟨a, c, h2, h3, h4⟩
/-- Where it has elements: its place, and what lies there. -/
theorem Sl.at (h : Sl w S size v n cs) (hn : 0 < n) : ∃ g o c, v = .slice (some ⟨g, o, Option.none⟩) n c ∧ n ≤ c ∧ S g ∧ g < w.heap.size ∧ ∀ j u, cs[j]? = some u → w.cell? ⟨g, o + j, Option.none⟩ = some u := by
  obtain ⟨_, a, c, rfl, h3, h4, h5⟩ := h
  obtain ⟨g, o, rfl, e2, x, t, fr, e3, e4⟩ := h5 hn
  exact ⟨g, o, c, rfl, h3, e2, hk_lt e3, fun j u hj => by simp [World.cell?, e3, e4.1 j u hj]⟩
/-- .. and may be written. -/
theorem Sl.free {g o c : Nat} (h : Sl w S size (.slice (some ⟨g, o, Option.none⟩) n c) n cs) {j : Nat} (hj : j < cs.length) : w.frozen? ⟨g, o + j, Option.none⟩ = false := by
  obtain ⟨h1, a', c', e, h3, h4, h5⟩ := h
  cases e
  have hn : 0 < n := by rcases Nat.eq_zero_or_pos n with h | h; (rw [h] at h1; simp at h1; rw [h1] at hj; simp at hj); exact h
  obtain ⟨g', o', e1, e2, x, t, fr, e3, e4⟩ := h5 hn
  cases e1
  have := e4.2 j hj
  simp only [World.frozen?, e3, Bool.and_eq_false_iff, decide_eq_false_iff_not]
  omega
theorem Sl.empty (h : Sl w S size v 0 cs) : cs = [] := List.eq_nil_of_length_eq_zero (by rw [h.1]; simp)
theorem Sl.of_own {base : Nat} {e : TypeId} (h : w.ownsRow base e size v n cs) : Sl w (base ≤ ·) size v n cs := by
  obtain ⟨h1, ⟨rfl, rfl⟩ | ⟨g, cap, cur, rfl, h2, h3, h4, h5, h6, h7⟩⟩ := h
  · exact ⟨h1, _, _, rfl, Nat.le_refl _, fun _ => rfl, fun h => absurd h (Nat.lt_irrefl _)⟩
  · refine ⟨h1, _, _, rfl, h4, fun h => (by cases h), fun _ => ⟨g, 0, rfl, h2, cur, e, _, h3, fun j u hj => ?_, fun j _ h => Nat.not_lt_zero _ h.2⟩⟩
    rw [← h7] at hj
    rw [Nat.zero_add, ← Array.getElem?_toList]
    rw [List.getElem?_take] at hj
    split at hj
    · exact hj
    · cases hj
/-- Of the slice's own block alone. -/
theorem Sl.into' (h : Sl w S size v n cs) (k : ∀ g, S g → g < w.heap.size → v.ownBlock = some g → S' g) : Sl w S' size v n cs := by
  obtain ⟨h1, a, c, h2, h3, h4, h5⟩ := h
  refine ⟨h1, a, c, h2, h3, h4, fun hn => ?_⟩
  obtain ⟨g, o, e1, e2, x, t, fr, e3, e4⟩ := h5 hn
  exact ⟨g, o, e1, k g e2 (hk_lt e3) (by rw [h2, e1]; rfl), x, t, fr, e3, e4⟩
/-- Its first elements. -/
theorem Sl.take {a : Option Addr} {c k : Nat} (h : Sl w S size (.slice a n c) n cs) (hk : k ≤ n) : Sl w S size (.slice a k c) k (cs.take (k * size)) := by
  obtain ⟨h1, a', c', e, h3, h4, h5⟩ := h
  cases e
  refine ⟨?_, _, _, rfl, Nat.le_trans hk h3, h4, fun h0 => ?_⟩
  · rw [List.length_take, h1]; exact Nat.min_eq_left (Nat.mul_le_mul_right _ hk)
  · obtain ⟨g, o, e1, e2, x, t, fr, e3, e4⟩ := h5 (Nat.lt_of_lt_of_le h0 hk)
    refine ⟨g, o, e1, e2, x, t, fr, e3, fun j u hj => e4.1 j u ?_, fun j hj => e4.2 j (by rw [List.length_take] at hj; omega)⟩
    rw [List.getElem?_take] at hj
    split at hj
    · exact hj
    · cases hj
/-- Its elements behind a place. -/
theorem Sl.drop {g o c k : Nat} (h : Sl w S size (.slice (some ⟨g, o, Option.none⟩) n c) n cs) (hk : k ≤ n) : Sl w S size (.slice (some ⟨g, o + k * size, Option.none⟩) (n - k) (c - k)) (n - k) (cs.drop (k * size)) := by
  obtain ⟨h1, a', c', e, h3, h4, h5⟩ := h
  cases e
  refine ⟨?_, _, _, rfl, by omega, fun h => (by cases h), fun h0 => ?_⟩
  · rw [List.length_drop, h1, Nat.mul_sub_right_distrib]
  · obtain ⟨g', o', e1, e2, x, t, fr, e3, e4⟩ := h5 (by omega)
    cases e1
    refine ⟨g, _, rfl, e2, x, t, fr, e3, fun j u hj => ?_, fun j hj => ?_⟩
    · rw [List.getElem?_drop] at hj
      rw [Nat.add_assoc]
      exact e4.1 _ u hj
    · rw [List.length_drop] at hj
      have := e4.2 (k * size + j) (by omega)
      rw [Nat.add_assoc]
      exact this
end

/-- Elements one behind the other. -/
def Rows {α : Type} (R : α → List Value → Prop) : List α → List Value → Prop
  | [], cs => cs = []
  | a :: l, cs => ∃ x r, cs = x ++ r ∧ R a x ∧ Rows R l r
section
variable {α : Type} {R R' : α → List Value → Prop} {size : Nat}
theorem Rows.mono (hR : ∀ a x, R a x → R' a x) : ∀ {l : List α} {cs : List Value}, Rows R l cs → Rows R' l cs
  | [], _, h => h
  | _ :: _, _, ⟨x, r, h1, h2, h3⟩ => ⟨x, r, h1, hR _ _ h2, Rows.mono hR h3⟩
theorem Rows.monoIn : ∀ {l : List α} {cs : List Value}, (∀ a ∈ l, ∀ x, R a x → R' a x) → Rows R l cs → Rows R' l cs
  | [], _, _, h => h
  | _ :: _, _, hR, ⟨x, r, h1, h2, h3⟩ => ⟨x, r, h1, hR _ (.head _) _ h2, Rows.monoIn (fun a ha => hR a (.tail _ ha)) h3⟩
theorem Rows.len (hs : ∀ a x, R a x → x.length = size) : ∀ {l : List α} {cs : List Value}, Rows R l cs → cs.length = l.length * size
  | [], _, h => by rw [show _ = [] from h]; simp
  | _ :: l, _, ⟨x, r, h1, h2, h3⟩ => by rw [h1, List.length_append, hs _ _ h2, Rows.len hs h3, List.length_cons, Nat.add_mul]; omega
theorem Rows.append : ∀ {l m : List α} {cs ds : List Value}, Rows R l cs → Rows R m ds → Rows R (l ++ m) (cs ++ ds)
  | [], _, _, _, h, k => by rw [show _ = [] from h]; exact k
  | _ :: _, _, _, _, ⟨x, r, h1, h2, h3⟩, k => ⟨x, r ++ _, by rw [h1, List.append_assoc], h2, Rows.append h3 k⟩
theorem Rows.snoc {l : List α} {a : α} {cs x : List Value} (h : Rows R l cs) (k : R a x) : Rows R (l ++ [a]) (cs ++ x) := h.append ⟨x, [], by simp, k, rfl⟩
/-- The element at a place. -/
theorem Rows.get (hs : ∀ a x, R a x → x.length = size) : ∀ {l : List α} {cs : List Value}, Rows R l cs → ∀ {i : Nat} {a : α}, l[i]? = some a → ∃ x, R a x ∧ ∀ c, c < size → cs[i * size + c]? = x[c]?
  | [], _, _, i, a, hi => by simp at hi
  | b :: l, _, ⟨x, r, h1, h2, h3⟩, 0, a, hi => by
    simp at hi; subst hi
    exact ⟨x, h2, fun c hc => by rw [h1, List.getElem?_append_left (by rw [hs _ _ h2]; omega)]; simp⟩
  | b :: l, _, ⟨x, r, h1, h2, h3⟩, i + 1, a, hi => by
    obtain ⟨y, k1, k2⟩ := Rows.get hs h3 (i := i) (a := a) (by simpa using hi)
    refine ⟨y, k1, fun c hc => ?_⟩
    rw [h1, List.getElem?_append_right (by rw [hs _ _ h2, Nat.add_mul]; omega), ← k2 c hc, hs _ _ h2]
    congr 1
    rw [Nat.add_mul]; omega
theorem Rows.take (hs : ∀ a x, R a x → x.length = size) : ∀ {l : List α} {cs : List Value}, Rows R l cs → ∀ k, k ≤ l.length → Rows R (l.take k) (cs.take (k * size))
  | _, _, _, 0, _ => by simp [Rows]
  | [], _, _, k + 1, hk => by simp at hk
  | a :: l, _, ⟨x, r, h1, h2, h3⟩, k + 1, hk => by
    refine ⟨x, r.take (k * size), ?_, h2, Rows.take hs h3 k (by simpa using hk)⟩
    have := hs _ _ h2
    rw [h1, List.take_append, List.take_of_length_le (by rw [this, Nat.add_mul]; omega), this, Nat.add_mul]
    congr 2; omega
theorem Rows.drop (hs : ∀ a x, R a x → x.length = size) : ∀ {l : List α} {cs : List Value}, Rows R l cs → ∀ k, k ≤ l.length → Rows R (l.drop k) (cs.drop (k * size))
  | _, _, h, 0, _ => by simpa using h
  | [], _, _, k + 1, hk => by simp at hk
  | a :: l, _, ⟨x, r, h1, h2, h3⟩, k + 1, hk => by
    have := hs _ _ h2
    have e := Rows.drop hs h3 k (by simpa using hk)
    rw [h1, List.drop_append, this, show (k + 1) * size - size = k * size from by rw [Nat.add_mul]; omega]
    have e2 : List.drop ((k + 1) * size) x = [] := List.drop_of_length_le (by rw [this, Nat.add_mul]; omega)
    rw [e2]
    exact e
/-- One element turned. -/
theorem Rows.set (hs : ∀ a x, R a x → x.length = size) : ∀ {l : List α} {cs : List Value}, Rows R l cs → ∀ {i : Nat} {b : α} {y : List Value}, i < l.length → R b y → Rows R (l.set i b) (cs.take (i * size) ++ y ++ cs.drop ((i + 1) * size))
  | [], _, _, _, _, _, hi, _ => by simp at hi
  | a :: l, _, ⟨x, r, h1, h2, h3⟩, 0, b, y, _, hy => by
    refine ⟨y, r, ?_, hy, h3⟩
    have := hs _ _ h2
    simp only [Nat.zero_mul, List.take_zero, List.nil_append, Nat.zero_add, Nat.one_mul]
    rw [h1, List.drop_append, List.drop_of_length_le (by omega), this]; simp
  | a :: l, _, ⟨x, r, h1, h2, h3⟩, i + 1, b, y, hi, hy => by
    refine ⟨x, _, ?_, h2, Rows.set hs h3 (i := i) (b := b) (by simpa using hi) hy⟩
    have := hs _ _ h2
    rw [h1, List.take_append, List.take_of_length_le (by rw [this, Nat.add_mul]; omega), List.drop_append, List.drop_of_length_le (by rw [this, Nat.add_mul]; omega), this]
    rw [show (i + 1) * size - size = i * size from by rw [Nat.add_mul]; omega, show (i + 1 + 1) * size - size = (i + 1) * size from by rw [Nat.add_mul (i + 1)]; omega]
    simp [List.append_assoc]
theorem Rows.at (hs : ∀ a x, R a x → x.length = size) {l : List α} {cs : List Value} (h : Rows R l cs) {i : Nat} (hi : i < l.length) : ∃ x, R l[i] x ∧ ∀ c, c < size → cs[i * size + c]? = x[c]? := h.get hs (List.getElem?_eq_getElem hi)
end

/-- A value: its kind, its truth, its number, its text, its items, its keys. -/
inductive VT where
  | mk (k : Int) (b : Bool) (n : Int) (s : ByteArray) (its : List VT) (ks : List ByteArray)
def VT.k : VT → Int | .mk k _ _ _ _ _ => k
def VT.b : VT → Bool | .mk _ b _ _ _ _ => b
def VT.n : VT → Int | .mk _ _ n _ _ _ => n
def VT.s : VT → ByteArray | .mk _ _ _ s _ _ => s
def VT.its : VT → List VT | .mk _ _ _ _ l _ => l
def VT.ks : VT → List ByteArray | .mk _ _ _ _ _ l => l
def VT.zero : VT := .mk 0 false 0 ⟨#[]⟩ [] []
def VT.size : VT → Nat
  | .mk _ _ _ _ its _ => 1 + (its.attach.map fun T => VT.size T.1).sum
  decreasing_by have := List.sizeOf_lt_of_mem T.2; simp; omega
def VT.sizes (l : List VT) : Nat := (l.map VT.size).sum
/-- Each has no more keys than items; no key is long. -/
def VT.keyed : VT → Prop
  | .mk _ _ _ _ its ks => (ks.length ≤ its.length ∧ ∀ s ∈ ks, s.size ≤ 60) ∧ ∀ T, ∀ _ : T ∈ its, VT.keyed T
def VT.head (T : VT) (vi vk : Value) : List Value := [.int .i64 T.k, .bool T.b, .int .i64 T.n, .string T.s, vi, vk]
/-- It, as a value of its six cells. -/
abbrev VT.agg (T : VT) (vi vk : Value) : Value := .agg #[.int .i64 T.k, .bool T.b, .int .i64 T.n, .string T.s, vi, vk]
/-- Two cells hold a value's items and keys: it is no deeper than so much. -/
def VT.RepN (w : World) (S : Nat → Prop) : Nat → VT → Value → Value → Prop
  | 0, _, _, _ => False
  | d + 1, T, vi, vk => (∃ cs, Sl w S 6 vi T.its.length cs ∧ Rows (fun U x => ∃ vi vk, x = VT.head U vi vk ∧ VT.RepN w S d U vi vk) T.its cs) ∧ Sl w S 1 vk T.ks.length (T.ks.map .string)
/-- Two cells hold a value's items and keys. -/
def VT.Rep (w : World) (S : Nat → Prop) (T : VT) (vi vk : Value) : Prop := ∃ d, VT.RepN w S d T vi vk
/-- Six cells hold a value. -/
def VT.Six (w : World) (S : Nat → Prop) (T : VT) (x : List Value) : Prop := ∃ vi vk, x = T.head vi vk ∧ T.Rep w S vi vk
theorem six_len {w : World} {S : Nat → Prop} (T : VT) (x : List Value) (h : T.Six w S x) : x.length = 6 := by obtain ⟨_, _, rfl, _⟩ := h; rfl
section
variable {S S' : Nat → Prop} {w w' : World}
theorem repN_up : ∀ {d e : Nat} {T : VT} {vi vk : Value}, d ≤ e → VT.RepN w S d T vi vk → VT.RepN w S e T vi vk
  | 0, _, _, _, _, _, h => h.elim
  | d + 1, 0, _, _, _, he, _ => by omega
  | d + 1, e + 1, _, _, _, he, ⟨⟨cs, h1, h2⟩, h3⟩ => ⟨⟨cs, h1, h2.mono fun _ _ ⟨vi, vk, k1, k2⟩ => ⟨vi, vk, k1, repN_up (by omega) k2⟩⟩, h3⟩
theorem rows_depth : ∀ {l : List VT} {cs : List Value}, Rows (VT.Six w S) l cs → ∃ d, Rows (fun U x => ∃ vi vk, x = VT.head U vi vk ∧ VT.RepN w S d U vi vk) l cs
  | [], _, h => ⟨0, h⟩
  | _ :: _, _, ⟨x, r, h1, ⟨vi, vk, h2, d, h3⟩, h4⟩ => by
    obtain ⟨e, h5⟩ := rows_depth h4
    exact ⟨max d e, x, r, h1, ⟨vi, vk, h2, repN_up (Nat.le_max_left _ _) h3⟩, h5.mono fun _ _ ⟨vi, vk, k1, k2⟩ => ⟨vi, vk, k1, repN_up (Nat.le_max_right _ _) k2⟩⟩
theorem rep_iff {T : VT} {vi vk : Value} : T.Rep w S vi vk ↔ (∃ cs, Sl w S 6 vi T.its.length cs ∧ Rows (VT.Six w S) T.its cs) ∧ Sl w S 1 vk T.ks.length (T.ks.map .string) := by
  constructor
  · rintro ⟨d, h⟩
    cases d with
    | zero => exact h.elim
    | succ d =>
      obtain ⟨⟨cs, h1, h2⟩, h3⟩ := h
      exact ⟨⟨cs, h1, h2.mono fun _ _ ⟨vi, vk, k1, k2⟩ => ⟨vi, vk, k1, d, k2⟩⟩, h3⟩
  · rintro ⟨⟨cs, h1, h2⟩, h3⟩
    obtain ⟨d, h4⟩ := rows_depth h2
    exact ⟨d + 1, ⟨cs, h1, h4⟩, h3⟩
theorem repN_go (k : Kc S w w') (j : ∀ g x t fr, S g → w'.heap[g]? = some (.cells x t fr) → S' g) : ∀ {d : Nat} {T : VT} {vi vk : Value}, VT.RepN w S d T vi vk → VT.RepN w' S' d T vi vk
  | 0, _, _, _, h => h
  | d + 1, _, _, _, ⟨⟨cs, h1, h2⟩, h3⟩ => ⟨⟨cs, (h1.keep k).into j, h2.mono fun _ _ ⟨vi, vk, k1, k2⟩ => ⟨vi, vk, k1, repN_go k j k2⟩⟩, (h3.keep k).into j⟩
theorem VT.Rep.go (k : Kc S w w') (j : ∀ g x t fr, S g → w'.heap[g]? = some (.cells x t fr) → S' g) {T : VT} {vi vk : Value} (h : T.Rep w S vi vk) : T.Rep w' S' vi vk := by
  obtain ⟨d, h⟩ := h; exact ⟨d, repN_go k j h⟩
theorem VT.Rep.keep {T : VT} {vi vk : Value} (h : T.Rep w S vi vk) (k : Kc S w w') : T.Rep w' S vi vk := h.go k fun _ _ _ _ h _ => h
theorem VT.Rep.mono {T : VT} {vi vk : Value} (h : T.Rep w S vi vk) (k : ∀ g, S g → S' g) : T.Rep w S' vi vk := h.go (Kc.refl _ _) fun g _ _ _ h _ => k g h
theorem VT.Rep.into {T : VT} {vi vk : Value} (h : T.Rep w S vi vk) (k : ∀ g x t fr, S g → w.heap[g]? = some (.cells x t fr) → S' g) : T.Rep w S' vi vk := h.go (Kc.refl _ _) k
theorem VT.Six.go (k : Kc S w w') (j : ∀ g x t fr, S g → w'.heap[g]? = some (.cells x t fr) → S' g) {T : VT} {x : List Value} (h : T.Six w S x) : T.Six w' S' x := by
  obtain ⟨vi, vk, h1, h2⟩ := h; exact ⟨vi, vk, h1, h2.go k j⟩
theorem six_go (k : Kc S w w') (j : ∀ g x t fr, S g → w'.heap[g]? = some (.cells x t fr) → S' g) {l : List VT} {cs : List Value} (h : Rows (VT.Six w S) l cs) : Rows (VT.Six w' S') l cs := h.mono fun _ _ => VT.Six.go k j
theorem six_keep (k : Kc S w w') {l : List VT} {cs : List Value} (h : Rows (VT.Six w S) l cs) : Rows (VT.Six w' S) l cs := six_go k (fun _ _ _ _ h _ => h) h
end
theorem rep_shape {w : World} {S : Nat → Prop} {T : VT} {vi vk : Value} (h : T.Rep w S vi vk) : ∃ a1 c1 a2 c2, vi = .slice a1 T.its.length c1 ∧ vk = .slice a2 T.ks.length c2 := by
  obtain ⟨⟨cs, h1, _⟩, h2⟩ := rep_iff.1 h
  obtain ⟨a1, c1, e1, _⟩ := h1.shape
  obtain ⟨a2, c2, e2, _⟩ := h2.shape
  exact ⟨a1, c1, a2, c2, e1, e2⟩
theorem VT.zero_rep (w : World) (S : Nat → Prop) : VT.zero.Rep w S (.slice none 0 0) (.slice none 0 0) := by
  rw [rep_iff]; exact ⟨⟨[], Sl.nil, rfl⟩, Sl.nil⟩
theorem VT.size_its (T : VT) : T.size = 1 + VT.sizes T.its := by
  cases T; rw [VT.size]; simp only [VT.its, VT.sizes]; rw [List.attach_map_val]
theorem VT.size_pos (T : VT) : 1 ≤ T.size := by rw [T.size_its]; omega
theorem VT.sizes_cons (T : VT) (l : List VT) : VT.sizes (T :: l) = T.size + VT.sizes l := by simp [VT.sizes]
theorem VT.sizes_mem : ∀ {l : List VT} {T : VT}, T ∈ l → T.size ≤ VT.sizes l
  | T :: l, T', h => by
    rw [VT.sizes_cons]
    cases h with
    | head => omega
    | tail _ h => have := VT.sizes_mem h; omega
theorem VT.size_mem {T U : VT} (h : U ∈ T.its) : U.size < T.size := by have := VT.sizes_mem h; rw [T.size_its]; omega
theorem VT.sizes_len : ∀ (l : List VT), l.length ≤ VT.sizes l
  | [] => by simp
  | T :: l => by rw [VT.sizes_cons]; have := T.size_pos; have := VT.sizes_len l; simp; omega
theorem VT.its_len (T : VT) : T.its.length < T.size := by have := VT.sizes_len T.its; rw [T.size_its]; omega
theorem VT.sizes_append (l m : List VT) : VT.sizes (l ++ m) = VT.sizes l + VT.sizes m := by simp [VT.sizes]
theorem VT.keyed_iff {T : VT} : T.keyed ↔ (T.ks.length ≤ T.its.length ∧ ∀ s ∈ T.ks, s.size ≤ 60) ∧ ∀ U ∈ T.its, U.keyed := by
  cases T; rw [VT.keyed]; simp only [VT.its, VT.ks]
/-- A good one: of at most 40 parts, with no more keys than items. -/
def VT.ok (T : VT) : Prop := T.size ≤ 40 ∧ T.keyed
theorem VT.ok.item {T U : VT} (h : T.ok) (hU : U ∈ T.its) : U.ok := ⟨by have := VT.size_mem hU; have := h.1; omega, (VT.keyed_iff.1 h.2).2 U hU⟩
theorem VT.ok.its {T : VT} (h : T.ok) : T.its.length ≤ 39 := by have := T.its_len; have := h.1; omega
theorem VT.ok.ks {T : VT} (h : T.ok) : T.ks.length ≤ 39 := by have := h.its; have := (VT.keyed_iff.1 h.2).1.1; omega
theorem VT.zero_ok : VT.zero.ok := by
  refine ⟨?_, VT.keyed_iff.2 ⟨⟨by simp [VT.zero, VT.ks, VT.its], by simp [VT.zero, VT.ks]⟩, by simp [VT.zero, VT.its]⟩⟩
  rw [VT.size_its]; simp [VT.zero, VT.its, VT.sizes]

end Go.Proofs.YtdlkdecigpaaaaaGreatDoor
