/- chevallaw03.Tree: the value of a list's nodes: one of at most 40 parts. -/
import Derived.Test.YtbajghjdnjodmaaVPutN
import Derived.Test.YtbajghjdnjodmaaPts
import Derived.Test.YtbajghjdnjodmaaVSize
namespace Go.Proofs.Ytbajghjdnjodmaa
set_option linter.unusedVariables false
set_option linter.unusedSimpArgs false
open Go.RowKit

/-- What Tree carries: its result's variable, the row of all values. -/
structure TAt (w : World) (A n : Nat) (ts : List VT) (W : World) : Prop where
  bel : Below w.heap.size w W
  res : W.heap[w.heap.size]? = some (.cells #[.int .i64 0, .bool false, .int .i64 0, .string ⟨#[]⟩, .slice none 0 0, .slice none 0 0] 46 (0, 0))
  all : ∃ cur, W.heap[A]? = some (.cells cur 46 (0, 0)) ∧ Rows (VT.Six W (fun g => g ≠ A ∧ w.heap.size < g)) ts cur.toList
  len : ts.length = n
  ok : ∀ T ∈ ts, T.ok
  hA : w.heap.size < A
theorem TAt.go {w W W' : World} {A n : Nat} {ts : List VT} (h : TAt w A n ts W) (hb : Below W.heap.size W W') : TAt w A n ts W' := by
  obtain ⟨cur, h1, h2⟩ := h.all
  exact ⟨bl_step h.bel hb, hk_below h.res hb, ⟨cur, hk_below h1 hb, six_keep (kc_below hb) h2⟩, h.len, h.ok, h.hA⟩
theorem set6 {l : List Value} {n : Nat} (h : n + 6 ≤ l.length) (a0 a1 a2 a3 a4 a5 : Value) : ((((((l.set n a0).set (n + 1) a1).set (n + 2) a2).set (n + 3) a3).set (n + 4) a4).set (n + 5) a5) = l.take n ++ [a0, a1, a2, a3, a4, a5] ++ l.drop (n + 6) := by
  obtain ⟨r, hr⟩ : ∃ r, r = l.drop n := ⟨_, rfl⟩
  have hl : l = l.take n ++ r := by rw [hr, List.take_append_drop]
  have hrl : 6 ≤ r.length := by rw [hr, List.length_drop]; omega
  have hd : l.drop (n + 6) = r.drop 6 := by rw [hr, List.drop_drop]
  have hn : (l.take n).length = n := by rw [List.length_take]; omega
  rw [hd]
  generalize hp : l.take n = p at *
  rw [hl]
  clear hd hr hl hp h
  match r, hrl with
  | x0 :: x1 :: x2 :: x3 :: x4 :: x5 :: r, _ =>
    subst hn
    simp [List.set_append]
theorem set6_blk {W : World} {A n : Nat} {t : TypeId} {cur : Array Value} (h : W.heap[A]? = some (.cells cur t (0, 0))) (hn : n + 6 ≤ cur.size) (a0 a1 a2 a3 a4 a5 : Value) :
    ((((((W.setCell ⟨A, n, none⟩ a0).setCell ⟨A, n + 1, none⟩ a1).setCell ⟨A, n + 2, none⟩ a2).setCell ⟨A, n + 3, none⟩ a3).setCell ⟨A, n + 4, none⟩ a4).setCell ⟨A, n + 5, none⟩ a5).heap[A]? = some (.cells (cur.toList.take n ++ [a0, a1, a2, a3, a4, a5] ++ cur.toList.drop (n + 6)).toArray t (0, 0)) := by
  have := set_to (set_to (set_to (set_to (set_to (set_to h n a0 rfl) (n + 1) a1 rfl) (n + 2) a2 rfl) (n + 3) a3 rfl) (n + 4) a4 rfl) (n + 5) a5 rfl
  have e : ((((((cur.setIfInBounds n a0).setIfInBounds (n + 1) a1).setIfInBounds (n + 2) a2).setIfInBounds (n + 3) a3).setIfInBounds (n + 4) a4).setIfInBounds (n + 5) a5) = (cur.toList.take n ++ [a0, a1, a2, a3, a4, a5] ++ cur.toList.drop (n + 6)).toArray := by
    rw [← set6 (l := cur.toList) (by simpa using hn) a0 a1 a2 a3 a4 a5, ← Array.toList_inj]
    simp only [Array.toList_setIfInBounds]
  rw [e] at this
  exact this
/-- A value is put into the row. -/
theorem TAt.store {w W : World} {A n i : Nat} {ts : List VT} (h : TAt w A n ts W) (hi : i < n) {T : VT} (hok : T.ok) {vi vk : Value} (hr : T.Rep W (fun g => g ≠ A ∧ w.heap.size < g) vi vk) :
    TAt w A n (ts.set i T) ((((((W.setCell ⟨A, i * 6, none⟩ (.int .i64 T.k)).setCell ⟨A, i * 6 + 1, none⟩ (.bool T.b)).setCell ⟨A, i * 6 + 2, none⟩ (.int .i64 T.n)).setCell ⟨A, i * 6 + 3, none⟩ (.string T.s)).setCell ⟨A, i * 6 + 4, none⟩ vi).setCell ⟨A, i * 6 + 5, none⟩ vk) := by
  obtain ⟨cur, h1, h2⟩ := h.all
  have hA := h.hA
  have hl := h2.len six_len
  rw [h.len] at hl
  have hc : i * 6 + 6 ≤ cur.size := by rw [← Array.length_toList, hl]; omega
  have hk : Kc (fun g => g ≠ A ∧ w.heap.size < g) W ((((((W.setCell ⟨A, i * 6, none⟩ (.int .i64 T.k)).setCell ⟨A, i * 6 + 1, none⟩ (.bool T.b)).setCell ⟨A, i * 6 + 2, none⟩ (.int .i64 T.n)).setCell ⟨A, i * 6 + 3, none⟩ (.string T.s)).setCell ⟨A, i * 6 + 4, none⟩ vi).setCell ⟨A, i * 6 + 5, none⟩ vk) :=
    (((((kc_set (fun h => h.1 rfl) _).trans (kc_set (fun h => h.1 rfl) _)).trans (kc_set (fun h => h.1 rfl) _)).trans (kc_set (fun h => h.1 rfl) _)).trans (kc_set (fun h => h.1 rfl) _)).trans (kc_set (fun h => h.1 rfl) _)
  refine ⟨by ((repeat (first | with_reducible exact h.bel | with_reducible exact Below.refl _ _ | with_reducible refine bl_drew ?_ | with_reducible refine bl_alloc ?_ _ | with_reducible refine bl_set ?_ (by dsimp only; omega) _)); done), by ((repeat (first | with_reducible exact h.res | with_reducible exact new_blk _ _ | with_reducible exact new_blk1 _ _ _ | with_reducible exact new_blk2 _ _ _ _ | with_reducible refine hk_drew ?_ | with_reducible refine hk_alloc ?_ _ | with_reducible refine hk_set ?_ (by dsimp only; omega) _)); done), ⟨_, set6_blk h1 hc _ _ _ _ _ _, ?_⟩, by rw [List.length_set]; exact h.len, fun X hX => ?_, h.hA⟩
  · have := Rows.set six_len (six_keep hk h2) (i := i) (b := T) (y := T.head vi vk) (by rw [h.len]; exact hi) ⟨vi, vk, rfl, hr.keep hk⟩
    rw [show (i + 1) * 6 = i * 6 + 6 from by omega] at this
    exact this
  · rcases List.mem_or_eq_of_mem_set hX with h' | h'
    · exact h.ok X h'
    · rw [h']; exact hok
/-- The cells of a value of the row. -/
theorem TAt.cells {w W : World} {A n i : Nat} {ts : List VT} (h : TAt w A n ts W) (hi : i < n) :
    ∃ (T : VT) (a1 : Option Addr) (c1 : Nat) (a2 : Option Addr) (c2 : Nat), T.ok ∧ T.Rep W (fun g => g ≠ A ∧ w.heap.size < g) (.slice a1 T.its.length c1) (.slice a2 T.ks.length c2) ∧ W.cell? ⟨A, i * 6, none⟩ = some (.int .i64 T.k) ∧ W.cell? ⟨A, i * 6 + 1, none⟩ = some (.bool T.b) ∧ W.cell? ⟨A, i * 6 + 2, none⟩ = some (.int .i64 T.n) ∧
      W.cell? ⟨A, i * 6 + 3, none⟩ = some (.string T.s) ∧ W.cell? ⟨A, i * 6 + 4, none⟩ = some (.slice a1 T.its.length c1) ∧ W.cell? ⟨A, i * 6 + 5, none⟩ = some (.slice a2 T.ks.length c2) := by
  obtain ⟨cur, h1, h2⟩ := h.all
  have hl : i < ts.length := by rw [h.len]; exact hi
  obtain ⟨vi, vk, h3, h4⟩ := six_cells (g := A) (o := 0) h2 (fun j u hj => by rw [Nat.zero_add, cell_blk h1 j, ← Array.getElem?_toList]; exact hj) hl
  rw [Nat.zero_add] at h4
  obtain ⟨a1, c1, a2, c2, rfl, rfl⟩ := rep_shape h3
  exact ⟨ts[i], a1, c1, a2, c2, h.ok _ (List.getElem_mem hl), h3, h4⟩
/-- The nodes, whatever has been made. -/
theorem five_cells {w : World} {S : Nat → Prop} {l : List NT} {cs : List Value} {g o : Nat} (hr : Rows (NT.Five w S) l cs) (hc : ∀ j u, cs[j]? = some u → w.cell? ⟨g, o + j, none⟩ = some u) {i : Nat} (hi : i < l.length) :
    ∃ vi vk, l[i].wf ∧ Sl w S 1 vi l[i].its.length (l[i].its.map (Value.int .u8)) ∧ Sl w S 1 vk l[i].ks.length (l[i].ks.map Value.string) ∧ w.cell? ⟨g, o + i * 5, none⟩ = some (.int .u8 l[i].k) ∧ w.cell? ⟨g, o + i * 5 + 1, none⟩ = some (.int .i64 l[i].n) ∧ w.cell? ⟨g, o + i * 5 + 2, none⟩ = some (.string l[i].s) ∧
      w.cell? ⟨g, o + i * 5 + 3, none⟩ = some vi ∧ w.cell? ⟨g, o + i * 5 + 4, none⟩ = some vk := by
  obtain ⟨x, ⟨hw, vi, vk, rfl, h2, h2'⟩, h3⟩ := hr.at five_len hi
  refine ⟨vi, vk, hw, h2, h2', hc _ _ (h3 0 (by omega)), ?_, ?_, ?_, ?_⟩
  · rw [Nat.add_assoc]; exact hc _ _ (h3 1 (by omega))
  · rw [Nat.add_assoc]; exact hc _ _ (h3 2 (by omega))
  · rw [Nat.add_assoc]; exact hc _ _ (h3 3 (by omega))
  · rw [Nat.add_assoc]; exact hc _ _ (h3 4 (by omega))
theorem rows_zero (w : World) (S : Nat → Prop) : ∀ n, Rows (VT.Six w S) (List.replicate n VT.zero) (List.replicate n (VT.zero.head (.slice none 0 0) (.slice none 0 0))).flatten
  | 0 => rfl
  | n + 1 => ⟨_, _, by rw [List.replicate_succ, List.flatten_cons], ⟨_, _, rfl, VT.zero_rep w S⟩, by exact rows_zero w S n⟩
abbrev zeroV : Array Value := #[.int .i64 0, .bool false, .int .i64 0, .string ⟨#[]⟩, .slice none 0 0, .slice none 0 0]
theorem run_make_v (w : World) (i : Nat) (hi : i ≤ 12) : (Instr.makeSlice 44 (.int .i64 i) (.int .i64 i)).run Try.prog w = .ok (.slice (some ⟨w.heap.size, 0, none⟩) i i) (w.alloc (.cells (madeCells zeroV (i * 6)) 46)) := by
  obtain ⟨i0, hi0, hz0, hz1, hz2⟩ := info_parts elem_r.hi
  have h := run_make (P := Try.prog) w 44 46 i0 _ Try.underlying44 hi0 hz0 .i64 .i64 i i (by omega) (Int.le_refl _) (by rw [hz2]; omega) (by omega)
  rw [hz1, show (VT.zero.agg (.slice none 0 0) (.slice none 0 0)).cells = zeroV from rfl] at h
  simpa using h
set_option maxRecDepth 20000 in
theorem made_v : ∀ n, n ≤ 12 → (madeCells zeroV (n * 6)).toList = (List.replicate n (VT.zero.head (.slice none 0 0) (.slice none 0 0))).flatten
  | 0, _ => (by kernel_rfl) | 1, _ => (by kernel_rfl) | 2, _ => (by kernel_rfl) | 3, _ => (by kernel_rfl) | 4, _ => (by kernel_rfl) | 5, _ => (by kernel_rfl) | 6, _ => (by kernel_rfl) | 7, _ => (by kernel_rfl) | 8, _ => (by kernel_rfl) | 9, _ => (by kernel_rfl) | 10, _ => (by kernel_rfl) | 11, _ => (by kernel_rfl) | 12, _ => (by kernel_rfl)
  | n + 13, h => absurd h (by omega)
/-- What a round carries: its node, the value that is made, all else as it was. -/
structure NB (wr : World) (a : NT) (vi vk : Value) (cells : Array Value) (W : World) : Prop where
  x : W.heap[wr.heap.size]? = some (.cells #[.int .u8 a.k, .int .i64 a.n, .string a.s, vi, vk] 92 (0, 0))
  v : W.heap[wr.heap.size + 1]? = some (.cells cells 46 (0, 0))
  bel : Below wr.heap.size wr W
theorem NB.below {wr W W' : World} {a : NT} {vi vk : Value} {cells : Array Value} (h : NB wr a vi vk cells W) (hb : Below W.heap.size W W') : NB wr a vi vk cells W' := ⟨hk_below h.x hb, hk_below h.v hb, bl_step h.bel hb⟩
theorem NB.set {wr W : World} {a : NT} {vi vk : Value} {cells cells' : Array Value} (h : NB wr a vi vk cells W) (i : Nat) (u : Value) (e : cells.setIfInBounds i u = cells') : NB wr a vi vk cells' (W.setCell ⟨wr.heap.size + 1, i, none⟩ u) :=
  ⟨hk_set h.x (by dsimp only; omega) _, set_to h.v i u e, bl_set h.bel (by dsimp only; omega) _⟩
/-- The round's value. -/
def Made (w wr : World) (A : Nat) (a : NT) (vi vk : Value) (T : VT) (a1 : Option Addr) (c1 : Nat) (a2 : Option Addr) (c2 : Nat) (W : World) : Prop :=
  T.ok ∧ NB wr a vi vk #[.int .i64 T.k, .bool T.b, .int .i64 T.n, .string T.s, .slice a1 T.its.length c1, .slice a2 T.ks.length c2] W ∧ T.Rep W (fun g => g ≠ A ∧ w.heap.size < g ∧ g ≠ wr.heap.size + 1) (.slice a1 T.its.length c1) (.slice a2 T.ks.length c2)
theorem leaf_ok (k : Int) (b : Bool) (n : Int) (s : ByteArray) : (VT.mk k b n s [] []).ok := ⟨by rw [VT.size_its]; simp [VT.its, VT.sizes], VT.keyed_iff.2 ⟨⟨Nat.le_refl _, fun s hs => by cases hs⟩, fun U hU => by cases hU⟩⟩
theorem leaf_rep (w : World) (S : Nat → Prop) (k : Int) (b : Bool) (n : Int) (s : ByteArray) : (VT.mk k b n s [] []).Rep w S (.slice none 0 0) (.slice none 0 0) := by
  rw [rep_iff]; exact ⟨⟨[], Sl.nil, rfl⟩, Sl.nil⟩
theorem leaf_made {w wr W : World} {A : Nat} {a : NT} {vi vk : Value} {k : Int} {b : Bool} {n : Int} {s : ByteArray} (h : NB wr a vi vk #[.int .i64 k, .bool b, .int .i64 n, .string s, .slice none 0 0, .slice none 0 0] W) : Made w wr A a vi vk (VT.mk k b n s [] []) none 0 none 0 W :=
  ⟨leaf_ok _ _ _ _, h, leaf_rep _ _ _ _ _ _⟩
theorem kind_six {k : Int} (h0 : 0 ≤ k) (h1 : k ≤ 255) : ∃ q : Int, (q = 0 ∨ q = 1 ∨ q = 2 ∨ q = 3 ∨ q = 4 ∨ q = 5) ∧ wrap64 (k.tmod 6) = q := by
  refine ⟨k % 6, by omega, ?_⟩
  rw [Int.tmod_eq_emod_of_nonneg h0]
  simp only [wrap64]; omega
/-- A value of the row, in whatever world comes behind. -/
theorem TAt.later {w wr : World} {A n i : Nat} {ts : List VT} (h : TAt w A n ts wr) (hi : i < n) :
    ∃ (U : VT) (a1 : Option Addr) (c1 : Nat) (a2 : Option Addr) (c2 : Nat), U.ok ∧ ∀ W : World, Below wr.heap.size wr W → U.Rep W (fun g => g ≠ A ∧ w.heap.size < g ∧ g < wr.heap.size) (.slice a1 U.its.length c1) (.slice a2 U.ks.length c2) ∧ W.cell? ⟨A, i * 6, none⟩ = some (.int .i64 U.k) ∧ W.cell? ⟨A, i * 6 + 1, none⟩ = some (.bool U.b) ∧ W.cell? ⟨A, i * 6 + 2, none⟩ = some (.int .i64 U.n) ∧
      W.cell? ⟨A, i * 6 + 3, none⟩ = some (.string U.s) ∧ W.cell? ⟨A, i * 6 + 4, none⟩ = some (.slice a1 U.its.length c1) ∧ W.cell? ⟨A, i * 6 + 5, none⟩ = some (.slice a2 U.ks.length c2) := by
  obtain ⟨U, a1, c1, a2, c2, h0, h1, d0, d1, d2, d3, d4, d5⟩ := h.cells hi
  obtain ⟨cur, hcur, _⟩ := h.all
  have hA := hk_lt hcur
  refine ⟨U, a1, c1, a2, c2, h0, fun W hb => ⟨(h1.lt.keep (kc_below hb)).mono fun g h => ⟨h.1.1, h.1.2, h.2⟩, ?_⟩⟩
  have hc := fun o => hb.cell (p := ⟨A, o, none⟩) hA
  rw [hc, hc, hc, hc, hc, hc]
  exact ⟨d0, d1, d2, d3, d4, d5⟩
/-- The value of items on its way: a list's row is the call's own; an object has as many keys as items. -/
structure QRep (w wr : World) (A : Nat) (a : NT) (vi vk : Value) (q : Int) (T : VT) (b1 : Option Addr) (e1 : Nat) (b2 : Option Addr) (e2 : Nat) (W : World) : Prop where
  k : T.k = q
  made : Made w wr A a vi vk T b1 e1 b2 e2 W
  four : q = 4 → T.ks = [] ∧ ∃ cs, W.ownsRow (wr.heap.size + 2) 46 6 (.slice b1 T.its.length e1) T.its.length cs ∧ Rows (VT.Six W (fun g => g ≠ A ∧ w.heap.size < g ∧ g < wr.heap.size)) T.its cs
  five : q = 5 → T.ks.length = T.its.length ∧ (T.its = [] → b1 = none ∧ e1 = 0 ∧ b2 = none ∧ e2 = 0)
theorem Made.below {w wr W W' : World} {A : Nat} {a : NT} {vi vk : Value} {T : VT} {b1 b2 : Option Addr} {e1 e2 : Nat} (h : Made w wr A a vi vk T b1 e1 b2 e2 W) (hb : Below W.heap.size W W') : Made w wr A a vi vk T b1 e1 b2 e2 W' :=
  ⟨h.1, h.2.1.below hb, h.2.2.keep (kc_below hb)⟩
theorem QRep.below {w wr W W' : World} {A : Nat} {a : NT} {vi vk : Value} {q : Int} {T : VT} {b1 b2 : Option Addr} {e1 e2 : Nat} (h : QRep w wr A a vi vk q T b1 e1 b2 e2 W) (hb : Below W.heap.size W W') : QRep w wr A a vi vk q T b1 e1 b2 e2 W' :=
  ⟨h.k, h.made.below hb, fun hq => ⟨(h.four hq).1, by obtain ⟨cs, h1, h2⟩ := (h.four hq).2; exact ⟨cs, own_below h1 hb, six_keep (kc_below hb) h2⟩⟩, h.five⟩
theorem q_start {w wr W : World} {A : Nat} {a : NT} {vi vk : Value} {q : Int} (h : NB wr a vi vk #[.int .i64 q, .bool false, .int .i64 0, .string ⟨#[]⟩, .slice none 0 0, .slice none 0 0] W) : QRep w wr A a vi vk q (VT.mk q false 0 ⟨#[]⟩ [] []) none 0 none 0 W :=
  ⟨rfl, leaf_made h, fun _ => ⟨rfl, [], World.ownsRow_nil _ _ _ _, rfl⟩, fun _ => ⟨rfl, fun _ => ⟨rfl, rfl, rfl, rfl⟩⟩⟩
/-- A list has an item more. -/
theorem q_four {w wr wk W0 w3 : World} {A : Nat} {a : NT} {vi vk : Value} {T U : VT} {b1 b2 a1 a2 : Option Addr} {e1 e2 c1 c2 : Nat} {cs : List Value} {v' : Value} (h : QRep w wr A a vi vk 4 T b1 e1 b2 e2 wk) (hA : A < wr.heap.size) (hw : w.heap.size < wr.heap.size)
    (hrs : Rows (VT.Six wk (fun g => g ≠ A ∧ w.heap.size < g ∧ g < wr.heap.size)) T.its cs) (hU : U.Rep wk (fun g => g ≠ A ∧ w.heap.size < g ∧ g < wr.heap.size) (.slice a1 U.its.length c1) (.slice a2 U.ks.length c2)) (hok : U.ok) (hsz : T.size + U.size ≤ 40) (hW0 : Below wk.heap.size wk W0)
    (how : wk.ownsRow (wr.heap.size + 2) 46 6 (.slice b1 T.its.length e1) T.its.length cs) (hg : W0.grownBy w3 (Value.slice b1 T.its.length e1).ownBlock) (ho : w3.ownsRow (wr.heap.size + 2) 46 6 v' (T.its.length + 1) (cs ++ U.head (.slice a1 U.its.length c1) (.slice a2 U.ks.length c2))) :
    ∃ b e, v' = .slice b (T.its.length + 1) e ∧ w3.heap[wr.heap.size + 1]? = some (.cells #[.int .i64 T.k, .bool T.b, .int .i64 T.n, .string T.s, .slice b1 T.its.length e1, .slice b2 T.ks.length e2] 46 (0, 0)) ∧ QRep w wr A a vi vk 4 (VT.mk T.k T.b T.n T.s (T.its ++ [U]) []) b e b2 e2 (w3.setCell ⟨wr.heap.size + 1, 4, none⟩ v') := by
  obtain ⟨b, e, hv⟩ := own_slice ho
  have el : (T.its ++ [U]).length = T.its.length + 1 := by simp
  have hks := (h.four rfl).1
  have hN := h.made.2.1.below hW0
  have hgr : ∀ g, some g = (Value.slice b1 T.its.length e1).ownBlock → wr.heap.size + 2 ≤ g := fun g hx => how.lt g hx.symm |>.1
  have hN3 : NB wr a vi vk #[.int .i64 T.k, .bool T.b, .int .i64 T.n, .string T.s, .slice b1 T.its.length e1, .slice b2 T.ks.length e2] w3 :=
    ⟨hk_grow hN.x hg (fun x => by have := hgr _ x; omega), hk_grow hN.v hg (fun x => by have := hgr _ x; omega), hN.bel.grown hg hN.bel.size fun g x => by have := hgr g x.symm; omega⟩
  have kc : Kc (fun g => g ≠ A ∧ w.heap.size < g ∧ g < wr.heap.size) wk (w3.setCell ⟨wr.heap.size + 1, 4, none⟩ v') :=
    (((kc_below hW0).trans (kc_grown hg fun g x hs => by have := hgr g x.symm; omega))).trans (kc_set (fun hs => by have := hs.2.2; dsimp only at this; omega) _)
  have hrows : Rows (VT.Six (w3.setCell ⟨wr.heap.size + 1, 4, none⟩ v') (fun g => g ≠ A ∧ w.heap.size < g ∧ g < wr.heap.size)) (T.its ++ [U]) (cs ++ U.head (.slice a1 U.its.length c1) (.slice a2 U.ks.length c2)) := (six_keep kc hrs).snoc ⟨_, _, rfl, hU.keep kc⟩
  have ho4 : (w3.setCell ⟨wr.heap.size + 1, 4, none⟩ v').ownsRow (wr.heap.size + 2) 46 6 v' (T.its.length + 1) (cs ++ U.head (.slice a1 U.its.length c1) (.slice a2 U.ks.length c2)) := by
    refine ho.kept (row := some (wr.heap.size + 1)) ⟨rfl, rfl, rfl, by simp, fun k hk hne => Below.heap_setCell _ _ _ _ (fun e => hne (by rw [e]))⟩ (.inr fun x => by have := (ho.lt _ x).1; omega)
  refine ⟨b, e, hv, hN3.v, h.k, ⟨?_, ?_, ?_⟩, fun _ => ⟨rfl, _, ?_, hrows⟩, fun x => by cases x⟩
  · refine ⟨?_, VT.keyed_iff.2 ⟨⟨Nat.zero_le _, fun s hs => by cases hs⟩, fun X hX => ?_⟩⟩
    · rw [VT.size_its]; show 1 + VT.sizes (T.its ++ [U]) ≤ 40
      rw [VT.sizes_append, VT.sizes_cons]; rw [T.size_its] at hsz; simp [VT.sizes] at hsz ⊢; omega
    · rcases List.mem_append.1 (show X ∈ T.its ++ [U] from hX) with h' | h'
      · exact (h.made.1.item h').2
      · rw [List.mem_singleton.1 h']; exact hok.2
  · have := hN3.set 4 v' rfl
    rw [hks] at this
    rw [hv] at this ⊢
    rw [show (VT.mk T.k T.b T.n T.s (T.its ++ [U]) []).its.length = T.its.length + 1 from el]
    exact this
  · rw [rep_iff]
    refine ⟨⟨_, ?_, six_go (Kc.refl _ _) (fun g _ _ _ hs _ => ⟨hs.1, hs.2.1, by have := hs.2.2; omega⟩) hrows⟩, ?_⟩
    · rw [show (VT.mk T.k T.b T.n T.s (T.its ++ [U]) []).its.length = T.its.length + 1 from el, ← hv]
      exact Sl.of_row ho4 fun g g1 _ _ => by omega
    · have := (rep_iff.1 h.made.2.2).2
      rw [hks] at this
      exact ⟨rfl, by obtain ⟨_, a', c', e1, e2, e3, _⟩ := this; exact ⟨a', c', e1, e2, e3, fun h0 => absurd h0 (Nat.lt_irrefl _)⟩⟩
  · rw [show (VT.mk T.k T.b T.n T.s (T.its ++ [U]) []).its.length = T.its.length + 1 from el, ← hv]; exact ho4
/-- An object has a key more, or as many as before. -/
theorem q_five {w wr wk w2 : World} {A : Nat} {a : NT} {vi vk v1 v2 : Value} {T U T' : VT} {b1 b2 : Option Addr} {e1 e2 : Nat} {S S' : Nat → Prop} (h : QRep w wr A a vi vk 5 T b1 e1 b2 e2 wk) (hA : A < wr.heap.size) (hw : w.heap.size < wr.heap.size) (hok : U.ok) (hsz : T.size + U.size ≤ 40)
    (hS : ∀ g, S g → g ≠ A ∧ w.heap.size < g ∧ g ≠ wr.heap.size + 1) (hS' : ∀ g, S' g → g ≠ A ∧ w.heap.size < g ∧ g ≠ wr.heap.size + 1)
    (hb : Below wk.heap.size wk w2) (hr : T'.Rep w2 (fun g => S g ∨ S' g ∨ wk.heap.size ≤ g) v1 v2) (h1 : T'.size ≤ T.size + U.size) (h2 : T.keyed → U.keyed → T'.keyed) (h3 : T'.ks.length = T'.its.length ∧ 0 < T'.its.length ∧ (T.k = 5 → T'.k = 5)) :
    ∃ f1 g1 f2 g2, v1 = .slice f1 T'.its.length g1 ∧ v2 = .slice f2 T'.ks.length g2 ∧ QRep w wr A a vi vk 5 T' f1 g1 f2 g2 ((((((w2.setCell ⟨wr.heap.size + 1, 0, none⟩ (.int .i64 T'.k)).setCell ⟨wr.heap.size + 1, 1, none⟩ (.bool T'.b)).setCell ⟨wr.heap.size + 1, 2, none⟩ (.int .i64 T'.n)).setCell ⟨wr.heap.size + 1, 3, none⟩ (.string T'.s)).setCell ⟨wr.heap.size + 1, 4, none⟩ v1).setCell ⟨wr.heap.size + 1, 5, none⟩ v2) := by
  obtain ⟨f1, g1, f2, g2, rfl, rfl⟩ := rep_shape hr
  have hN := h.made.2.1.below hb
  have hB := hk_lt h.made.2.1.v
  have hr2 : T'.Rep w2 (fun g => g ≠ A ∧ w.heap.size < g ∧ g ≠ wr.heap.size + 1) (.slice f1 T'.its.length g1) (.slice f2 T'.ks.length g2) := hr.mono fun g hg => by
    rcases hg with hg | hg | hg
    · exact hS g hg
    · exact hS' g hg
    · exact ⟨by omega, by omega, by omega⟩
  refine ⟨f1, g1, f2, g2, rfl, rfl, h3.2.2 h.k, ⟨⟨by omega, h2 h.made.1.2 hok.2⟩, ⟨by ((repeat (first | with_reducible exact hN.x | with_reducible exact new_blk _ _ | with_reducible exact new_blk1 _ _ _ | with_reducible exact new_blk2 _ _ _ _ | with_reducible refine hk_drew ?_ | with_reducible refine hk_alloc ?_ _ | with_reducible refine hk_set ?_ (by dsimp only; omega) _)); done), six_set hN.v _ _ _ _ _ _, by ((repeat (first | with_reducible exact hN.bel | with_reducible exact Below.refl _ _ | with_reducible refine bl_drew ?_ | with_reducible refine bl_alloc ?_ _ | with_reducible refine bl_set ?_ (by dsimp only; omega) _)); done)⟩, hr2.keep (kc_six' (fun h => h.2.2 rfl) _ _ _ _ _ _)⟩, fun x => (by cases x), fun _ => ⟨h3.1, fun x => ?_⟩⟩
  have := h3.2.1
  rw [x] at this
  exact absurd this (Nat.lt_irrefl _)
/-- A call of three arguments, by its contract, as a step of a region that draws. -/
theorem step_call3 {P : Program} {ops : Array Oper} {o : Oper} {a : Act} {w : World} {K : Act → World → Prop} {Q : Exit → Act → World → Prop} {E' : Prop} (hgd : o.guard = none) (f : FuncId) (x y z : Operand) (t1 t2 t3 : TypeId)
    (ho : o.op = .call { callee := .value (.func f), args := #[x, y, z], argTypes := #[t1, t2, t3] }) (he : ∀ args w, (callFunc f args).run P w = .ok (.enter f args) w) {u1 u2 u3 : Value} (h1 : a.eval x = u1) (h2 : a.eval y = u2) (h3 : a.eval z = u3) {R : Ending → World → Prop} (hC : Calls P f #[u1, u2, u3] w R)
    (h : ∀ e w', R e w' → ∃ v, e = .returned v ∧ K (a.put o.dst v) w') : if Region.wanted o (yielded ops a.tmps) = true then Oper.wp P o a w K Q else E' := by
  have hw : Region.wanted o (yielded ops a.tmps) = true := by simp [Region.wanted, hgd]
  rw [if_pos hw]
  unfold Oper.wp
  have hf : a.eval (.func f) = .func (.func f) #[] #[] := rfl
  simp [execOp, ho, resolve, invoke, hf, h1, h2, h3, he, Result.andThen, Deferred.ofValue]
  refine hC.mono ?_
  intro e w' hR
  obtain ⟨v, rfl, hK⟩ := h e w' hR
  exact hK
/-- Put into an object that may have no keys. -/
theorem vput_any (T U : VT) (key : ByteArray) {b1 b2 : Option Addr} {e1 e2 : Nat} (h5 : T.ks.length = T.its.length ∧ (T.its = [] → b1 = none ∧ e1 = 0 ∧ b2 = none ∧ e2 = 0)) (hT : T.size ≤ 1000) (S S' : Nat → Prop) (wi wk : Value) (w : World) (h : T.Rep w S (.slice b1 T.its.length e1) (.slice b2 T.ks.length e2)) (h' : U.Rep w S' wi wk) :
    Calls Try.prog 50 #[T.agg (.slice b1 T.its.length e1) (.slice b2 T.ks.length e2), .string key, U.agg wi wk] w (PutSays T U key S S' w) := by
  by_cases h0 : 0 < T.its.length
  · exact vput_ne T U key h0 h5.1 hT S S' _ _ wi wk w h h'
  · have hi : T.its = [] := List.eq_nil_of_length_eq_zero (by omega)
    have hk : T.ks = [] := List.eq_nil_of_length_eq_zero (by rw [h5.1]; omega)
    obtain ⟨rfl, rfl, rfl, rfl⟩ := h5.2 hi
    have := vput_nil T U key hi hk S S' wi wk w h'
    rw [hi, hk]
    exact this
theorem kind_of4 {k : Int} (h0 : 0 ≤ k) : ∃ q : Nat, q ≤ 3 ∧ k % 4 = (q : Int) := ⟨(k % 4).toNat, by omega, by omega⟩
def TreeSaid (w : World) (r : Ending) (w' : World) : Prop := ∃ (T : VT) (vi vk : Value), r = .returned (T.agg vi vk) ∧ T.ok ∧ T.Rep w' (fun g => w.heap.size < g) vi vk ∧ Below w.heap.size w w'
set_option maxRecDepth 20000 in
set_option maxHeartbeats 1000000 in
theorem tree_nil (vn : Value) (S : Nat → Prop) (w : World) (cs : List Value) (hs : Sl w S 5 vn 0 cs) : Calls Try.prog 31 #[vn] w (TreeSaid w) := by
  obtain ⟨a, c, rfl, _, _⟩ := hs.shape
  clear hs
  go_enter Try.func31, Try.ntmps31
  go_upto_region 2 with fail
  refine abs_world (F := fun W => W.heap[w.heap.size]? = some (.cells #[.int .i64 0, .bool false, .int .i64 0, .string ⟨#[]⟩, .slice none 0 0, .slice none 0 0] 46 (0, 0)) ∧ Below w.heap.size w W) ⟨by ((repeat (first | with_reducible exact new_blk _ _ | with_reducible exact new_blk1 _ _ _ | with_reducible exact new_blk2 _ _ _ _ | with_reducible refine hk_drew ?_ | with_reducible refine hk_alloc ?_ _ | with_reducible refine hk_set ?_ (by dsimp only; omega) _)); done), by ((repeat (first | with_reducible exact Below.refl _ _ | with_reducible refine bl_drew ?_ | with_reducible refine bl_alloc ?_ _ | with_reducible refine bl_set ?_ (by dsimp only; omega) _)); done)⟩ ?_
  rintro W ⟨g1, g2⟩
  have c1 := cell_blk (six_set g1 (.int .i64 0) (.bool false) (.int .i64 0) (.string ⟨#[]⟩) (.slice none 0 0) (.slice none 0 0))
  have c2 := frozen_blk g1
  have c3 := cell_blk g1
  have G2 := Lib.hid g2
  clear g1 g2
  go_wp2
  refine bodyPost_ret (v := VT.zero.agg (.slice none 0 0) (.slice none 0 0)) (by simp [results, Try.results31, go_sem, c1, VT.zero, VT.k, VT.b, VT.n, VT.s]) rfl ⟨_, _, _, rfl, VT.zero_ok, VT.zero_rep _ _, ?_⟩
  exact (by ((repeat (first | with_reducible exact G2.out | with_reducible exact Below.refl _ _ | with_reducible refine bl_drew ?_ | with_reducible refine bl_alloc ?_ _ | with_reducible refine bl_set ?_ (by dsimp only; omega) _)); done))
set_option maxRecDepth 20000 in

set_option maxHeartbeats 1000000 in
theorem tree_some (nodes : List NT) (vn : Value) (S : Nat → Prop) (w : World) (cs : List Value) (hn : 0 < nodes.length) (hmx : nodes.length ≤ maxLen) (hs : Sl w S 5 vn nodes.length cs) (hr : Rows (NT.Five w S) nodes cs) : Calls Try.prog 31 #[vn] w (TreeSaid w) := by
  obtain ⟨gn, on, cn, rfl, hcn, _, hgn, hcells⟩ := hs.at hn
  obtain ⟨n, hN⟩ : ∃ n : Nat, n = min nodes.length 12 := ⟨_, rfl⟩
  have n1 : 0 < n := by omega
  have n2 : n ≤ 12 := by omega
  have n3 : n ≤ nodes.length := by omega
  have hm : min (nodes.length : Int) 12 = (n : Int) := by omega
  have hcz : (n : Int) ≤ (cn : Int) := by omega
  have e0 : ((nodes.length : Int) == 0) = false := by rw [beq_eq_false_iff_ne]; omega
  have HS := Lib.hid hs
  have HR := Lib.hid hr
  clear hs hr hcells
  go_enter Try.func31, Try.ntmps31
  go_upto_region 3 with fail
  refine abs_world (F := fun W => W.heap[w.heap.size]? = some (.cells zeroV 46 (0, 0)) ∧ Below w.heap.size w W ∧ W.heap.size = w.heap.size + 1) ⟨by ((repeat (first | with_reducible exact new_blk _ _ | with_reducible exact new_blk1 _ _ _ | with_reducible exact new_blk2 _ _ _ _ | with_reducible refine hk_drew ?_ | with_reducible refine hk_alloc ?_ _ | with_reducible refine hk_set ?_ (by dsimp only; omega) _)); done), by ((repeat (first | with_reducible exact Below.refl _ _ | with_reducible refine bl_drew ?_ | with_reducible refine bl_alloc ?_ _ | with_reducible refine bl_set ?_ (by dsimp only; omega) _)); done), by simp⟩ ?_
  rintro W ⟨g1, g2, g3⟩
  have G1 := Lib.hid g1
  have G2 := Lib.hid g2
  clear g1 g2
  go_cut [0] from 15 to 19 (fun v wx => v = .slice (some ⟨gn, on, none⟩) n cn ∧ Hid (wx.heap[w.heap.size]? = some (.cells zeroV 46 (0, 0)) ∧ Below w.heap.size w wx ∧ wx.heap.size = w.heap.size + 1))
  case first =>
    by_cases h12 : (nodes.length : Int) ≤ 12
    · obtain rfl : nodes.length = n := by omega
      clear hN hm
      go_wp2
      go_meet
      exact ⟨rfl, Lib.hid ⟨G1.out, G2.out, g3⟩⟩
    · obtain rfl : 12 = n := by omega
      clear hN hm
      go_wp2
      go_meet
      exact ⟨rfl, Lib.hid ⟨G1.out, G2.out, g3⟩⟩
  case rest =>
    clear G1 G2 g3 hN hm
    obtain ⟨rfl, H⟩ := hcut
    go_upto_region 4 with fail
    refine abs_world (F := fun wx => wx.heap[w.heap.size]? = some (.cells zeroV 46 (0, 0)) ∧ Below w.heap.size w wx ∧ wx.heap.size = w.heap.size + 1) H.out ?_
    clear H
    rintro W ⟨g1, g2, g3⟩
    have G1 := Lib.hid g1
    have G2 := Lib.hid g2
    clear g1 g2
    have hmk := run_make_v W n n2
    have hA : Hid (TAt w (w.heap.size + 1) n (List.replicate n VT.zero) (W.alloc (.cells (madeCells zeroV (n * 6)) 46))) := Lib.hid
      ⟨by ((repeat (first | with_reducible exact G2.out | with_reducible exact Below.refl _ _ | with_reducible refine bl_drew ?_ | with_reducible refine bl_alloc ?_ _ | with_reducible refine bl_set ?_ (by dsimp only; omega) _)); done), hk_alloc G1.out _, ⟨_, by have := new_blk W (.cells (madeCells zeroV (n * 6)) 46); rw [g3] at this; exact this, by rw [made_v n n2]; exact rows_zero _ _ n⟩, by simp, fun T hT => by rw [List.eq_of_mem_replicate hT]; exact VT.zero_ok, by omega⟩
    go_wp2_with fail
    go_loopw [4] (fun q W' => ∃ (i : Nat) (ts : List VT), i ≤ n ∧ q = .int .i64 ((i : Int) - 1) ∧ Hid (TAt w (w.heap.size + 1) n ts W')) (fun q _ => (intOf q + 1).toNat)
    case atStart => exact ⟨n, _, Nat.le_refl _, by go_num, hA⟩
    case round =>
      clear hA G1 G2 g3 hmk
      obtain ⟨i, ts, hi, rfl, H⟩ := hrel
      cases i with
      | zero =>
        obtain ⟨T, b1, e1, b2, e2, hok, hrep, d0, d1, d2, d3, d4, d5⟩ := H.out.cells n1
        simp only [Nat.zero_mul, Nat.zero_add] at d0 d1 d2 d3 d4 d5
        have r1 := cell_blk (six_set H.out.res (.int .i64 T.k) (.bool T.b) (.int .i64 T.n) (.string T.s) (.slice b1 T.its.length e1) (.slice b2 T.ks.length e2))
        have r2 := frozen_blk H.out.res
        have r3 := cell_blk H.out.res
        have HREP := Lib.hid hrep
        clear hrep
        go_wp2_with fail
        refine bodyPost_ret (v := T.agg (.slice b1 T.its.length e1) (.slice b2 T.ks.length e2)) (by simp [results, Try.results31, go_sem, r1]) rfl ⟨_, _, _, rfl, hok, ?_, ?_⟩
        · exact (HREP.out.keep (kc_six' (fun h => Nat.lt_irrefl _ h.2) _ _ _ _ _ _)).mono fun _ h => h.2
        · exact (by ((repeat (first | with_reducible exact H.out.bel | with_reducible exact Below.refl _ _ | with_reducible refine bl_drew ?_ | with_reducible refine bl_alloc ?_ _ | with_reducible refine bl_set ?_ (by dsimp only; omega) _)); done))
      | succ j =>
        have ej : (((j + 1 : Nat) : Int) - 1) = (j : Int) := by omega
        rw [ej]
        have hlt : j < nodes.length := by omega
        obtain ⟨g', o', c', hv, _, _, _, hcells⟩ := (HS.out.keep (kc_below H.out.bel)).at hn
        cases hv
        obtain ⟨vi, vk, hwf, hit, hks, d0, d1, d2, d3, d4⟩ := five_cells (HR.out.mono fun _ _ h => h.keep (kc_below H.out.bel)) hcells hlt
        obtain ⟨a1, c1, rfl, _, _⟩ := hit.shape
        obtain ⟨a2, c2, rfl, _, _⟩ := hks.shape
        clear hcells
        obtain ⟨q, hq5, hq⟩ := kind_six hwf.1.1 hwf.1.2
        go_upto_region 10 with fail
        refine abs_world (F := NB wr nodes[j] (.slice a1 nodes[j].its.length c1) (.slice a2 nodes[j].ks.length c2) #[.int .i64 q, .bool false, .int .i64 0, .string ⟨#[]⟩, .slice none 0 0, .slice none 0 0]) ⟨by ((repeat (first | with_reducible exact new_blk _ _ | with_reducible exact new_blk1 _ _ _ | with_reducible exact new_blk2 _ _ _ _ | with_reducible refine hk_drew ?_ | with_reducible refine hk_alloc ?_ _ | with_reducible refine hk_set ?_ (by dsimp only; omega) _)); done), by ((repeat (first | with_reducible exact new_blk _ _ | with_reducible exact new_blk1 _ _ _ | with_reducible exact new_blk2 _ _ _ _ | with_reducible refine hk_drew ?_ | with_reducible refine hk_alloc ?_ _ | with_reducible refine hk_set ?_ (by dsimp only; omega) _)); done), by ((repeat (first | with_reducible exact Below.refl _ _ | with_reducible refine bl_drew ?_ | with_reducible refine bl_alloc ?_ _ | with_reducible refine bl_set ?_ (by dsimp only; omega) _)); done)⟩ ?_
        intro W0 hN
        have HN := Lib.hid hN
        have HI := Lib.hid hit
        have HK := Lib.hid hks
        have HW := Lib.hid hwf
        clear hN hit hks d0 d1 d2 d3 d4 hq hwf
        have x0 := cell_blk HN.out.x
        have x1 := cell_blk HN.out.v
        have x2 := frozen_blk HN.out.v
        go_upto_block 2 with fail
        go_cut [7, 8, 9, 10] from 41 to 128 (fun _ _ _ _ wx => ∃ (T : VT) (b1 : Option Addr) (e1 : Nat) (b2 : Option Addr) (e2 : Nat), Hid (Made w wr (w.heap.size + 1) nodes[j] (.slice a1 nodes[j].its.length c1) (.slice a2 nodes[j].ks.length c2) T b1 e1 b2 e2 wx))
        case first =>
          rcases hq5 with rfl | rfl | rfl | rfl | hq45
          · go_wp2
            go_meet
            exact ⟨_, _, _, _, _, Lib.hid (leaf_made HN.out)⟩
          · go_wp2
            go_meet
            exact ⟨_, _, _, _, _, Lib.hid (leaf_made (HN.out.set 1 _ rfl))⟩
          · go_wp2
            go_meet
            exact ⟨_, _, _, _, _, Lib.hid (leaf_made (HN.out.set 2 _ rfl))⟩
          · have HT := Lib.hid (fun W => text_some nodes[j].s W HW.out.2.2.1)
            go_wp2_with (go_at_call 48; refine (HT.out _).mono ?_; rintro e' w2 ⟨s', rfl, _, hb2⟩; have HN2 := Lib.hid (HN.out.below hb2); have y0 := cell_blk HN2.out.v; have y1 := frozen_blk HN2.out.v; clear hb2)
            go_meet
            exact ⟨_, _, _, _, _, Lib.hid (leaf_made (HN2.out.set 3 _ rfl))⟩
          · have t1 : (q == 1) = false := by rcases hq45 with rfl | rfl <;> rfl
            have t2 : (q == 2) = false := by rcases hq45 with rfl | rfl <;> rfl
            have t3 : (q == 3) = false := by rcases hq45 with rfl | rfl <;> rfl
            go_upto_if 59 with fail
            go_cut [59] from 61 to 61 (fun v wx => v = .bool true ∧ Hid (NB wr nodes[j] (.slice a1 nodes[j].its.length c1) (.slice a2 nodes[j].ks.length c2) #[.int .i64 q, .bool false, .int .i64 0, .string ⟨#[]⟩, .slice none 0 0, .slice none 0 0] wx))
            case first =>
              rcases hq45 with rfl | rfl
              · go_wp2
                go_meet
                exact ⟨rfl, HN⟩
              · go_wp2
                go_meet
                exact ⟨rfl, HN⟩
            case rest =>
              obtain ⟨rfl, H1⟩ := hcut
              clear x0 x1 x2 HN t1 t2 t3
              go_upto_region 19 with fail
              refine abs_world (F := fun W => NB wr nodes[j] (.slice a1 nodes[j].its.length c1) (.slice a2 nodes[j].ks.length c2) #[.int .i64 q, .bool false, .int .i64 0, .string ⟨#[]⟩, .slice none 0 0, .slice none 0 0] W) H1.out ?_
              clear H1
              intro W1 hN
              have x0 := cell_blk hN.x
              have HQ : Hid (QRep w wr (w.heap.size + 1) nodes[j] (.slice a1 nodes[j].its.length c1) (.slice a2 nodes[j].ks.length c2) q (VT.mk q false 0 ⟨#[]⟩ [] []) none 0 none 0 W1) := Lib.hid (q_start hN)
              clear hN
              go_wp2_with fail
              obtain ⟨wo, rfl⟩ : ∃ x, x = wr := ⟨_, rfl⟩
              go_loopw [65] (fun v wk => ∃ (k : Nat) (T : VT) (b1 : Option Addr) (e1 : Nat) (b2 : Option Addr) (e2 : Nat), k ≤ nodes[j].its.length ∧ v = .int .i64 k ∧ Hid (QRep w wo (w.heap.size + 1) nodes[j] (.slice a1 nodes[j].its.length c1) (.slice a2 nodes[j].ks.length c2) q T b1 e1 b2 e2 wk)) (fun v _ => nodes[j].its.length - (intOf v).toNat)
              case atStart => exact ⟨0, _, _, _, _, _, Nat.zero_le _, rfl, HQ⟩
              case round =>
                clear HQ x0
                obtain ⟨k, T, b1, e1, b2, e2, hk, rfl, HQ⟩ := hrel
                have hmx2 : nodes[j].its.length ≤ 9223372036854775807 := HW.out.2.2.2.1
                by_cases hlt : k < nodes[j].its.length
                · obtain ⟨gi, oi, ci, hvi, _, _, hgi, hcl⟩ := (HI.out.keep (kc_below HQ.out.made.2.1.bel)).at (by omega)
                  cases hvi
                  have y0 := hcl k (.int .u8 nodes[j].its[k]) (by rw [List.getElem?_map, List.getElem?_eq_getElem hlt]; rfl)
                  have hd := HW.out.2.2.2.2.2.1 _ (List.getElem_mem hlt)
                  obtain ⟨p, hp3, hp⟩ := kind_of4 hd.1
                  clear hcl
                  by_cases hk4 : (k : Int) = 4
                  · have z4 : ((k : Int) == 4) = true := by rw [hk4]; rfl
                    clear hk4
                    go_upto_region 23 with fail
                    go_quiet (fail)
                    have HE := Lib.hid (HQ.out.made.below (bl_drewN (Below.refl _ _) nq))
                    go_wp2
                    go_meet
                    exact ⟨_, _, _, _, _, HE⟩
                  · have z4 : ((k : Int) == 4) = false := by rw [beq_eq_false_iff_ne]; exact hk4
                    by_cases hat : n ≤ j + 1 + p
                    · have z5 : decide ((n : Int) ≤ (j : Int) + 1 + (p : Int)) = true := decide_eq_true (by omega)
                      go_upto_region 23 with fail
                      go_quiet (fail)
                      have HE := Lib.hid (HQ.out.made.below (bl_drewN (Below.refl _ _) nq))
                      go_wp2
                      go_meet
                      exact ⟨_, _, _, _, _, HE⟩
                    · obtain ⟨U, ua, uc, va, vc, hUok, hU⟩ := H.out.later (i := j + 1 + p) (by omega)
                      have z5 : decide ((n : Int) ≤ (j : Int) + 1 + (p : Int)) = false := decide_eq_false (by omega)
                      have h40 := HQ.out.made.1.1
                      have u40 := hUok.1
                      have HU := Lib.hid hU
                      obtain ⟨_, d0, d1, d2, d3, d4, d5⟩ := hU wr HQ.out.made.2.1.bel
                      have x1 := cell_blk HQ.out.made.2.1.v
                      have hB := hk_lt HQ.out.made.2.1.v
                      have hA2 : w.heap.size + 1 < wr.heap.size := World.block_lt_of_cell? _ _ d0
                      have zw : IntKind.i64.wrap ((T.size : Int) + (U.size : Int)) = (T.size : Int) + (U.size : Int) := by rw [IntKind.wrap_i64]; omega
                      have e1' : ((j : Int) + 1 + (p : Int)).toNat = j + 1 + p := by omega
                      have e2' : (0 : Int) ≤ (j : Int) + 1 + (p : Int) := by omega
                      have e3' : (j : Int) + 1 + (p : Int) < (n : Int) := by omega
                      have HST := Lib.hid (fun (W : World) (hb : Below wr.heap.size wr W) => vsize_any _ T (Nat.le_refl _) h40 _ _ _ W (HQ.out.made.2.2.keep (kc_below hb)))
                      have HSU := Lib.hid (fun (W : World) (hb : Below wo.heap.size wo W) => vsize_any _ U (Nat.le_refl _) u40 _ _ _ W (hU W hb).1)
                      have HBL := Lib.hid HQ.out.made.2.1.bel
                      clear hU
                      obtain ⟨bz, hbz⟩ : ∃ bz, decide ((40 : Int) < (T.size : Int) + (U.size : Int)) = bz := ⟨_, rfl⟩
                      go_upto_region 23 with fail
                      go_cut [94] from 66 to 93 (fun v wx => v = .bool bz ∧ Hid (Below wr.heap.size wr wx))
                      case first =>
                        go_region_held3 (fun W' => ∀ b o, b < wr.heap.size → W'.cell? ⟨b, o, none⟩ = wr.cell? ⟨b, o, none⟩) (first | exact (fun _ _ _ => rfl) | exact (bcell H6.out).1 | exact (bcell H5.out).1)
                          (first
                            | (go_at_call 49; refine (HSU.out w2 (bl_step HBL.out H5.out)).mono ?_; rintro e' w3 ⟨rfl, hb3⟩; have H6 : Hid (Below wr.heap.size wr w3) := Lib.hid (bl_step H5.out hb3); clear hb3)
                            | (go_at_call 49; refine (HST.out _ (by ((repeat (first | with_reducible exact Below.refl _ _ | with_reducible refine bl_drew ?_ | with_reducible refine bl_alloc ?_ _ | with_reducible refine bl_set ?_ (by dsimp only; omega) _)); done))).mono ?_; rintro e' w2 ⟨rfl, hb2⟩; have H5 : Hid (Below wr.heap.size wr w2) := Lib.hid (bl_step (by ((repeat (first | with_reducible exact Below.refl _ _ | with_reducible refine bl_drew ?_ | with_reducible refine bl_alloc ?_ _ | with_reducible refine bl_set ?_ (by dsimp only; omega) _)); done)) hb2); clear hb2))
                        all_goals (refine ‹∀ (a : Act) (w : World), _ → _› _ _ ?_)
                        all_goals go_meet
                        all_goals exact ⟨rfl, H6⟩
                      case rest =>
                        obtain ⟨rfl, HB⟩ := hcut
                        clear d0 d1 d2 d3 d4 d5 x1 z5 zw y0 HST HSU
                        cases bz with
                        | true =>
                          have HE := Lib.hid (HQ.out.made.below HB.out)
                          go_wp2
                          go_meet
                          exact ⟨_, _, _, _, _, HE⟩
                        | false =>
                          have hsz : T.size + U.size ≤ 40 := by have := of_decide_eq_false hbz; omega
                          have h39 := HQ.out.made.1.its
                          clear hbz
                          go_upto_region 24 with fail
                          refine abs_world (F := fun W => Below wr.heap.size wr W) HB.out ?_
                          clear HB
                          intro W hb
                          have HQ2 := Lib.hid (HQ.out.below hb)
                          have HBo := Lib.hid (bl_step HBL.out hb)
                          obtain ⟨hUr, d0, d1, d2, d3, d4, d5⟩ := HU.out W HBo.out
                          have HUR := Lib.hid hUr
                          have hw1 : w.heap.size < wo.heap.size := hk_lt H.out.res
                          have hw2 : w.heap.size + 1 < wo.heap.size := by obtain ⟨_, h, _⟩ := H.out.all; exact hk_lt h
                          have HBB := Lib.hid (hk_lt HQ2.out.made.2.1.v)
                          have x1 := cell_blk HQ2.out.made.2.1.v
                          have x2 := frozen_blk HQ2.out.made.2.1.v
                          have x3 := cell_blk HQ2.out.made.2.1.x
                          clear hUr hb
                          rcases hq45 with rfl | rfl
                          · have zk : (T.k == 4) = true := by rw [HQ.out.k]; rfl
                            obtain ⟨cs, how, hrs⟩ := (HQ2.out.four rfl).2
                            have HO := Lib.hid how
                            have HRS := Lib.hid hrs
                            clear how hrs
                            go_upto_region 25 with fail
                            have hbb := HBB.out
                            go_region_law (first | (refine step_append_sl rfl _ _ _ rfl rfl elem_r (v := .slice b1 T.its.length e1) (base := wo.heap.size + 2) (x := .slice (some ⟨W.heap.size, 0, none⟩) 1 1) (S := fun _ => True) rfl rfl ((own_drew HO.out).alloc _) (Sl.one_of (new_blk _ _) trivial rfl) (by exact head_one (T := U) rfl rfl) (by unfold maxLen; omega) (by omega) (by have := HBB.out; simp only [World.size_drew, World.size_alloc] at *; omega) ?_; intro v w3 ho hg hb; obtain ⟨b, e, hv, hz, hqq⟩ := q_four HQ2.out hw2 hw1 HRS.out HUR.out hUok hsz (by ((repeat (first | with_reducible exact Below.refl _ _ | with_reducible refine bl_drew ?_ | with_reducible refine bl_alloc ?_ _ | with_reducible refine bl_set ?_ (by dsimp only; omega) _)); done)) HO.out hg ho; subst hv; have HX := Lib.hid hqq; have z1 := cell_blk hz; have z2 := frozen_blk hz; clear ho hg hb hz hqq))
                            all_goals
                              clear x1 x2 x3 d0 d1 d2 d3 d4 d5 z1 z2 z4 zk hbb hw1 hw2 HO HRS HUR HBB HQ2 HBo HBL HU hat hd hp e1' e2' e3' hsz h40 u40
                            all_goals
                              go_wp2_with fail
                              go_roundw
                              case rel => (repeat apply Exists.intro); exact ⟨⟨k + 1, _, _, _, _, _, by omega, by go_num, HX⟩, rfl⟩
                              case measure => simp [intOf]; omega
                          · have zk : (T.k == 4) = false := by rw [HQ.out.k]; rfl
                            have HF := Lib.hid (HQ2.out.five rfl)
                            have HKX := Lib.hid (HK.out.keep (kc_below (bl_step HQ2.out.made.2.1.bel (Below.refl _ _))))
                            have HKW := Lib.hid (fun (q : Nat) (hq : q < nodes[j].ks.length) => HW.out.2.2.2.2.2.2 _ (List.getElem_mem hq))
                            have hmx3 : nodes[j].ks.length ≤ 9223372036854775807 := HW.out.2.2.2.2.1
                            obtain ⟨bk, hbk⟩ : ∃ bk, decide (k < nodes[j].ks.length) = bk := ⟨_, rfl⟩
                            go_upto_if 111 with fail
                            clear zk x1 x2 z4 d0 d1 d2 d3 d4 d5
                            go_cut [10] from 112 to 117 (fun v wx => ∃ s, v = .string s ∧ Hid (s.size ≤ 60 ∧ Below W.heap.size W wx))
                            case first =>
                              cases bk with
                              | true =>
                                have hkk := of_decide_eq_true hbk
                                obtain ⟨gk, ok, ck, hvk, _, _, _, hcl⟩ := HKX.out.at (by omega)
                                cases hvk
                                have y0 := hcl k (.string nodes[j].ks[k]) (by rw [List.getElem?_map, List.getElem?_eq_getElem hkk]; rfl)
                                have HT := Lib.hid (fun W => text_some nodes[j].ks[k] W (HKW.out k hkk))
                                clear hcl
                                go_wp2_with (go_at_call 48; refine (HT.out _).mono ?_; rintro e' w2 ⟨s', rfl, hz2, hb2⟩; have HB2 : Hid (s'.size ≤ 60 ∧ Below W.heap.size W w2) := Lib.hid ⟨hz2, hb2⟩; clear hz2 hb2)
                                go_meet
                                exact ⟨_, rfl, HB2⟩
                              | false =>
                                go_wp2
                                go_meet
                                exact ⟨_, rfl, Lib.hid ⟨by decide, Below.refl _ _⟩⟩
                            case rest =>
                              obtain ⟨key, rfl, HB⟩ := hcut
                              clear x3 hbk HKX
                              go_upto_region 29 with fail
                              refine abs_world (F := fun W' => Below W.heap.size W W') HB.out.2 ?_
                              have HK60 := Lib.hid HB.out.1
                              clear HB
                              intro W3 hb3
                              have HQ3 := Lib.hid (HQ2.out.below hb3)
                              obtain ⟨hUr, d0, d1, d2, d3, d4, d5⟩ := HU.out W3 (bl_step HBo.out hb3)
                              have HP := Lib.hid (fun (W4 : World) (hb : Below W3.heap.size W3 W4) => vput_any T U key (HQ3.out.five rfl) (by omega) _ _ _ _ W4 (HQ3.out.made.2.2.keep (kc_below hb)) (hUr.keep (kc_below hb)))
                              have x1 := cell_blk HQ3.out.made.2.1.v
                              have x2 := frozen_blk HQ3.out.made.2.1.v
                              clear hb3 hUr HF HKW
                              go_region_law (first | (refine step_call3 rfl 50 _ _ _ _ _ _ rfl (enters_of Try.func50 (by kernel_rfl) rfl) rfl rfl rfl (HP.out _ (by ((repeat (first | with_reducible exact Below.refl _ _ | with_reducible refine bl_drew ?_ | with_reducible refine bl_alloc ?_ _ | with_reducible refine bl_set ?_ (by dsimp only; omega) _)); done))) ?_; rintro e' w4 ⟨T', v1, v2, bb, rfl, hr, hs1, hs2, hs3, hb4⟩; refine ⟨_, rfl, ?_⟩; obtain ⟨f1, g1, f2, g2, rfl, rfl, hqq⟩ := q_five (HQ3.out.below (by ((repeat (first | with_reducible exact Below.refl _ _ | with_reducible refine bl_drew ?_ | with_reducible refine bl_alloc ?_ _ | with_reducible refine bl_set ?_ (by dsimp only; omega) _)); done))) hw2 hw1 hUok hsz (fun g h => h) (fun g h => ⟨h.1, h.2.1, by omega⟩) hb4 hr hs1 (hs2 HK60.out) hs3; have HX := Lib.hid hqq; have z1 := cell_blk (hk_below (hk_drew HQ3.out.made.2.1.v) hb4); have z2 := frozen_blk (hk_below (hk_drew HQ3.out.made.2.1.v) hb4); clear hr hs1 hs2 hs3 hb4 hqq))
                              all_goals
                                clear x1 x2 d0 d1 d2 d3 d4 d5 z1 z2 hw1 hw2 HUR HBB HQ2 HQ3 HBo HBL HU hat hd hp e1' e2' e3' hsz h40 u40
                                go_wp2_with fail
                                go_roundw
                                case rel => (repeat apply Exists.intro); exact ⟨⟨k + 1, _, _, _, _, _, by omega, by go_num, HX⟩, rfl⟩
                                case measure => simp [intOf]; omega
                · obtain rfl : k = nodes[j].its.length := by omega
                  go_wp2
                  go_meet
                  exact ⟨_, _, _, _, _, Lib.hid HQ.out.made⟩
        case rest =>
          obtain ⟨T, b1, e1, b2, e2, HM⟩ := hcut
          clear x0 x1 x2 HN
          go_upto_region 31 with fail
          refine abs_world (F := fun W => Made w wr (w.heap.size + 1) nodes[j] (.slice a1 nodes[j].its.length c1) (.slice a2 nodes[j].ks.length c2) T b1 e1 b2 e2 W) HM.out ?_
          clear HM
          intro W5 hM
          have hT5 := H.out.go hM.2.1.bel
          have r0 := cell_blk hM.2.1.v
          obtain ⟨cur, hcur, _⟩ := hT5.all
          have f1 := frozen_blk hcur
          obtain ⟨_, _, _, _, _, _, _, d0, d1, d2, d3, d4, d5⟩ := hT5.cells (i := j) (by omega)
          have HST := Lib.hid (hT5.store (i := j) (by omega) hM.1 (hM.2.2.mono fun g h => ⟨h.1, h.2.1⟩))
          clear hcur hT5 hM
          go_wp2_with fail
          go_roundw
          case rel => exact ⟨j, _, by omega, by go_num, HST⟩
          case measure => simp [intOf]
end Go.Proofs.Ytbajghjdnjodmaa
