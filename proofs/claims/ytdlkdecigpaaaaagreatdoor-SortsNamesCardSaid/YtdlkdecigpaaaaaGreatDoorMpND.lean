/- The names' sorts, as they grow in a block that holds both rows; plain. -/
import Derived.Test.YtdlkdecigpaaaaaGreatDoorMpNC
import Derived.Test.YtdlkdecigpaaaaaGreatDoorMpNT
import Derived.Test.YtdlkdecigpaaaaaGreatDoorMpGC
namespace Go.Proofs.YtdlkdecigpaaaaaGreatDoor
set_option linter.unusedVariables false
set_option linter.unusedSimpArgs false
open Go.RowKit

theorem parse_cnt {s : ByteArray} {r : Res} (hr : Par s (.lev 0) 0 r) (hc : (parseR s r).2.2 = 0) : (parseR s r).1.cnt ≤ s.size := by
  have h1 := par_cnt hr (Int.le_refl _) (by omega)
  have h2 := par_pos hr
  cases r with
  | err p c => exact absurd (show c = 0 from hc) (par_code hr)
  | ok T p =>
    have h3 : (T.cnt : Int) ≤ p - 0 := h1
    have h4 := (h2 (Int.le_refl _) (by omega)).1.2
    simp only [parseR] at hc ⊢
    by_cases h1 : blanks s p < s.size
    · rw [if_pos h1] at hc; exact absurd (show (1 : Int) = 0 from hc) (by decide)
    · rw [if_neg h1] at hc ⊢
      by_cases h2 : 32 < T.depth
      · rw [if_pos h2] at hc; exact absurd (show (6 : Int) = 0 from hc) (by decide)
      · rw [if_neg h2]; show T.cnt ≤ s.size; omega
/-- A block that bears two rows' values, and two rows of the call's own, in other blocks. -/
structure Gr (B : Nat) (w1 : World) (b1 b2 vN vS : Value) (n1 n2 : Nat) (xs ys : List Value) (W : World) : Prop where
  blk : W.heap[B]? = some (.cells #[.int .i64 63, b1, b2] 36 (0, 0))
  nm : W.ownsRow (B + 1) 9 1 vN n1 xs
  so : W.ownsRow (B + 1) 33 1 vS n2 ys
  ap : vN.ownBlock = none ∨ vN.ownBlock ≠ vS.ownBlock
  keeps : Keeps [] w1 W
  lt : w1.heap.size ≤ B
section
variable {B : Nat} {w1 W : World} {b1 b2 vN vS : Value} {n1 n2 : Nat} {xs ys : List Value}
theorem Gr.go (h : Gr B w1 b1 b2 vN vS n1 n2 xs ys W) {W' : World} (k : Keeps [] W W') : Gr B w1 b1 b2 vN vS n1 n2 xs ys W' :=
  ⟨k.same h.blk, own_keeps0 h.nm k, own_keeps0 h.so k, h.ap, h.keeps.trans k, h.lt⟩
theorem Gr.alloc (h : Gr B w1 b1 b2 vN vS n1 n2 xs ys W) (o : Obj) : Gr B w1 b1 b2 vN vS n1 n2 xs ys (W.alloc o) := h.go ((Keeps.refl _ _).alloc _)
theorem Gr.drew (h : Gr B w1 b1 b2 vN vS n1 n2 xs ys W) : Gr B w1 b1 b2 vN vS n1 n2 xs ys W.drew := h.go (Keeps.refl _ _).drew
theorem gr_keeps {row : Option Nat} {W' : World} (h : Gr B w1 b1 b2 vN vS n1 n2 xs ys W) (hg : W.grownBy W' row) (hr : ∀ k, row = some k → B + 1 ≤ k) : Keeps [] w1 W' ∧ W'.heap[B]? = some (.cells #[.int .i64 63, b1, b2] 36 (0, 0)) := by
  have hl := h.lt
  exact ⟨Keeps.below (h.keeps.nil_below.grown hg h.keeps.size (fun k e => by have := hr k e; omega)), hk_grow h.blk hg (fun e => by have := hr B e.symm; omega)⟩
theorem Gr.app1 (h : Gr B w1 b1 b2 vN vS n1 n2 xs ys W) {W' : World} {v : Value} {n : Nat} {zs : List Value} (ho : W'.ownsRow (B + 1) 9 1 v n zs) (hg : W.grownBy W' vN.ownBlock) (hv : v.ownBlock = vN.ownBlock ∨ v.ownBlock = some W.heap.size) :
    Gr B w1 b1 b2 v vS n n2 zs ys W' := by
  obtain ⟨k1, k2⟩ := gr_keeps h hg (fun k e => (h.nm.lt k e).1)
  have hne : vS.ownBlock = none ∨ vS.ownBlock ≠ vN.ownBlock := by
    rcases h.ap with e | e
    · cases hs : vS.ownBlock with
      | none => exact .inl rfl
      | some k => rw [e]; exact .inr (by simp)
    · exact .inr (Ne.symm e)
  refine ⟨k2, ho, h.so.kept hg hne, ?_, k1, h.lt⟩
  rcases hv with e | e
  · rw [e]; exact h.ap
  · rw [e]; exact .inr fun e2 => by have := (h.so.lt _ e2.symm).2; omega
theorem Gr.app2 (h : Gr B w1 b1 b2 vN vS n1 n2 xs ys W) {W' : World} {v : Value} {n : Nat} {zs : List Value} (ho : W'.ownsRow (B + 1) 33 1 v n zs) (hg : W.grownBy W' vS.ownBlock) (hv : v.ownBlock = vS.ownBlock ∨ v.ownBlock = some W.heap.size) :
    Gr B w1 b1 b2 vN v n1 n xs zs W' := by
  obtain ⟨k1, k2⟩ := gr_keeps h hg (fun k e => (h.so.lt k e).1)
  refine ⟨k2, h.nm.kept hg h.ap, ho, ?_, k1, h.lt⟩
  rcases hv with e | e
  · rw [e]; exact h.ap
  · rw [e]
    cases hs : vN.ownBlock with
    | none => exact .inl rfl
    | some k => exact .inr fun e2 => by have := (h.nm.lt k hs).2; cases e2; omega
theorem Gr.set (h : Gr B w1 b1 b2 vN vS n1 n2 xs ys W) (c1 c2 : Value) : Gr B w1 c1 c2 vN vS n1 n2 xs ys ((W.setCell ⟨B, 1, none⟩ c1).setCell ⟨B, 2, none⟩ c2) := by
  have hl := h.lt
  have hk : Keeps [B] W ((W.setCell ⟨B, 1, none⟩ c1).setCell ⟨B, 2, none⟩ c2) := ((Keeps.refl _ _).set (.inl (by simp)) _).set (.inl (by simp)) _
  exact ⟨set_to (cs' := #[.int .i64 63, c1, c2]) (set_to (cs' := #[.int .i64 63, c1, b2]) h.blk 1 c1 rfl) 2 c2 rfl, own_keeps9 h.nm hk (Nat.lt_succ_self _), own_keeps9 h.so hk (Nat.lt_succ_self _), h.ap, h.keeps.step hk (fun k h1 h2 => by simp at h1; omega), h.lt⟩
end
/-- Behind j names. -/
abbrev GrJ (B : Nat) (w1 : World) (l : List ByteArray) (j : Nat) (vN vS : Value) (W : World) : Prop := Gr B w1 vN vS vN vS j j ((l.take j).map Value.string) (List.replicate j (.int .i64 63)) W
theorem GrJ.zero {B : Nat} {w1 W : World} {l : List ByteArray} (h : W.heap[B]? = some (.cells #[.int .i64 63, .slice none 0 0, .slice none 0 0] 36 (0, 0))) (k : Keeps [] w1 W) (hl : w1.heap.size ≤ B) : GrJ B w1 l 0 (.slice none 0 0) (.slice none 0 0) W :=
  ⟨h, ⟨by simp, .inl ⟨rfl, rfl⟩⟩, ⟨by simp, .inl ⟨rfl, rfl⟩⟩, .inl rfl, k, hl⟩
theorem GrJ.next {B : Nat} {w1 W : World} {l : List ByteArray} {j : Nat} {b1 b2 vN vS : Value} (hj : j < l.length) (h : Gr B w1 b1 b2 vN vS (j + 1) (j + 1) ((l.take j).map Value.string ++ [.string l[j]]) (List.replicate j (.int .i64 63) ++ [.int .i64 63]) W) :
    GrJ B w1 l (j + 1) vN vS ((W.setCell ⟨B, 1, none⟩ vN).setCell ⟨B, 2, none⟩ vS) := by
  have e1 : (l.take (j + 1)).map Value.string = (l.take j).map Value.string ++ [.string l[j]] := by rw [List.take_succ_eq_append_getElem hj, List.map_append]; rfl
  have e2 : List.replicate (j + 1) (Value.int .i64 63) = List.replicate j (.int .i64 63) ++ [.int .i64 63] := List.replicate_succ'
  have := h.set vN vS
  rw [← e1, ← e2] at this
  exact this
def envAll (l : List ByteArray) : SEnv := ⟨63, l, List.replicate l.length 63⟩
theorem GrJ.env {B : Nat} {w1 W : World} {l : List ByteArray} {vN vS : Value} (hl : l.length ≤ 1000000) (h : GrJ B w1 l l.length vN vS W) : EnvAt (envAll l) vN vS W (fun _ => True) := by
  have h1 := (Sl.of_own h.nm).mono (S' := fun _ => True) fun _ _ => trivial
  have h2 := (Sl.of_own h.so).mono (S' := fun _ => True) fun _ _ => trivial
  rw [List.take_length] at h1
  refine ⟨h1, ?_, by simp [envAll], hl⟩
  show Sl W _ 1 vS (List.replicate l.length (63 : Int)).length ((List.replicate l.length (63 : Int)).map (Value.int .i64))
  rw [List.length_replicate, List.map_replicate]; exact h2
theorem env_none {W : World} : EnvAt (envAll []) (.slice none 0 0) (.slice none 0 0) W (fun _ => True) := ⟨Sl.nil, Sl.nil, rfl, by show 0 ≤ 1000000; decide⟩
/-- What both trials answer. -/
theorem names_told {T : XT} (hg : XGood T) {l : List ByteArray} (hl : l = namesF [] T) :
    (l = [] → (chk (envAll []) T).2 ≠ 13) ∧ (l ≠ [] → (chk (envAll []) T).2 ≠ 0) ∧ (chk (envAll l) T).2 ≠ 13 := by
  have hm : ∀ x, x ∈ l ↔ x ∈ varsF T := fun x => by rw [hl, names_mem]; simp
  refine ⟨fun e => chk_no_vars (List.eq_nil_iff_forall_not_mem.2 fun x hx => ?_), fun e h => e (List.eq_nil_iff_forall_not_mem.2 fun x hx => ?_), chk_named fun x hx => (hm x).2 hx⟩
  · have := (hm x).2 hx; rw [e] at this; cases this
  · have := (hm x).1 hx; rw [chk_nameless (E := envAll []) rfl hg h] at this; cases this
end Go.Proofs.YtdlkdecigpaaaaaGreatDoor
