/- Put together: Bytes of a string, and what a walk's end wants: plain words for all texts of this seat; What a call leaves as it was: all old blocks but some; Numbers as figures of four decimal digits, in plain words; Words of a text, in the document's way and in the corpus's: what their calls answer. -/
import Derived.Test.YtdlkdecigpaaaaaGreatDoorProg
import Derived.WalkKit
import Derived.WalkSpells
import Derived.WalkLawsBesides
import Derived.BigQuiet
import Derived.Deep.QuietTactic
import Derived.Lib.Hide
import Derived.Deep.Light
import Derived.Deep.RegionWith
import Derived.StillTailTactics
import Derived.Deep.RegionHeld3
import Derived.Deep.RegionLaw
import Derived.Deep.DeepCutAuto
import Derived.Deep.CutBlock
import Derived.Deep.LoopGhost
import Derived.RegionTactic
namespace Go.Proofs.YtdlkdecigpaaaaaGreatDoor
set_option linter.unusedVariables false
set_option linter.unusedSimpArgs false
open Go.RowKit

/-- The byte of a string at a place, as a number; 0 beyond it. -/
def bt (s : ByteArray) (i : Int) : Int := if h : i.toNat < s.size then ((s[i.toNat]'h).toNat : Int) else 0
theorem bt_at (s : ByteArray) (i : Int) : ∀ h : i.toNat < s.size, ((s[i.toNat]'h).toNat : Int) = bt s i := fun h => by simp [bt, h]
theorem bt_range (s : ByteArray) (i : Int) : 0 ≤ bt s i ∧ bt s i ≤ 255 := by
  unfold bt; split
  · rename_i h; have := (s[i.toNat]'h).toNat_lt; omega
  · omega

theorem bl_drew {B : Nat} {w W : World} (h : Below B w W) : Below B w W.drew := ⟨h.os, h.tape, h.output, h.size, h.block⟩
theorem bl_drewN {B : Nat} {w W : World} (h : Below B w W) (n : Nat) : Below B w (W.drewN n) := ⟨h.os, h.tape, h.output, h.size, h.block⟩
theorem bl_alloc {w W : World} (h : Below w.heap.size w W) (o : Obj) : Below w.heap.size w (W.alloc o) := h.alloc h.size o
theorem bl_set {B : Nat} {w W : World} {p : Addr} (h : Below B w W) (hb : B ≤ p.block) (v : Value) : Below B w (W.setCell p v) := h.setCell hb v
theorem bl_step {w W w1 : World} (h : Below w.heap.size w W) (k : Below W.heap.size W w1) : Below w.heap.size w w1 := h.trans (k.mono h.size)
theorem bcell {W w1 : World} (hb : Below W.heap.size W w1) : (∀ b o, b < W.heap.size → w1.cell? ⟨b, o, none⟩ = W.cell? ⟨b, o, none⟩) ∧ (∀ b o, b < W.heap.size → w1.frozen? ⟨b, o, none⟩ = W.frozen? ⟨b, o, none⟩) :=
  ⟨fun b o h => hb.cell (p := ⟨b, o, none⟩) h, fun b o h => hb.frozen (p := ⟨b, o, none⟩) h⟩
section
variable {w : World} {b : Nat} {o : Obj}
theorem hk_lt (h : w.heap[b]? = some o) : b < w.heap.size := (Array.getElem?_eq_some_iff.1 h).1
theorem hk_alloc (h : w.heap[b]? = some o) (x : Obj) : (w.alloc x).heap[b]? = some o := (Below.heap_alloc w x b (hk_lt h)).trans h
theorem hk_drew (h : w.heap[b]? = some o) : w.drew.heap[b]? = some o := h
theorem hk_drewN (h : w.heap[b]? = some o) (n : Nat) : (w.drewN n).heap[b]? = some o := h
theorem hk_set (h : w.heap[b]? = some o) {p : Addr} (hp : b ≠ p.block) (v : Value) : (w.setCell p v).heap[b]? = some o := (Below.heap_setCell w p v b hp).trans h
theorem hk_below {w1 : World} (h : w.heap[b]? = some o) (hb : Below w.heap.size w w1) : w1.heap[b]? = some o := (hb.block b (hk_lt h)).trans h
theorem hk_belowN {w1 : World} {B : Nat} (h : w.heap[b]? = some o) (hb : Below B w w1) (hB : b < B) : w1.heap[b]? = some o := (hb.block b hB).trans h
end
/-- The walk goes on in whatever world of which these facts hold. -/
theorem abs_world {P : Program} {c : Code} {Q : Exit → Act → World → Prop} {a : Act} {W : World} (F : World → Prop) (hF : F W) (h : ∀ W', F W' → Code.wp P c Q a W') : Code.wp P c Q a W := h W hF
section
variable {w : World} {g : Nat} {cs : Array Value} {t : TypeId}
theorem cell_blk (h : w.heap[g]? = some (.cells cs t (0, 0))) : ∀ j, w.cell? ⟨g, j, none⟩ = cs[j]? := fun j => by simp [World.cell?, h]
theorem frozen_blk (h : w.heap[g]? = some (.cells cs t (0, 0))) : ∀ j, w.frozen? ⟨g, j, none⟩ = false := fun j => by simp [World.frozen?, h]
theorem set_blk (h : w.heap[g]? = some (.cells cs t (0, 0))) (i : Nat) (u : Value) : (w.setCell ⟨g, i, none⟩ u).heap[g]? = some (.cells (cs.setIfInBounds i u) t (0, 0)) := by
  have hg := (Array.getElem?_eq_some_iff.1 h).1
  simp only [World.setCell, Array.getElem?_modify, if_pos, h, Option.map_some]; simp
theorem set_same (h : w.heap[g]? = some (.cells cs t (0, 0))) (i : Nat) (u : Value) (e : cs[i]? = some u) : (w.setCell ⟨g, i, none⟩ u).heap[g]? = some (.cells cs t (0, 0)) := by
  rw [set_blk h i u]
  have : cs.setIfInBounds i u = cs := by
    apply Array.ext_getElem?
    intro j
    rw [Array.getElem?_setIfInBounds]
    split
    · rename_i hj; subst hj; rw [e, if_pos (Array.getElem?_eq_some_iff.1 e).1]
    · rfl
  rw [this]
theorem set_to (h : w.heap[g]? = some (.cells cs t (0, 0))) (i : Nat) (u : Value) {cs' : Array Value} (e : cs.setIfInBounds i u = cs') : (w.setCell ⟨g, i, none⟩ u).heap[g]? = some (.cells cs' t (0, 0)) := by
  rw [set_blk h i u, e]
theorem new_blk (w : World) (o : Obj) : (w.alloc o).heap[w.heap.size]? = some o := by show (w.heap.push o)[w.heap.size]? = some o; simp
end
theorem toList_data (s : ByteArray) : s.toList = s.data.toList := ByteArray.toList_eq s
theorem toList_nil {s : ByteArray} (h : s.size = 0) : s.toList = [] := by
  rw [toList_data]; apply List.eq_nil_of_length_eq_zero; rw [Array.length_toList]; exact h
theorem toList_ne {s : ByteArray} (h : ¬ s.size = 0) : s.toList.isEmpty = false := by
  rw [toList_data]
  cases e : s.data.toList with
  | nil => exact absurd (by have := congrArg List.length e; rw [Array.length_toList] at this; exact this) h
  | cons _ _ => rfl
theorem bytes_ext {a b : ByteArray} (h : a.toList = b.toList) : a = b := by
  rw [toList_data, toList_data] at h
  cases a; cases b; simp only at h; rw [Array.toList_inj] at h; rw [h]
theorem str_beq {a b : ByteArray} (h : a = b) : (a.toList == b.toList) = true := by rw [h]; simp
theorem str_bne {a b : ByteArray} (h : ¬ a = b) : (a.toList == b.toList) = false := by
  cases e : a.toList == b.toList with
  | false => rfl
  | true => exact absurd (bytes_ext (by simpa using e)) h
theorem ret_bool {a b : Bool} (h : a = b) : Ending.returned (.bool a) = .returned (.bool b) := by rw [h]
theorem ret_i64 {a b : Int} (h : a = b) : Ending.returned (.int .i64 a) = .returned (.int .i64 b) := by rw [h]
theorem ret_str {a b : ByteArray} (h : a = b) : Ending.returned (.string a) = .returned (.string b) := by rw [h]

theorem ret2 {a b c d : Value} (h : a = c) (k : b = d) : Ending.returned (.tuple #[a, b]) = .returned (.tuple #[c, d]) := by rw [h, k]
theorem ret3 {a b c d x y : Value} (h : a = c) (k : b = d) (l : x = y) : Ending.returned (.tuple #[a, b, x]) = .returned (.tuple #[c, d, y]) := by rw [h, k, l]

/-- Where a byte stands: every test of letters, digits and _ decided. -/
theorem byte_cases (c : Int) : (c < 48 ∧ c ≤ 57 ∧ c < 65 ∧ c ≤ 90 ∧ c < 97 ∧ c ≤ 122 ∧ ¬ c = 95) ∨
    (48 ≤ c ∧ c ≤ 57 ∧ c < 65 ∧ c ≤ 90 ∧ c < 97 ∧ c ≤ 122 ∧ ¬ c = 95) ∨
    (48 ≤ c ∧ 57 < c ∧ c < 65 ∧ c ≤ 90 ∧ c < 97 ∧ c ≤ 122 ∧ ¬ c = 95) ∨
    (48 ≤ c ∧ 57 < c ∧ 65 ≤ c ∧ c ≤ 90 ∧ c < 97 ∧ c ≤ 122 ∧ ¬ c = 95) ∨
    (48 ≤ c ∧ 57 < c ∧ 65 ≤ c ∧ 90 < c ∧ c < 97 ∧ c ≤ 122 ∧ ¬ c = 95) ∨
    (48 ≤ c ∧ 57 < c ∧ 65 ≤ c ∧ 90 < c ∧ c < 97 ∧ c ≤ 122 ∧ c = 95) ∨
    (48 ≤ c ∧ 57 < c ∧ 65 ≤ c ∧ 90 < c ∧ c < 97 ∧ c ≤ 122 ∧ ¬ c = 95) ∨
    (48 ≤ c ∧ 57 < c ∧ 65 ≤ c ∧ 90 < c ∧ 97 ≤ c ∧ c ≤ 122 ∧ ¬ c = 95) ∨
    (48 ≤ c ∧ 57 < c ∧ 65 ≤ c ∧ 90 < c ∧ 97 ≤ c ∧ 122 < c ∧ ¬ c = 95) := by
  by_cases h0 : c ≤ 47
  · exact .inl (by omega)
  by_cases h1 : c ≤ 57
  · exact .inr (.inl (by omega))
  by_cases h2 : c ≤ 64
  · exact .inr (.inr (.inl (by omega)))
  by_cases h3 : c ≤ 90
  · exact .inr (.inr (.inr (.inl (by omega))))
  by_cases h4 : c ≤ 94
  · exact .inr (.inr (.inr (.inr (.inl (by omega)))))
  by_cases h5 : c ≤ 95
  · exact .inr (.inr (.inr (.inr (.inr (.inl (by omega))))))
  by_cases h6 : c ≤ 96
  · exact .inr (.inr (.inr (.inr (.inr (.inr (.inl (by omega)))))))
  by_cases h7 : c ≤ 122
  · exact .inr (.inr (.inr (.inr (.inr (.inr (.inr (.inl (by omega))))))))
  exact .inr (.inr (.inr (.inr (.inr (.inr (.inr (.inr ((by omega)))))))))

def letterB (c : Int) : Bool := decide (97 ≤ c ∧ c ≤ 122 ∨ 65 ≤ c ∧ c ≤ 90)
def digitB (c : Int) : Bool := decide (48 ≤ c ∧ c ≤ 57)
def isAt (s : ByteArray) (i c : Int) : Bool := decide (i < s.size) && (bt s i == c)
def letterAt (s : ByteArray) (i : Int) : Bool := decide (i < s.size) && letterB (bt s i)
def digitAt (s : ByteArray) (i : Int) : Bool := decide (i < s.size) && digitB (bt s i)
def goesAt (s : ByteArray) (i : Int) : Bool := letterAt s i || (digitAt s i || isAt s i 95)
theorem isAt_lt {s : ByteArray} {i c : Int} (h : isAt s i c = true) : i < s.size := by simp [isAt] at h; omega
theorem letterAt_lt {s : ByteArray} {i : Int} (h : letterAt s i = true) : i < s.size := by simp [letterAt] at h; omega
theorem digitAt_lt {s : ByteArray} {i : Int} (h : digitAt s i = true) : i < s.size := by simp [digitAt] at h; omega
theorem goesAt_lt {s : ByteArray} {i : Int} (h : goesAt s i = true) : i < s.size := by
  simp only [goesAt, Bool.or_eq_true] at h
  rcases h with h | h | h
  · exact letterAt_lt h
  · exact digitAt_lt h
  · exact isAt_lt h

/-- The first place from i on at which p fails: p holds only inside of s. -/
def whileF (p : Int → Bool) : Nat → Int → Int
  | 0, i => i
  | k + 1, i => if p i then whileF p k (i + 1) else i
def upTo (p : Int → Bool) (n : Nat) (i : Int) : Int := whileF p (n - i.toNat) i
theorem upTo_step {p : Int → Bool} {n : Nat} {i : Int} (h0 : 0 ≤ i) (h : p i = true) (hl : i < n) : upTo p n i = upTo p n (i + 1) := by
  unfold upTo
  rw [show n - i.toNat = (n - (i + 1).toNat) + 1 from by omega]
  conv => lhs; unfold whileF
  rw [if_pos h]
theorem upTo_stop {p : Int → Bool} {n : Nat} {i : Int} (h : p i = false) : upTo p n i = i := by
  unfold upTo
  generalize n - i.toNat = k
  cases k with
  | zero => rfl
  | succ k => unfold whileF; rw [if_neg (by rw [h]; simp)]
theorem whileF_ge {p : Int → Bool} : ∀ (k : Nat) (i : Int), i ≤ whileF p k i
  | 0, _ => Int.le_refl _
  | k + 1, i => by unfold whileF; split; exact Int.le_trans (by omega) (whileF_ge k (i + 1)); exact Int.le_refl _
theorem upTo_ge {p : Int → Bool} {n : Nat} {i : Int} : i ≤ upTo p n i := whileF_ge _ _
theorem whileF_le {p : Int → Bool} : ∀ (k : Nat) (i : Int), whileF p k i ≤ i + k
  | 0, _ => by unfold whileF; omega
  | k + 1, i => by unfold whileF; split; exact Int.le_trans (whileF_le k (i + 1)) (by omega); omega
theorem upTo_le {p : Int → Bool} {n : Nat} {i : Int} (h0 : 0 ≤ i) (h : i ≤ n) : upTo p n i ≤ n := by
  have := whileF_le (p := p) (n - i.toNat) i; unfold upTo; omega
/-- Where it stops inside, p fails. -/
theorem whileF_end {p : Int → Bool} : ∀ (k : Nat) (i : Int), whileF p k i < i + k → p (whileF p k i) = false
  | 0, i, h => by unfold whileF at h; omega
  | k + 1, i, h => by
    unfold whileF at h ⊢
    by_cases hp : p i = true
    · rw [if_pos hp] at h ⊢; exact whileF_end k (i + 1) (by omega)
    · rw [if_neg hp]; simpa using hp
theorem upTo_end {p : Int → Bool} {n : Nat} {i : Int} (h0 : 0 ≤ i) (hn : ∀ j : Int, p j = true → j < n) : p (upTo p n i) = false := by
  by_cases h : upTo p n i < i + ((n - i.toNat : Nat) : Int)
  · exact whileF_end _ _ h
  · cases hp : p (upTo p n i) with
    | false => rfl
    | true => have := hn _ hp; omega
/-- Before where it stops, p holds. -/
theorem whileF_mem {p : Int → Bool} : ∀ (k : Nat) (i j : Int), i ≤ j → j < whileF p k i → p j = true
  | 0, i, j, h1, h2 => by unfold whileF at h2; omega
  | k + 1, i, j, h1, h2 => by
    unfold whileF at h2
    by_cases hp : p i = true
    · rw [if_pos hp] at h2
      by_cases e : i = j
      · rw [← e]; exact hp
      · exact whileF_mem k (i + 1) j (by omega) h2
    · rw [if_neg hp] at h2; omega
theorem upTo_mem {p : Int → Bool} {n : Nat} {i j : Int} (h1 : i ≤ j) (h2 : j < upTo p n i) : p j = true := whileF_mem _ _ _ h1 h2

def isBlank (s : ByteArray) (i : Int) : Bool := isAt s i 32 || (isAt s i 9 || (isAt s i 10 || isAt s i 13))
theorem isBlank_lt {s : ByteArray} {i : Int} (h : isBlank s i = true) : i < s.size := by
  simp only [isBlank, Bool.or_eq_true] at h
  rcases h with h | h | h | h <;> exact isAt_lt h
/-- The place behind blanks. -/
def blanks (s : ByteArray) (i : Int) : Int := upTo (isBlank s) s.size i
/-- The place behind a word's letters. -/
def wordEnd (s : ByteArray) (i : Int) : Int := upTo (goesAt s) s.size i
/-- The place behind digits. -/
def digitsEnd (s : ByteArray) (i : Int) : Int := upTo (digitAt s) s.size i

end Go.Proofs.YtdlkdecigpaaaaaGreatDoor
namespace Go.Proofs.YtdlkdecigpaaaaaGreatDoor
set_option linter.unusedVariables false
set_option linter.unusedSimpArgs false
open Go.RowKit

/-- w' is w with new blocks; of the old ones, those of S alone may have turned. -/
structure Keeps (S : List Nat) (w w' : World) : Prop where
  os : w'.os = w.os
  tape : w'.tape = w.tape
  output : w'.output = w.output
  size : w.heap.size ≤ w'.heap.size
  block : ∀ k, k < w.heap.size → k ∉ S → w'.heap[k]? = w.heap[k]?
section
variable {S S' : List Nat} {w w1 w2 : World}
theorem Keeps.refl (S : List Nat) (w : World) : Keeps S w w := ⟨rfl, rfl, rfl, Nat.le_refl _, fun _ _ _ => rfl⟩
theorem Keeps.trans (h : Keeps S w w1) (k : Keeps S w1 w2) : Keeps S w w2 :=
  ⟨k.os.trans h.os, k.tape.trans h.tape, k.output.trans h.output, Nat.le_trans h.size k.size, fun i hi hn => (k.block i (Nat.lt_of_lt_of_le hi h.size) hn).trans (h.block i hi hn)⟩
theorem Keeps.mono (h : Keeps S w w1) (hs : ∀ k, k ∈ S → k < w.heap.size → k ∈ S') : Keeps S' w w1 :=
  ⟨h.os, h.tape, h.output, h.size, fun i hi hn => h.block i hi fun hm => hn (hs i hm hi)⟩
/-- A further step that may turn blocks that are new since w, too. -/
theorem Keeps.step (h : Keeps S w w1) (k : Keeps S' w1 w2) (hs : ∀ b, b ∈ S' → b < w.heap.size → b ∈ S) : Keeps S w w2 :=
  ⟨k.os.trans h.os, k.tape.trans h.tape, k.output.trans h.output, Nat.le_trans h.size k.size, fun i hi hn => (k.block i (Nat.lt_of_lt_of_le hi h.size) fun hm => hn (hs i hm hi)).trans (h.block i hi hn)⟩
theorem Keeps.drew (h : Keeps S w w1) : Keeps S w w1.drew := ⟨h.os, h.tape, h.output, h.size, h.block⟩
theorem Keeps.drewN (h : Keeps S w w1) (n : Nat) : Keeps S w (w1.drewN n) := ⟨h.os, h.tape, h.output, h.size, h.block⟩
theorem Keeps.alloc (h : Keeps S w w1) (o : Obj) : Keeps S w (w1.alloc o) :=
  ⟨h.os, h.tape, h.output, Nat.le_trans h.size (by rw [World.size_alloc]; omega), fun i hi hn => (Below.heap_alloc w1 o i (Nat.lt_of_lt_of_le hi h.size)).trans (h.block i hi hn)⟩
theorem Keeps.set (h : Keeps S w w1) {p : Addr} (hp : p.block ∈ S ∨ w.heap.size ≤ p.block) (v : Value) : Keeps S w (w1.setCell p v) :=
  ⟨h.os, h.tape, h.output, by rw [World.size_setCell]; exact h.size, fun i hi hn => (Below.heap_setCell w1 p v i (by
    rcases hp with hp | hp
    · exact fun e => hn (e ▸ hp)
    · omega)).trans (h.block i hi hn)⟩
theorem Keeps.below (h : Below w.heap.size w w1) : Keeps S w w1 := ⟨h.os, h.tape, h.output, h.size, fun i hi _ => h.block i hi⟩
theorem Keeps.to_below {B : Nat} (h : Keeps S w w1) (hB : B ≤ w.heap.size) (hs : ∀ k, k ∈ S → B ≤ k) : Below B w w1 :=
  ⟨h.os, h.tape, h.output, h.size, fun i hi => h.block i (Nat.lt_of_lt_of_le hi hB) fun hm => by have := hs i hm; omega⟩
theorem Keeps.nil_below (h : Keeps [] w w1) : Below w.heap.size w w1 := h.to_below (Nat.le_refl _) (by simp)
theorem Keeps.heap (h : Keeps S w w1) {b : Nat} {o : Obj} (hb : w.heap[b]? = some o) (hn : b ∉ S) : w1.heap[b]? = some o := (h.block b (hk_lt hb) hn).trans hb
theorem Keeps.same (h : Keeps [] w w1) {b : Nat} {o : Obj} (hb : w.heap[b]? = some o) : w1.heap[b]? = some o := h.heap hb (by simp)
end
end Go.Proofs.YtdlkdecigpaaaaaGreatDoor
namespace Go.Proofs.YtdlkdecigpaaaaaGreatDoor
set_option linter.unusedVariables false
set_option linter.unusedSimpArgs false
open Go.RowKit

/-- What figures are, the lowest first. -/
def valF : List Int → Int
  | [] => 0
  | a :: r => a + 10000 * valF r
def Dig (l : List Int) : Prop := ∀ x ∈ l, 0 ≤ x ∧ x ≤ 9999
/-- Figures without noughts at the high end. -/
def Can (l : List Int) : Prop := Dig l ∧ l.getLast? ≠ some 0
theorem Dig.cons {a : Int} {r : List Int} (h : Dig (a :: r)) : (0 ≤ a ∧ a ≤ 9999) ∧ Dig r := ⟨h a (.head _), fun x hx => h x (.tail _ hx)⟩
theorem Dig.app {l m : List Int} (h : Dig l) (k : Dig m) : Dig (l ++ m) := fun x hx => (List.mem_append.1 hx).elim (h x) (k x)
theorem Dig.one {a : Int} (h : 0 ≤ a ∧ a ≤ 9999) : Dig [a] := fun x hx => by simp at hx; subst hx; exact h
theorem Dig.take {l : List Int} (h : Dig l) (k : Nat) : Dig (l.take k) := fun x hx => h x (List.mem_of_mem_take hx)
theorem valF_nonneg : ∀ {l : List Int}, Dig l → 0 ≤ valF l
  | [], _ => by simp [valF]
  | a :: r, h => by
    have := valF_nonneg h.cons.2
    have := h.cons.1
    simp only [valF]; omega
theorem valF_app : ∀ (l m : List Int), valF (l ++ m) = valF l + 10000 ^ l.length * valF m
  | [], m => by simp [valF]
  | a :: r, m => by
    simp only [List.cons_append, valF, valF_app r m, List.length_cons, Int.pow_succ]
    rw [Int.mul_comm (10000 ^ r.length) 10000, Int.mul_assoc, Int.mul_add, Int.add_assoc]
theorem pow_pos' (k : Nat) : (0 : Int) < 10000 ^ k := Int.pow_pos (by omega)
theorem valF_lt : ∀ {l : List Int}, Dig l → valF l < 10000 ^ l.length
  | [], _ => by simp [valF]
  | a :: r, h => by
    have := valF_lt h.cons.2
    have := h.cons.1
    simp only [valF, List.length_cons, Int.pow_succ]; omega
theorem valF_pos : ∀ {l : List Int}, Can l → l ≠ [] → 0 < valF l
  | [], _, h => absurd rfl h
  | [a], h, _ => by
    have h1 := h.1.cons.1
    have : a ≠ 0 := fun e => h.2 (by rw [e]; rfl)
    simp only [valF]; omega
  | a :: b :: r, h, _ => by
    have h1 := h.1.cons.1
    have := valF_pos (l := b :: r) ⟨h.1.cons.2, by have := h.2; rwa [List.getLast?_cons_cons] at this⟩ (by simp)
    simp only [valF] at this ⊢; omega
/-- Clean figures are told by what they are. -/
theorem can_inj : ∀ {l m : List Int}, Can l → Can m → valF l = valF m → l = m
  | [], [], _, _, _ => rfl
  | [], b :: r, _, k, h => by have := valF_pos k (by simp); simp only [valF] at *; omega
  | a :: r, [], h, _, e => by have := valF_pos h (by simp); simp only [valF] at *; omega
  | a :: r, b :: q, h, k, e => by
    have h1 := h.1.cons.1
    have k1 := k.1.cons.1
    simp only [valF] at e
    have hab : a = b := by omega
    have hv : valF r = valF q := by omega
    have hc : ∀ {x : Int} {l : List Int}, Can (x :: l) → Can l := by
      intro x l hl
      refine ⟨hl.1.cons.2, ?_⟩
      cases l with
      | nil => simp
      | cons y z => have := hl.2; rwa [List.getLast?_cons_cons] at this
    rw [hab, can_inj (hc h) (hc k) hv]
/-- How many are left without the noughts at the high end. -/
def trimF (l : List Int) : Nat → Nat
  | 0 => 0
  | k + 1 => if l[k]? = some 0 then trimF l k else k + 1
theorem trim_le (l : List Int) : ∀ k, trimF l k ≤ k
  | 0 => Nat.le_refl _
  | k + 1 => by unfold trimF; split; exact Nat.le_succ_of_le (trim_le l k); exact Nat.le_refl _
theorem trim_val (l : List Int) : ∀ k, k ≤ l.length → valF (l.take (trimF l k)) = valF (l.take k)
  | 0, _ => rfl
  | k + 1, h => by
    unfold trimF
    split
    · rename_i h0
      rw [trim_val l k (by omega), List.take_add_one, h0]
      simp [valF_app, valF]
    · rfl
theorem trim_can {l : List Int} (h : Dig l) : ∀ k, k ≤ l.length → Can (l.take (trimF l k))
  | 0, _ => ⟨by simp [trimF, Dig], by simp [trimF]⟩
  | k + 1, hk => by
    unfold trimF
    split
    · exact trim_can h k (by omega)
    · rename_i h0
      refine ⟨h.take _, ?_⟩
      rw [List.getLast?_take, if_neg (by omega)]
      obtain ⟨x, hx⟩ : ∃ x, l[k]? = some x := ⟨l[k], List.getElem?_eq_getElem (by omega)⟩
      rw [Nat.add_sub_cancel, hx]
      intro e; simp at e; exact h0 (by rw [hx, e])
/-- The figures of both, with what is over. -/
def stepF (f : Int) : Int × Int := if f ≥ 10000 then (f - 10000, 1) else if f < 0 then (f + 10000, -1) else (f, 0)
def bothF (sign : Int) : Int → List Int → List Int → List Int × Int
  | o, [], [] => ([], o)
  | o, a :: r, [] => let s := stepF (o + a); let t := bothF sign s.2 r []; (s.1 :: t.1, t.2)
  | o, [], b :: q => let s := stepF (o + sign * b); let t := bothF sign s.2 [] q; (s.1 :: t.1, t.2)
  | o, a :: r, b :: q => let s := stepF (o + a + sign * b); let t := bothF sign s.2 r q; (s.1 :: t.1, t.2)
theorem stepF_val (f : Int) : (stepF f).1 + 10000 * (stepF f).2 = f := by unfold stepF; split; simp only; omega; split <;> simp only <;> omega
theorem stepF_dig {f : Int} (h1 : -10000 ≤ f) (h2 : f ≤ 19999) : (0 ≤ (stepF f).1 ∧ (stepF f).1 ≤ 9999) ∧ -1 ≤ (stepF f).2 ∧ (stepF f).2 ≤ 1 := by
  unfold stepF; split; simp only; omega; split <;> simp only <;> omega
theorem stepF_over1 {f : Int} (h1 : 0 ≤ f) : 0 ≤ (stepF f).2 := by unfold stepF; split; simp only; omega; split <;> simp only <;> omega
theorem stepF_overm {f : Int} (h1 : f ≤ 9999) : (stepF f).2 ≤ 0 := by unfold stepF; split; simp only; omega; split <;> simp only <;> omega
theorem both_len (sign : Int) : ∀ (o : Int) (a b : List Int), (bothF sign o a b).1.length = max a.length b.length
  | o, [], [] => by simp [bothF]
  | o, a :: r, [] => by
    have := both_len sign (stepF (o + a)).2 r []
    simp only [bothF, List.length_cons, this]; simp
  | o, [], b :: q => by
    have := both_len sign (stepF (o + sign * b)).2 [] q
    simp only [bothF, List.length_cons, this]; simp
  | o, a :: r, b :: q => by
    have := both_len sign (stepF (o + a + sign * b)).2 r q
    simp only [bothF, List.length_cons, this]; omega
termination_by o a b => a.length + b.length
theorem both_val (sign : Int) : ∀ (o : Int) (a b : List Int), valF (bothF sign o a b).1 + 10000 ^ (max a.length b.length) * (bothF sign o a b).2 = o + valF a + sign * valF b
  | o, [], [] => by simp [bothF, valF]
  | o, a :: r, [] => by
    have ih := both_val sign (stepF (o + a)).2 r []
    have hs := stepF_val (o + a)
    simp only [bothF, valF, List.length_cons, List.length_nil, Nat.max_zero, Int.pow_succ, Int.mul_zero, Int.add_zero] at ih ⊢
    rw [Int.mul_comm (10000 ^ r.length) 10000, Int.mul_assoc]
    omega
  | o, [], b :: q => by
    have ih := both_val sign (stepF (o + sign * b)).2 [] q
    have hs := stepF_val (o + sign * b)
    simp only [bothF, valF, List.length_cons, List.length_nil, Nat.zero_max, Int.pow_succ, Int.add_zero] at ih ⊢
    rw [Int.mul_comm (10000 ^ q.length) 10000, Int.mul_assoc, Int.mul_add, Int.mul_left_comm sign 10000]
    omega
  | o, a :: r, b :: q => by
    have ih := both_val sign (stepF (o + a + sign * b)).2 r q
    have hs := stepF_val (o + a + sign * b)
    have hm : max (r.length + 1) (q.length + 1) = max r.length q.length + 1 := by omega
    simp only [bothF, valF, List.length_cons, hm, Int.pow_succ] at ih ⊢
    rw [Int.mul_comm (10000 ^ max r.length q.length) 10000, Int.mul_assoc, Int.mul_add sign, Int.mul_left_comm sign 10000]
    omega
theorem both_dig {sign : Int} (hs : sign = 1 ∨ sign = -1) : ∀ {o : Int} {a b : List Int}, (-1 ≤ o ∧ o ≤ 1) → Dig a → Dig b → Dig (bothF sign o a b).1
  | o, [], [], _, _, _ => by simp [bothF, Dig]
  | o, a :: r, [], ho, ha, hb => by
    have h1 := ha.cons.1
    have h2 := stepF_dig (f := o + a) (by omega) (by omega)
    have := both_dig hs (o := (stepF (o + a)).2) (a := r) (b := []) h2.2 ha.cons.2 hb
    intro x hx
    simp only [bothF, List.mem_cons] at hx
    rcases hx with rfl | hx
    · exact h2.1
    · exact this x hx
  | o, [], b :: q, ho, ha, hb => by
    have h1 := hb.cons.1
    have h2 := stepF_dig (f := o + sign * b) (by rcases hs with rfl | rfl <;> omega) (by rcases hs with rfl | rfl <;> omega)
    have := both_dig hs (o := (stepF (o + sign * b)).2) (a := []) (b := q) h2.2 ha hb.cons.2
    intro x hx
    simp only [bothF, List.mem_cons] at hx
    rcases hx with rfl | hx
    · exact h2.1
    · exact this x hx
  | o, a :: r, b :: q, ho, ha, hb => by
    have h1 := ha.cons.1
    have h3 := hb.cons.1
    have h2 := stepF_dig (f := o + a + sign * b) (by rcases hs with rfl | rfl <;> omega) (by rcases hs with rfl | rfl <;> omega)
    have := both_dig hs (o := (stepF (o + a + sign * b)).2) (a := r) (b := q) h2.2 ha.cons.2 hb.cons.2
    intro x hx
    simp only [bothF, List.mem_cons] at hx
    rcases hx with rfl | hx
    · exact h2.1
    · exact this x hx

theorem both_over {sign : Int} (hs : sign = 1 ∨ sign = -1) : ∀ {o : Int} {a b : List Int}, (-1 ≤ o ∧ o ≤ 1) → Dig a → Dig b → -1 ≤ (bothF sign o a b).2 ∧ (bothF sign o a b).2 ≤ 1
  | o, [], [], ho, _, _ => by simpa [bothF] using ho
  | o, a :: r, [], ho, ha, hb => by
    have h1 := ha.cons.1
    have h2 := stepF_dig (f := o + a) (by omega) (by omega)
    simpa only [bothF] using both_over hs (o := (stepF (o + a)).2) (a := r) (b := []) h2.2 ha.cons.2 hb
  | o, [], b :: q, ho, ha, hb => by
    have h1 := hb.cons.1
    have h2 := stepF_dig (f := o + sign * b) (by rcases hs with rfl | rfl <;> omega) (by rcases hs with rfl | rfl <;> omega)
    simpa only [bothF] using both_over hs (o := (stepF (o + sign * b)).2) (a := []) (b := q) h2.2 ha hb.cons.2
  | o, a :: r, b :: q, ho, ha, hb => by
    have h1 := ha.cons.1
    have h3 := hb.cons.1
    have h2 := stepF_dig (f := o + a + sign * b) (by rcases hs with rfl | rfl <;> omega) (by rcases hs with rfl | rfl <;> omega)
    simpa only [bothF] using both_over hs (o := (stepF (o + a + sign * b)).2) (a := r) (b := q) h2.2 ha.cons.2 hb.cons.2
def bothL (sign : Int) (a b : List Int) : List Int := if 0 < (bothF sign 0 a b).2 then (bothF sign 0 a b).1 ++ [(bothF sign 0 a b).2] else (bothF sign 0 a b).1
theorem bothL_dig {sign : Int} (hs : sign = 1 ∨ sign = -1) {a b : List Int} (ha : Dig a) (hb : Dig b) : Dig (bothL sign a b) := by
  have h := both_dig hs (o := 0) (by omega) ha hb
  have h2 := both_over hs (o := 0) (by omega) ha hb
  unfold bothL; split
  · exact h.app (Dig.one (by omega))
  · exact h
theorem bothL_len (sign : Int) (a b : List Int) : (bothL sign a b).length ≤ max a.length b.length + 1 := by
  unfold bothL; split
  · rw [List.length_append, both_len]; simp
  · rw [both_len]; omega
theorem bothL_add {a b : List Int} (ha : Dig a) (hb : Dig b) : valF (bothL 1 a b) = valF a + valF b := by
  have hv := both_val 1 0 a b
  have ho := both_over (.inl rfl) (o := 0) (by omega) ha hb
  have hd := both_dig (.inl rfl) (o := 0) (by omega) ha hb
  have hl := valF_lt hd
  have ha0 := valF_nonneg ha
  have hb0 := valF_nonneg hb
  have hlen := both_len 1 0 a b
  rw [both_len] at hl
  rw [Int.one_mul, Int.zero_add] at hv
  unfold bothL
  have hp := pow_pos' (max a.length b.length)
  generalize bothF 1 0 a b = t at *
  obtain ⟨d, o⟩ := t
  simp only at *
  by_cases h : 0 < o
  · rw [if_pos h, valF_app]
    obtain rfl : o = 1 := by omega
    simp only [valF]
    rw [hlen]; omega
  · rw [if_neg h]
    by_cases h2 : o = 0
    · subst h2; omega
    · obtain rfl : o = -1 := by omega
      omega
theorem bothL_sub {a b : List Int} (ha : Dig a) (hb : Dig b) (hle : valF b ≤ valF a) : valF (bothL (-1) a b) = valF a - valF b := by
  have hv := both_val (-1) 0 a b
  have ho := both_over (.inr rfl) (o := 0) (by omega) ha hb
  have hd := both_dig (.inr rfl) (o := 0) (by omega) ha hb
  have hl := valF_lt hd
  have hd0 := valF_nonneg hd
  have hb0 := valF_nonneg hb
  have hla := valF_lt ha
  have hlen := both_len (-1) 0 a b
  have hpa : (10000 : Int) ^ a.length ≤ 10000 ^ (max a.length b.length) := by
    have : max a.length b.length = a.length + (max a.length b.length - a.length) := by omega
    rw [this, Int.pow_add]
    have h1 := pow_pos' a.length
    have h2 := pow_pos' (max a.length b.length - a.length)
    have h3 : (10000 : Int) ^ a.length * 1 ≤ 10000 ^ a.length * 10000 ^ (max a.length b.length - a.length) := Int.mul_le_mul_of_nonneg_left (by omega) (by omega)
    omega
  rw [both_len] at hl
  rw [Int.zero_add] at hv
  unfold bothL
  generalize bothF (-1) 0 a b = t at *
  obtain ⟨d, o⟩ := t
  simp only at *
  by_cases h : 0 < o
  · obtain rfl : o = 1 := by omega
    omega
  · rw [if_neg h]
    by_cases h2 : o = 0
    · subst h2; omega
    · obtain rfl : o = -1 := by omega
      omega
/-- One round of 'both'. -/
def dgt (l : List Int) (i : Nat) : Int := l.getD i 0
theorem both_round (sign o : Int) (a b : List Int) (i : Nat) (h : i < a.length ∨ i < b.length) :
    bothF sign o (a.drop i) (b.drop i) = ((stepF (o + dgt a i + sign * dgt b i)).1 :: (bothF sign (stepF (o + dgt a i + sign * dgt b i)).2 (a.drop (i + 1)) (b.drop (i + 1))).1, (bothF sign (stepF (o + dgt a i + sign * dgt b i)).2 (a.drop (i + 1)) (b.drop (i + 1))).2) := by
  have hx : ∀ l : List Int, i < l.length → l.drop i = dgt l i :: l.drop (i + 1) := by
    intro l hl
    rw [List.drop_eq_getElem_cons hl, dgt, List.getD_eq_getElem?_getD, List.getElem?_eq_getElem hl]; rfl
  have hy : ∀ l : List Int, ¬ i < l.length → l.drop i = [] ∧ l.drop (i + 1) = [] ∧ dgt l i = 0 := by
    intro l hl
    refine ⟨List.drop_of_length_le (by omega), List.drop_of_length_le (by omega), ?_⟩
    rw [dgt, List.getD_eq_getElem?_getD, List.getElem?_eq_none (by omega)]; rfl
  by_cases ha : i < a.length
  · by_cases hb : i < b.length
    · rw [hx a ha, hx b hb]; simp only [bothF]
    · obtain ⟨e1, e2, e3⟩ := hy b hb
      rw [hx a ha, e1, e2, e3]; simp only [bothF, Int.mul_zero, Int.add_zero]
  · obtain ⟨e1, e2, e3⟩ := hy a ha
    by_cases hb : i < b.length
    · rw [hx b hb, e1, e2, e3]; simp only [bothF, Int.add_zero]
    · omega
theorem dgt_range {l : List Int} (h : Dig l) (i : Nat) : 0 ≤ dgt l i ∧ dgt l i ≤ 9999 := by
  rw [dgt, List.getD_eq_getElem?_getD]
  cases hx : l[i]? with
  | none => simp
  | some x => exact h x (List.mem_of_getElem? hx)
theorem dgt_at {l : List Int} {i : Nat} (h : i < l.length) : l[i]? = some (dgt l i) := by rw [dgt, List.getD_eq_getElem?_getD, List.getElem?_eq_getElem h]; rfl
theorem dgt_out {l : List Int} {i : Nat} (h : ¬ i < l.length) : dgt l i = 0 := by rw [dgt, List.getD_eq_getElem?_getD, List.getElem?_eq_none (by omega)]; rfl
/-- Which figures are less, of the same length, from the high end on. -/
def lessFrom (a b : List Int) : Nat → Bool
  | 0 => false
  | k + 1 => if dgt a k ≠ dgt b k then decide (dgt a k < dgt b k) else lessFrom a b k
def lessL (a b : List Int) : Bool := if a.length ≠ b.length then decide (a.length < b.length) else lessFrom a b a.length
theorem lessFrom_val {a b : List Int} (ha : Dig a) (hb : Dig b) : ∀ k, k ≤ a.length → k ≤ b.length → lessFrom a b k = decide (valF (a.take k) < valF (b.take k))
  | 0, _, _ => by simp [lessFrom, valF]
  | k + 1, h1, h2 => by
    have ih := lessFrom_val ha hb k (by omega) (by omega)
    have ea : a.take (k + 1) = a.take k ++ [dgt a k] := by rw [List.take_add_one, dgt_at (by omega)]; rfl
    have eb : b.take (k + 1) = b.take k ++ [dgt b k] := by rw [List.take_add_one, dgt_at (by omega)]; rfl
    have la : (a.take k).length = k := by rw [List.length_take]; omega
    have lb : (b.take k).length = k := by rw [List.length_take]; omega
    have va := valF_lt (ha.take k); rw [la] at va
    have vb := valF_lt (hb.take k); rw [lb] at vb
    have na := valF_nonneg (ha.take k)
    have nb := valF_nonneg (hb.take k)
    have hp := pow_pos' k
    rw [ea, eb, valF_app, valF_app, la, lb, lessFrom]
    simp only [valF, Int.mul_zero, Int.add_zero]
    generalize dgt a k = x at *
    generalize dgt b k = y at *
    generalize valF (a.take k) = u at *
    generalize valF (b.take k) = v at *
    generalize (10000 : Int) ^ k = p at *
    by_cases e : x = y
    · subst e; rw [if_neg (by simp), ih]; rw [Bool.eq_iff_iff]; simp
    · rw [if_pos e, Bool.eq_iff_iff]
      simp only [decide_eq_true_eq]
      constructor
      · intro h
        have : p * (x + 1) ≤ p * y := Int.mul_le_mul_of_nonneg_left (by omega) (by omega)
        rw [Int.mul_add, Int.mul_one] at this; omega
      · intro h
        by_cases h' : x < y
        · exact h'
        · have : p * (y + 1) ≤ p * x := Int.mul_le_mul_of_nonneg_left (by omega) (by omega)
          rw [Int.mul_add, Int.mul_one] at this; omega
theorem valF_ge : ∀ {l : List Int}, Can l → l ≠ [] → 10000 ^ (l.length - 1) ≤ valF l
  | [], _, h => absurd rfl h
  | [a], h, _ => by have := valF_pos h (by simp); simp only [valF] at *; simp; omega
  | a :: b :: r, h, _ => by
    have h1 := h.1.cons.1
    have ih := valF_ge (l := b :: r) ⟨h.1.cons.2, by have := h.2; rwa [List.getLast?_cons_cons] at this⟩ (by simp)
    have e : (a :: b :: r).length - 1 = ((b :: r).length - 1) + 1 := by simp
    rw [e, Int.pow_succ]
    simp only [valF] at ih ⊢
    omega
theorem lessL_val {a b : List Int} (ha : Can a) (hb : Can b) : lessL a b = decide (valF a < valF b) := by
  have hlt : ∀ {a b : List Int}, Can a → Can b → a.length < b.length → valF a < valF b := by
    intro a b ha hb h
    have h1 := valF_lt ha.1
    have h2 := valF_ge hb (by intro e; rw [e] at h; simp at h)
    have h3 : (10000 : Int) ^ a.length ≤ 10000 ^ (b.length - 1) := by
      have : b.length - 1 = a.length + (b.length - 1 - a.length) := by omega
      rw [this, Int.pow_add]
      have h4 := pow_pos' a.length
      have h5 := pow_pos' (b.length - 1 - a.length)
      have h6 : (10000 : Int) ^ a.length * 1 ≤ 10000 ^ a.length * 10000 ^ (b.length - 1 - a.length) := Int.mul_le_mul_of_nonneg_left (by omega) (by omega)
      omega
    omega
  unfold lessL
  by_cases h : a.length = b.length
  · rw [if_neg (by omega), lessFrom_val ha.1 hb.1 _ (Nat.le_refl _) (by omega), List.take_of_length_le (Nat.le_refl _), List.take_of_length_le (by omega)]
  · rw [if_pos h, Bool.eq_iff_iff]
    simp only [decide_eq_true_eq]
    constructor
    · exact hlt ha hb
    · intro h2
      by_cases h3 : a.length < b.length
      · exact h3
      · have := hlt hb ha (by omega); omega
end Go.Proofs.YtdlkdecigpaaaaaGreatDoor
namespace Go.Proofs.YtdlkdecigpaaaaaGreatDoor
set_option linter.unusedVariables false
set_option linter.unusedSimpArgs false
open Go.RowKit
set_option maxHeartbeats 400000 in
theorem is_any (s : ByteArray) (i c : Int) (w : World) (h0 : 0 ≤ i) :
    Calls Tryz.prog 56 #[.string s, .int .i64 i, .int .u8 c] w fun e w' => e = .returned (.bool (isAt s i c)) ∧ w = w' := by
  by_cases h : i < s.size
  · have hb := bt_at s i
    have hr : isAt s i c = (bt s i == c) := by simp [isAt, h]
    rw [hr]
    go_enter Tryz.func56, Tryz.ntmps56
    go_wp2
    go_ret
    exact ⟨rfl, rfl⟩
  · have hr : isAt s i c = false := by simp [isAt]; omega
    rw [hr]
    go_enter Tryz.func56, Tryz.ntmps56
    go_wp2
    go_ret
    exact ⟨rfl, rfl⟩
set_option maxHeartbeats 400000 in
theorem blanks_any (s : ByteArray) (i : Int) (w : World) (h0 : 0 ≤ i) (hs : s.size ≤ 9223372036854775807) :
    Calls Tryz.prog 30 #[.string s, .int .i64 i] w fun e w' => e = .returned (.int .i64 (blanks s i)) ∧ w = w' := by
  go_enter Tryz.func30, Tryz.ntmps30
  go_wp2
  go_loop [1] (fun t => ∃ j : Int, 0 ≤ j ∧ t = .int .i64 j ∧ Hid (blanks s i = blanks s j)) (fun t => s.size - (intOf t).toNat)
  case atStart => exact ⟨i, h0, rfl, Lib.hid rfl⟩
  case round =>
    obtain ⟨j, hj, rfl, H⟩ := hrel
    have hlt : isBlank s j = true → j < s.size := isBlank_lt
    have h1 : isBlank s j = true → blanks s j = blanks s (j + 1) := fun h => upTo_step hj h (isBlank_lt h)
    have h2 : isBlank s j = false → blanks s j = j := upTo_stop
    unfold isBlank at hlt h1 h2
    cases b1 : isAt s j 32 <;> cases b2 : isAt s j 9 <;> cases b3 : isAt s j 10 <;> cases b4 : isAt s j 13
    all_goals
      simp only [b1, b2, b3, b4, Bool.or_true, Bool.or_false, true_imp_iff, reduceCtorEq, false_imp_iff] at hlt h1 h2
    all_goals
      first
      | (have H2 := Lib.hid (H.out.trans h2); clear h1 h2 H hlt
         go_wp2_with (first | (go_at_call 56; refine (is_any _ _ _ _ (by omega)).mono ?_; rintro e w' ⟨rfl, rfl⟩))
         go_ret
         exact ⟨ret_i64 H2.out.symm, rfl⟩)
      | (have H2 := Lib.hid (H.out.trans h1); clear h1 h2 H
         go_wp2_with (first | (go_at_call 56; refine (is_any _ _ _ _ (by omega)).mono ?_; rintro e w' ⟨rfl, rfl⟩))
         go_round
         case rel => exact ⟨j + 1, by omega, rfl, H2⟩
         case measure => simp [intOf]; omega)
set_option maxHeartbeats 400000 in
theorem letter_any (s : ByteArray) (i : Int) (w : World) (h0 : 0 ≤ i) :
    Calls Tryz.prog 83 #[.string s, .int .i64 i] w fun e w' => e = .returned (.bool (letterAt s i)) ∧ w = w' := by
  have hb := bt_at s i
  have Hr : Hid (letterAt s i = (decide (i < s.size) && letterB (bt s i))) := Lib.hid rfl
  generalize letterAt s i = r at *
  by_cases h : i < s.size
  · go_enter Tryz.func83, Tryz.ntmps83
    go_wp2
    all_goals
      go_ret
      exact ⟨ret_bool (by rw [Hr.out, Bool.eq_iff_iff]; simp [letterB]; omega), rfl⟩
  · go_enter Tryz.func83, Tryz.ntmps83
    go_wp2
    go_ret
    exact ⟨ret_bool (by rw [Hr.out, Bool.eq_iff_iff]; simp [letterB]; omega), rfl⟩
set_option maxHeartbeats 400000 in
theorem digit8_any (s : ByteArray) (i : Int) (w : World) (h0 : 0 ≤ i) :
    Calls Tryz.prog 103 #[.string s, .int .i64 i] w fun e w' => e = .returned (.bool (digitAt s i)) ∧ w = w' := by
  have hb := bt_at s i
  have Hr : Hid (digitAt s i = (decide (i < s.size) && digitB (bt s i))) := Lib.hid rfl
  generalize digitAt s i = r at *
  by_cases h : i < s.size
  · go_enter Tryz.func103, Tryz.ntmps103
    go_wp2
    all_goals
      go_ret
      exact ⟨ret_bool (by rw [Hr.out, Bool.eq_iff_iff]; simp [digitB]; omega), rfl⟩
  · go_enter Tryz.func103, Tryz.ntmps103
    go_wp2
    go_ret
    exact ⟨ret_bool (by rw [Hr.out, Bool.eq_iff_iff]; simp [digitB]; omega), rfl⟩
set_option maxHeartbeats 400000 in
theorem goes_any (s : ByteArray) (i : Int) (w : World) (h0 : 0 ≤ i) :
    Calls Tryz.prog 84 #[.string s, .int .i64 i] w fun e w' => e = .returned (.bool (goesAt s i)) ∧ w = w' := by
  have hb := bt_at s i
  have Hr : Hid (goesAt s i = (letterAt s i || (digitAt s i || (decide (i < s.size) && (bt s i == 95))))) := Lib.hid rfl
  generalize goesAt s i = r at *
  by_cases h : i < s.size
  all_goals
    cases h1 : letterAt s i <;> cases h2 : digitAt s i
    all_goals
      go_enter Tryz.func84, Tryz.ntmps84
      go_wp2_with (first | (go_at_call 83; refine (letter_any _ _ _ (by omega)).mono ?_; rintro e w' ⟨rfl, rfl⟩) | (go_at_call 103; refine (digit8_any _ _ _ (by omega)).mono ?_; rintro e w' ⟨rfl, rfl⟩))
      go_ret
      exact ⟨ret_bool (by rw [Hr.out, Bool.eq_iff_iff]; simp [h1, h2, h]; try omega), rfl⟩
/-- The word behind a place and blanks, and the place behind it. -/
def wordAt (s : ByteArray) (i : Int) : ByteArray := if letterAt s (blanks s i) then s.extract (blanks s i).toNat (wordEnd s (blanks s i)).toNat else ⟨#[]⟩
def wordAtEnd (s : ByteArray) (i : Int) : Int := if letterAt s (blanks s i) then wordEnd s (blanks s i) else i
set_option maxHeartbeats 400000 in
theorem word_any (s : ByteArray) (i : Int) (w : World) (h0 : 0 ≤ i) (hs : s.size ≤ 9223372036854775807) :
    Calls Tryz.prog 58 #[.string s, .int .i64 i] w fun e w' => e = .returned (.tuple #[.string (wordAt s i), .int .i64 (wordAtEnd s i)]) ∧ w = w' := by
  have hg : 0 ≤ blanks s i := Int.le_trans h0 upTo_ge
  have Hr : Hid (wordAt s i = if letterAt s (blanks s i) then s.extract (blanks s i).toNat (wordEnd s (blanks s i)).toNat else ⟨#[]⟩) := Lib.hid rfl
  have Hr2 : Hid (wordAtEnd s i = if letterAt s (blanks s i) then wordEnd s (blanks s i) else i) := Lib.hid rfl
  generalize wordAt s i = r at *
  generalize wordAtEnd s i = r2 at *
  cases h1 : letterAt s (blanks s i)
  · have Hn := Lib.hid h1
    go_enter Tryz.func58, Tryz.ntmps58
    go_wp2_with (first | (go_at_call 30; refine (blanks_any _ _ _ (by omega) ‹_›).mono ?_; rintro e w' ⟨rfl, rfl⟩) | (go_at_call 83; refine (letter_any _ _ _ (by omega)).mono ?_; rintro e w' ⟨rfl, rfl⟩))
    go_ret2
    exact ⟨ret2 (congrArg Value.string (by rw [Hr.out, Hn.out]; simp)) (congrArg (Value.int .i64) (by rw [Hr2.out, Hn.out]; simp)), rfl⟩
  · have Hn := Lib.hid h1
    have hl := letterAt_lt h1
    go_enter Tryz.func58, Tryz.ntmps58
    go_wp2_with (first | (go_at_call 30; refine (blanks_any _ _ _ (by omega) ‹_›).mono ?_; rintro e w' ⟨rfl, rfl⟩) | (go_at_call 83; refine (letter_any _ _ _ (by omega)).mono ?_; rintro e w' ⟨rfl, rfl⟩))
    generalize hb : blanks s i = b at *
    go_loop [7] (fun t => ∃ j : Int, b ≤ j ∧ j ≤ s.size ∧ t = .int .i64 j ∧ Hid (wordEnd s b = wordEnd s j)) (fun t => s.size - (intOf t).toNat)
    case atStart => exact ⟨b, by omega, by omega, rfl, Lib.hid rfl⟩
    case round =>
      obtain ⟨j, hj, hj2, rfl, H⟩ := hrel
      cases h3 : goesAt s j
      · have H2 := Lib.hid (H.out.trans (upTo_stop h3))
        clear hb H
        go_wp2_with (first | (go_at_call 84; refine (goes_any _ _ _ (by omega)).mono ?_; rintro e w' ⟨rfl, rfl⟩))
        go_ret2
        exact ⟨ret2 (congrArg Value.string (by rw [Hr.out, if_pos Hn.out, H2.out])) (congrArg (Value.int .i64) (by rw [Hr2.out, if_pos Hn.out, H2.out])), rfl⟩
      · have hl := goesAt_lt h3
        have H2 := Lib.hid (H.out.trans (upTo_step (by omega) h3 hl))
        clear hb H
        go_wp2_with (first | (go_at_call 84; refine (goes_any _ _ _ (by omega)).mono ?_; rintro e w' ⟨rfl, rfl⟩))
        go_round
        case rel => exact ⟨j + 1, by omega, by omega, rfl, H2⟩
        case measure => simp [intOf]; omega
end Go.Proofs.YtdlkdecigpaaaaaGreatDoor
