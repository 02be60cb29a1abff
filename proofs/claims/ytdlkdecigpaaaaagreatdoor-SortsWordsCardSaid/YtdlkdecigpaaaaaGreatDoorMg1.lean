/- Put together: Bytes of a string, and what a walk's end wants: plain words for all texts of this seat; What a call leaves as it was: all old blocks but some; Words of a text, in the document's way and in the corpus's: what their calls answer. -/
import Derived.Test.YtdlkdecigpaaaaaGreatDoorProg
import Derived.WalkKit
import Derived.WalkSpells
import Derived.WalkLawsBesides
import Derived.BigQuiet
import Derived.Deep.QuietTactic
import Derived.Lib.Hide
import Derived.Deep.Light
import Derived.Deep.RegionWith
import Derived.StillTailTactics
import Derived.Deep.RegionHeld3
import Derived.Deep.RegionLaw
import Derived.Deep.DeepCutAuto
import Derived.Deep.CutBlock
import Derived.Deep.LoopGhost
import Derived.RegionTactic
namespace Go.Proofs.YtdlkdecigpaaaaaGreatDoor
set_option linter.unusedVariables false
set_option linter.unusedSimpArgs false
open Go.RowKit

/-- The byte of a string at a place, as a number; 0 beyond it. -/
def bt (s : ByteArray) (i : Int) : Int := if h : i.toNat < s.size then ((s[i.toNat]'h).toNat : Int) else 0
theorem bt_at (s : ByteArray) (i : Int) : ∀ h : i.toNat < s.size, ((s[i.toNat]'h).toNat : Int) = bt s i := fun h => by simp [bt, h]
theorem bt_range (s : ByteArray) (i : Int) : 0 ≤ bt s i ∧ bt s i ≤ 255 := by
  unfold bt; split
  · rename_i h; have := (s[i.toNat]'h).toNat_lt; omega
  · omega

theorem bl_drew {B : Nat} {w W : World} (h : Below B w W) : Below B w W.drew := ⟨h.os, h.tape, h.output, h.size, h.block⟩
theorem bl_drewN {B : Nat} {w W : World} (h : Below B w W) (n : Nat) : Below B w (W.drewN n) := ⟨h.os, h.tape, h.output, h.size, h.block⟩
theorem bl_alloc {w W : World} (h : Below w.heap.size w W) (o : Obj) : Below w.heap.size w (W.alloc o) := h.alloc h.size o
theorem bl_set {B : Nat} {w W : World} {p : Addr} (h : Below B w W) (hb : B ≤ p.block) (v : Value) : Below B w (W.setCell p v) := h.setCell hb v
theorem bl_step {w W w1 : World} (h : Below w.heap.size w W) (k : Below W.heap.size W w1) : Below w.heap.size w w1 := h.trans (k.mono h.size)
theorem bcell {W w1 : World} (hb : Below W.heap.size W w1) : (∀ b o, b < W.heap.size → w1.cell? ⟨b, o, none⟩ = W.cell? ⟨b, o, none⟩) ∧ (∀ b o, b < W.heap.size → w1.frozen? ⟨b, o, none⟩ = W.frozen? ⟨b, o, none⟩) :=
  ⟨fun b o h => hb.cell (p := ⟨b, o, none⟩) h, fun b o h => hb.frozen (p := ⟨b, o, none⟩) h⟩
section
variable {w : World} {b : Nat} {o : Obj}
theorem hk_lt (h : w.heap[b]? = some o) : b < w.heap.size := (Array.getElem?_eq_some_iff.1 h).1
theorem hk_alloc (h : w.heap[b]? = some o) (x : Obj) : (w.alloc x).heap[b]? = some o := (Below.heap_alloc w x b (hk_lt h)).trans h
theorem hk_drew (h : w.heap[b]? = some o) : w.drew.heap[b]? = some o := h
theorem hk_drewN (h : w.heap[b]? = some o) (n : Nat) : (w.drewN n).heap[b]? = some o := h
theorem hk_set (h : w.heap[b]? = some o) {p : Addr} (hp : b ≠ p.block) (v : Value) : (w.setCell p v).heap[b]? = some o := (Below.heap_setCell w p v b hp).trans h
theorem hk_below {w1 : World} (h : w.heap[b]? = some o) (hb : Below w.heap.size w w1) : w1.heap[b]? = some o := (hb.block b (hk_lt h)).trans h
theorem hk_belowN {w1 : World} {B : Nat} (h : w.heap[b]? = some o) (hb : Below B w w1) (hB : b < B) : w1.heap[b]? = some o := (hb.block b hB).trans h
end
/-- The walk goes on in whatever world of which these facts hold. -/
theorem abs_world {P : Program} {c : Code} {Q : Exit → Act → World → Prop} {a : Act} {W : World} (F : World → Prop) (hF : F W) (h : ∀ W', F W' → Code.wp P c Q a W') : Code.wp P c Q a W := h W hF
section
variable {w : World} {g : Nat} {cs : Array Value} {t : TypeId}
theorem cell_blk (h : w.heap[g]? = some (.cells cs t (0, 0))) : ∀ j, w.cell? ⟨g, j, none⟩ = cs[j]? := fun j => by simp [World.cell?, h]
theorem frozen_blk (h : w.heap[g]? = some (.cells cs t (0, 0))) : ∀ j, w.frozen? ⟨g, j, none⟩ = false := fun j => by simp [World.frozen?, h]
theorem set_blk (h : w.heap[g]? = some (.cells cs t (0, 0))) (i : Nat) (u : Value) : (w.setCell ⟨g, i, none⟩ u).heap[g]? = some (.cells (cs.setIfInBounds i u) t (0, 0)) := by
  have hg := (Array.getElem?_eq_some_iff.1 h).1
  simp only [World.setCell, Array.getElem?_modify, if_pos, h, Option.map_some]; simp
theorem set_same (h : w.heap[g]? = some (.cells cs t (0, 0))) (i : Nat) (u : Value) (e : cs[i]? = some u) : (w.setCell ⟨g, i, none⟩ u).heap[g]? = some (.cells cs t (0, 0)) := by
  rw [set_blk h i u]
  have : cs.setIfInBounds i u = cs := by
    apply Array.ext_getElem?
    intro j
    rw [Array.getElem?_setIfInBounds]
    split
    · rename_i hj; subst hj; rw [e, if_pos (Array.getElem?_eq_some_iff.1 e).1]
    · rfl
  rw [this]
theorem set_to (h : w.heap[g]? = some (.cells cs t (0, 0))) (i : Nat) (u : Value) {cs' : Array Value} (e : cs.setIfInBounds i u = cs') : (w.setCell ⟨g, i, none⟩ u).heap[g]? = some (.cells cs' t (0, 0)) := by
  rw [set_blk h i u, e]
theorem new_blk (w : World) (o : Obj) : (w.alloc o).heap[w.heap.size]? = some o := by show (w.heap.push o)[w.heap.size]? = some o; simp
end
theorem toList_data (s : ByteArray) : s.toList = s.data.toList := ByteArray.toList_eq s
theorem toList_nil {s : ByteArray} (h : s.size = 0) : s.toList = [] := by
  rw [toList_data]; apply List.eq_nil_of_length_eq_zero; rw [Array.length_toList]; exact h
theorem toList_ne {s : ByteArray} (h : ¬ s.size = 0) : s.toList.isEmpty = false := by
  rw [toList_data]
  cases e : s.data.toList with
  | nil => exact absurd (by have := congrArg List.length e; rw [Array.length_toList] at this; exact this) h
  | cons _ _ => rfl
theorem bytes_ext {a b : ByteArray} (h : a.toList = b.toList) : a = b := by
  rw [toList_data, toList_data] at h
  cases a; cases b; simp only at h; rw [Array.toList_inj] at h; rw [h]
theorem str_beq {a b : ByteArray} (h : a = b) : (a.toList == b.toList) = true := by rw [h]; simp
theorem str_bne {a b : ByteArray} (h : ¬ a = b) : (a.toList == b.toList) = false := by
  cases e : a.toList == b.toList with
  | false => rfl
  | true => exact absurd (bytes_ext (by simpa using e)) h
theorem ret_bool {a b : Bool} (h : a = b) : Ending.returned (.bool a) = .returned (.bool b) := by rw [h]
theorem ret_i64 {a b : Int} (h : a = b) : Ending.returned (.int .i64 a) = .returned (.int .i64 b) := by rw [h]
theorem ret_str {a b : ByteArray} (h : a = b) : Ending.returned (.string a) = .returned (.string b) := by rw [h]

theorem ret2 {a b c d : Value} (h : a = c) (k : b = d) : Ending.returned (.tuple #[a, b]) = .returned (.tuple #[c, d]) := by rw [h, k]
theorem ret3 {a b c d x y : Value} (h : a = c) (k : b = d) (l : x = y) : Ending.returned (.tuple #[a, b, x]) = .returned (.tuple #[c, d, y]) := by rw [h, k, l]

/-- Where a byte stands: every test of letters, digits and _ decided. -/
theorem byte_cases (c : Int) : (c < 48 ∧ c ≤ 57 ∧ c < 65 ∧ c ≤ 90 ∧ c < 97 ∧ c ≤ 122 ∧ ¬ c = 95) ∨
    (48 ≤ c ∧ c ≤ 57 ∧ c < 65 ∧ c ≤ 90 ∧ c < 97 ∧ c ≤ 122 ∧ ¬ c = 95) ∨
    (48 ≤ c ∧ 57 < c ∧ c < 65 ∧ c ≤ 90 ∧ c < 97 ∧ c ≤ 122 ∧ ¬ c = 95) ∨
    (48 ≤ c ∧ 57 < c ∧ 65 ≤ c ∧ c ≤ 90 ∧ c < 97 ∧ c ≤ 122 ∧ ¬ c = 95) ∨
    (48 ≤ c ∧ 57 < c ∧ 65 ≤ c ∧ 90 < c ∧ c < 97 ∧ c ≤ 122 ∧ ¬ c = 95) ∨
    (48 ≤ c ∧ 57 < c ∧ 65 ≤ c ∧ 90 < c ∧ c < 97 ∧ c ≤ 122 ∧ c = 95) ∨
    (48 ≤ c ∧ 57 < c ∧ 65 ≤ c ∧ 90 < c ∧ c < 97 ∧ c ≤ 122 ∧ ¬ c = 95) ∨
    (48 ≤ c ∧ 57 < c ∧ 65 ≤ c ∧ 90 < c ∧ 97 ≤ c ∧ c ≤ 122 ∧ ¬ c = 95) ∨
    (48 ≤ c ∧ 57 < c ∧ 65 ≤ c ∧ 90 < c ∧ 97 ≤ c ∧ 122 < c ∧ ¬ c = 95) := by
  by_cases h0 : c ≤ 47
  · exact .inl (by omega)
  by_cases h1 : c ≤ 57
  · exact .inr (.inl (by omega))
  by_cases h2 : c ≤ 64
  · exact .inr (.inr (.inl (by omega)))
  by_cases h3 : c ≤ 90
  · exact .inr (.inr (.inr (.inl (by omega))))
  by_cases h4 : c ≤ 94
  · exact .inr (.inr (.inr (.inr (.inl (by omega)))))
  by_cases h5 : c ≤ 95
  · exact .inr (.inr (.inr (.inr (.inr (.inl (by omega))))))
  by_cases h6 : c ≤ 96
  · exact .inr (.inr (.inr (.inr (.inr (.inr (.inl (by omega)))))))
  by_cases h7 : c ≤ 122
  · exact .inr (.inr (.inr (.inr (.inr (.inr (.inr (.inl (by omega))))))))
  exact .inr (.inr (.inr (.inr (.inr (.inr (.inr (.inr ((by omega)))))))))

def letterB (c : Int) : Bool := decide (97 ≤ c ∧ c ≤ 122 ∨ 65 ≤ c ∧ c ≤ 90)
def digitB (c : Int) : Bool := decide (48 ≤ c ∧ c ≤ 57)
def isAt (s : ByteArray) (i c : Int) : Bool := decide (i < s.size) && (bt s i == c)
def letterAt (s : ByteArray) (i : Int) : Bool := decide (i < s.size) && letterB (bt s i)
def digitAt (s : ByteArray) (i : Int) : Bool := decide (i < s.size) && digitB (bt s i)
def goesAt (s : ByteArray) (i : Int) : Bool := letterAt s i || (digitAt s i || isAt s i 95)
theorem isAt_lt {s : ByteArray} {i c : Int} (h : isAt s i c = true) : i < s.size := by simp [isAt] at h; omega
theorem letterAt_lt {s : ByteArray} {i : Int} (h : letterAt s i = true) : i < s.size := by simp [letterAt] at h; omega
theorem digitAt_lt {s : ByteArray} {i : Int} (h : digitAt s i = true) : i < s.size := by simp [digitAt] at h; omega
theorem goesAt_lt {s : ByteArray} {i : Int} (h : goesAt s i = true) : i < s.size := by
  simp only [goesAt, Bool.or_eq_true] at h
  rcases h with h | h | h
  · exact letterAt_lt h
  · exact digitAt_lt h
  · exact isAt_lt h

/-- The first place from i on at which p fails: p holds only inside of s. -/
def whileF (p : Int → Bool) : Nat → Int → Int
  | 0, i => i
  | k + 1, i => if p i then whileF p k (i + 1) else i
def upTo (p : Int → Bool) (n : Nat) (i : Int) : Int := whileF p (n - i.toNat) i
theorem upTo_step {p : Int → Bool} {n : Nat} {i : Int} (h0 : 0 ≤ i) (h : p i = true) (hl : i < n) : upTo p n i = upTo p n (i + 1) := by
  unfold upTo
  rw [show n - i.toNat = (n - (i + 1).toNat) + 1 from by omega]
  conv => lhs; unfold whileF
  rw [if_pos h]
theorem upTo_stop {p : Int → Bool} {n : Nat} {i : Int} (h : p i = false) : upTo p n i = i := by
  unfold upTo
  generalize n - i.toNat = k
  cases k with
  | zero => rfl
  | succ k => unfold whileF; rw [if_neg (by rw [h]; simp)]
theorem whileF_ge {p : Int → Bool} : ∀ (k : Nat) (i : Int), i ≤ whileF p k i
  | 0, _ => Int.le_refl _
  | k + 1, i => by unfold whileF; split; exact Int.le_trans (by omega) (whileF_ge k (i + 1)); exact Int.le_refl _
theorem upTo_ge {p : Int → Bool} {n : Nat} {i : Int} : i ≤ upTo p n i := whileF_ge _ _
theorem whileF_le {p : Int → Bool} : ∀ (k : Nat) (i : Int), whileF p k i ≤ i + k
  | 0, _ => by unfold whileF; omega
  | k + 1, i => by unfold whileF; split; exact Int.le_trans (whileF_le k (i + 1)) (by omega); omega
theorem upTo_le {p : Int → Bool} {n : Nat} {i : Int} (h0 : 0 ≤ i) (h : i ≤ n) : upTo p n i ≤ n := by
  have := whileF_le (p := p) (n - i.toNat) i; unfold upTo; omega
/-- Where it stops inside, p fails. -/
theorem whileF_end {p : Int → Bool} : ∀ (k : Nat) (i : Int), whileF p k i < i + k → p (whileF p k i) = false
  | 0, i, h => by unfold whileF at h; omega
  | k + 1, i, h => by
    unfold whileF at h ⊢
    by_cases hp : p i = true
    · rw [if_pos hp] at h ⊢; exact whileF_end k (i + 1) (by omega)
    · rw [if_neg hp]; simpa using hp
theorem upTo_end {p : Int → Bool} {n : Nat} {i : Int} (h0 : 0 ≤ i) (hn : ∀ j : Int, p j = true → j < n) : p (upTo p n i) = false := by
  by_cases h : upTo p n i < i + ((n - i.toNat : Nat) : Int)
  · exact whileF_end _ _ h
  · cases hp : p (upTo p n i) with
    | false => rfl
    | true => have := hn _ hp; omega
/-- Before where it stops, p holds. -/
theorem whileF_mem {p : Int → Bool} : ∀ (k : Nat) (i j : Int), i ≤ j → j < whileF p k i → p j = true
  | 0, i, j, h1, h2 => by unfold whileF at h2; omega
  | k + 1, i, j, h1, h2 => by
    unfold whileF at h2
    by_cases hp : p i = true
    · rw [if_pos hp] at h2
      by_cases e : i = j
      · rw [← e]; exact hp
      · exact whileF_mem k (i + 1) j (by omega) h2
    · rw [if_neg hp] at h2; omega
theorem upTo_mem {p : Int → Bool} {n : Nat} {i j : Int} (h1 : i ≤ j) (h2 : j < upTo p n i) : p j = true := whileF_mem _ _ _ h1 h2

def isBlank (s : ByteArray) (i : Int) : Bool := isAt s i 32 || (isAt s i 9 || (isAt s i 10 || isAt s i 13))
theorem isBlank_lt {s : ByteArray} {i : Int} (h : isBlank s i = true) : i < s.size := by
  simp only [isBlank, Bool.or_eq_true] at h
  rcases h with h | h | h | h <;> exact isAt_lt h
/-- The place behind blanks. -/
def blanks (s : ByteArray) (i : Int) : Int := upTo (isBlank s) s.size i
/-- The place behind a word's letters. -/
def wordEnd (s : ByteArray) (i : Int) : Int := upTo (goesAt s) s.size i
/-- The place behind digits. -/
def digitsEnd (s : ByteArray) (i : Int) : Int := upTo (digitAt s) s.size i

end Go.Proofs.YtdlkdecigpaaaaaGreatDoor
namespace Go.Proofs.YtdlkdecigpaaaaaGreatDoor
set_option linter.unusedVariables false
set_option linter.unusedSimpArgs false
open Go.RowKit

/-- w' is w with new blocks; of the old ones, those of S alone may have turned. -/
structure Keeps (S : List Nat) (w w' : World) : Prop where
  os : w'.os = w.os
  tape : w'.tape = w.tape
  output : w'.output = w.output
  size : w.heap.size ≤ w'.heap.size
  block : ∀ k, k < w.heap.size → k ∉ S → w'.heap[k]? = w.heap[k]?
section
variable {S S' : List Nat} {w w1 w2 : World}
theorem Keeps.refl (S : List Nat) (w : World) : Keeps S w w := ⟨rfl, rfl, rfl, Nat.le_refl _, fun _ _ _ => rfl⟩
theorem Keeps.trans (h : Keeps S w w1) (k : Keeps S w1 w2) : Keeps S w w2 :=
  ⟨k.os.trans h.os, k.tape.trans h.tape, k.output.trans h.output, Nat.le_trans h.size k.size, fun i hi hn => (k.block i (Nat.lt_of_lt_of_le hi h.size) hn).trans (h.block i hi hn)⟩
theorem Keeps.mono (h : Keeps S w w1) (hs : ∀ k, k ∈ S → k < w.heap.size → k ∈ S') : Keeps S' w w1 :=
  ⟨h.os, h.tape, h.output, h.size, fun i hi hn => h.block i hi fun hm => hn (hs i hm hi)⟩
/-- A further step that may turn blocks that are new since w, too. -/
theorem Keeps.step (h : Keeps S w w1) (k : Keeps S' w1 w2) (hs : ∀ b, b ∈ S' → b < w.heap.size → b ∈ S) : Keeps S w w2 :=
  ⟨k.os.trans h.os, k.tape.trans h.tape, k.output.trans h.output, Nat.le_trans h.size k.size, fun i hi hn => (k.block i (Nat.lt_of_lt_of_le hi h.size) fun hm => hn (hs i hm hi)).trans (h.block i hi hn)⟩
theorem Keeps.drew (h : Keeps S w w1) : Keeps S w w1.drew := ⟨h.os, h.tape, h.output, h.size, h.block⟩
theorem Keeps.drewN (h : Keeps S w w1) (n : Nat) : Keeps S w (w1.drewN n) := ⟨h.os, h.tape, h.output, h.size, h.block⟩
theorem Keeps.alloc (h : Keeps S w w1) (o : Obj) : Keeps S w (w1.alloc o) :=
  ⟨h.os, h.tape, h.output, Nat.le_trans h.size (by rw [World.size_alloc]; omega), fun i hi hn => (Below.heap_alloc w1 o i (Nat.lt_of_lt_of_le hi h.size)).trans (h.block i hi hn)⟩
theorem Keeps.set (h : Keeps S w w1) {p : Addr} (hp : p.block ∈ S ∨ w.heap.size ≤ p.block) (v : Value) : Keeps S w (w1.setCell p v) :=
  ⟨h.os, h.tape, h.output, by rw [World.size_setCell]; exact h.size, fun i hi hn => (Below.heap_setCell w1 p v i (by
    rcases hp with hp | hp
    · exact fun e => hn (e ▸ hp)
    · omega)).trans (h.block i hi hn)⟩
theorem Keeps.below (h : Below w.heap.size w w1) : Keeps S w w1 := ⟨h.os, h.tape, h.output, h.size, fun i hi _ => h.block i hi⟩
theorem Keeps.to_below {B : Nat} (h : Keeps S w w1) (hB : B ≤ w.heap.size) (hs : ∀ k, k ∈ S → B ≤ k) : Below B w w1 :=
  ⟨h.os, h.tape, h.output, h.size, fun i hi => h.block i (Nat.lt_of_lt_of_le hi hB) fun hm => by have := hs i hm; omega⟩
theorem Keeps.nil_below (h : Keeps [] w w1) : Below w.heap.size w w1 := h.to_below (Nat.le_refl _) (by simp)
theorem Keeps.heap (h : Keeps S w w1) {b : Nat} {o : Obj} (hb : w.heap[b]? = some o) (hn : b ∉ S) : w1.heap[b]? = some o := (h.block b (hk_lt hb) hn).trans hb
theorem Keeps.same (h : Keeps [] w w1) {b : Nat} {o : Obj} (hb : w.heap[b]? = some o) : w1.heap[b]? = some o := h.heap hb (by simp)
end
end Go.Proofs.YtdlkdecigpaaaaaGreatDoor
namespace Go.Proofs.YtdlkdecigpaaaaaGreatDoor
set_option linter.unusedVariables false
set_option linter.unusedSimpArgs false
open Go.RowKit
set_option maxHeartbeats 400000 in
theorem is_any (s : ByteArray) (i c : Int) (w : World) (h0 : 0 ≤ i) :
    Calls Tryz.prog 56 #[.string s, .int .i64 i, .int .u8 c] w fun e w' => e = .returned (.bool (isAt s i c)) ∧ w = w' := by
  by_cases h : i < s.size
  · have hb := bt_at s i
    have hr : isAt s i c = (bt s i == c) := by simp [isAt, h]
    rw [hr]
    go_enter Tryz.func56, Tryz.ntmps56
    go_wp2
    go_ret
    exact ⟨rfl, rfl⟩
  · have hr : isAt s i c = false := by simp [isAt]; omega
    rw [hr]
    go_enter Tryz.func56, Tryz.ntmps56
    go_wp2
    go_ret
    exact ⟨rfl, rfl⟩
set_option maxHeartbeats 400000 in
theorem blanks_any (s : ByteArray) (i : Int) (w : World) (h0 : 0 ≤ i) (hs : s.size ≤ 9223372036854775807) :
    Calls Tryz.prog 30 #[.string s, .int .i64 i] w fun e w' => e = .returned (.int .i64 (blanks s i)) ∧ w = w' := by
  go_enter Tryz.func30, Tryz.ntmps30
  go_wp2
  go_loop [1] (fun t => ∃ j : Int, 0 ≤ j ∧ t = .int .i64 j ∧ Hid (blanks s i = blanks s j)) (fun t => s.size - (intOf t).toNat)
  case atStart => exact ⟨i, h0, rfl, Lib.hid rfl⟩
  case round =>
    obtain ⟨j, hj, rfl, H⟩ := hrel
    have hlt : isBlank s j = true → j < s.size := isBlank_lt
    have h1 : isBlank s j = true → blanks s j = blanks s (j + 1) := fun h => upTo_step hj h (isBlank_lt h)
    have h2 : isBlank s j = false → blanks s j = j := upTo_stop
    unfold isBlank at hlt h1 h2
    cases b1 : isAt s j 32 <;> cases b2 : isAt s j 9 <;> cases b3 : isAt s j 10 <;> cases b4 : isAt s j 13
    all_goals
      simp only [b1, b2, b3, b4, Bool.or_true, Bool.or_false, true_imp_iff, reduceCtorEq, false_imp_iff] at hlt h1 h2
    all_goals
      first
      | (have H2 := Lib.hid (H.out.trans h2); clear h1 h2 H hlt
         go_wp2_with (first | (go_at_call 56; refine (is_any _ _ _ _ (by omega)).mono ?_; rintro e w' ⟨rfl, rfl⟩))
         go_ret
         exact ⟨ret_i64 H2.out.symm, rfl⟩)
      | (have H2 := Lib.hid (H.out.trans h1); clear h1 h2 H
         go_wp2_with (first | (go_at_call 56; refine (is_any _ _ _ _ (by omega)).mono ?_; rintro e w' ⟨rfl, rfl⟩))
         go_round
         case rel => exact ⟨j + 1, by omega, rfl, H2⟩
         case measure => simp [intOf]; omega)
set_option maxHeartbeats 400000 in
theorem letter_any (s : ByteArray) (i : Int) (w : World) (h0 : 0 ≤ i) :
    Calls Tryz.prog 83 #[.string s, .int .i64 i] w fun e w' => e = .returned (.bool (letterAt s i)) ∧ w = w' := by
  have hb := bt_at s i
  have Hr : Hid (letterAt s i = (decide (i < s.size) && letterB (bt s i))) := Lib.hid rfl
  generalize letterAt s i = r at *
  by_cases h : i < s.size
  · go_enter Tryz.func83, Tryz.ntmps83
    go_wp2
    all_goals
      go_ret
      exact ⟨ret_bool (by rw [Hr.out, Bool.eq_iff_iff]; simp [letterB]; omega), rfl⟩
  · go_enter Tryz.func83, Tryz.ntmps83
    go_wp2
    go_ret
    exact ⟨ret_bool (by rw [Hr.out, Bool.eq_iff_iff]; simp [letterB]; omega), rfl⟩
set_option maxHeartbeats 400000 in
theorem digit8_any (s : ByteArray) (i : Int) (w : World) (h0 : 0 ≤ i) :
    Calls Tryz.prog 103 #[.string s, .int .i64 i] w fun e w' => e = .returned (.bool (digitAt s i)) ∧ w = w' := by
  have hb := bt_at s i
  have Hr : Hid (digitAt s i = (decide (i < s.size) && digitB (bt s i))) := Lib.hid rfl
  generalize digitAt s i = r at *
  by_cases h : i < s.size
  · go_enter Tryz.func103, Tryz.ntmps103
    go_wp2
    all_goals
      go_ret
      exact ⟨ret_bool (by rw [Hr.out, Bool.eq_iff_iff]; simp [digitB]; omega), rfl⟩
  · go_enter Tryz.func103, Tryz.ntmps103
    go_wp2
    go_ret
    exact ⟨ret_bool (by rw [Hr.out, Bool.eq_iff_iff]; simp [digitB]; omega), rfl⟩
set_option maxHeartbeats 400000 in
theorem goes_any (s : ByteArray) (i : Int) (w : World) (h0 : 0 ≤ i) :
    Calls Tryz.prog 84 #[.string s, .int .i64 i] w fun e w' => e = .returned (.bool (goesAt s i)) ∧ w = w' := by
  have hb := bt_at s i
  have Hr : Hid (goesAt s i = (letterAt s i || (digitAt s i || (decide (i < s.size) && (bt s i == 95))))) := Lib.hid rfl
  generalize goesAt s i = r at *
  by_cases h : i < s.size
  all_goals
    cases h1 : letterAt s i <;> cases h2 : digitAt s i
    all_goals
      go_enter Tryz.func84, Tryz.ntmps84
      go_wp2_with (first | (go_at_call 83; refine (letter_any _ _ _ (by omega)).mono ?_; rintro e w' ⟨rfl, rfl⟩) | (go_at_call 103; refine (digit8_any _ _ _ (by omega)).mono ?_; rintro e w' ⟨rfl, rfl⟩))
      go_ret
      exact ⟨ret_bool (by rw [Hr.out, Bool.eq_iff_iff]; simp [h1, h2, h]; try omega), rfl⟩
/-- The word behind a place and blanks, and the place behind it. -/
def wordAt (s : ByteArray) (i : Int) : ByteArray := if letterAt s (blanks s i) then s.extract (blanks s i).toNat (wordEnd s (blanks s i)).toNat else ⟨#[]⟩
def wordAtEnd (s : ByteArray) (i : Int) : Int := if letterAt s (blanks s i) then wordEnd s (blanks s i) else i
set_option maxHeartbeats 400000 in
theorem word_any (s : ByteArray) (i : Int) (w : World) (h0 : 0 ≤ i) (hs : s.size ≤ 9223372036854775807) :
    Calls Tryz.prog 58 #[.string s, .int .i64 i] w fun e w' => e = .returned (.tuple #[.string (wordAt s i), .int .i64 (wordAtEnd s i)]) ∧ w = w' := by
  have hg : 0 ≤ blanks s i := Int.le_trans h0 upTo_ge
  have Hr : Hid (wordAt s i = if letterAt s (blanks s i) then s.extract (blanks s i).toNat (wordEnd s (blanks s i)).toNat else ⟨#[]⟩) := Lib.hid rfl
  have Hr2 : Hid (wordAtEnd s i = if letterAt s (blanks s i) then wordEnd s (blanks s i) else i) := Lib.hid rfl
  generalize wordAt s i = r at *
  generalize wordAtEnd s i = r2 at *
  cases h1 : letterAt s (blanks s i)
  · have Hn := Lib.hid h1
    go_enter Tryz.func58, Tryz.ntmps58
    go_wp2_with (first | (go_at_call 30; refine (blanks_any _ _ _ (by omega) ‹_›).mono ?_; rintro e w' ⟨rfl, rfl⟩) | (go_at_call 83; refine (letter_any _ _ _ (by omega)).mono ?_; rintro e w' ⟨rfl, rfl⟩))
    go_ret2
    exact ⟨ret2 (congrArg Value.string (by rw [Hr.out, Hn.out]; simp)) (congrArg (Value.int .i64) (by rw [Hr2.out, Hn.out]; simp)), rfl⟩
  · have Hn := Lib.hid h1
    have hl := letterAt_lt h1
    go_enter Tryz.func58, Tryz.ntmps58
    go_wp2_with (first | (go_at_call 30; refine (blanks_any _ _ _ (by omega) ‹_›).mono ?_; rintro e w' ⟨rfl, rfl⟩) | (go_at_call 83; refine (letter_any _ _ _ (by omega)).mono ?_; rintro e w' ⟨rfl, rfl⟩))
    generalize hb : blanks s i = b at *
    go_loop [7] (fun t => ∃ j : Int, b ≤ j ∧ j ≤ s.size ∧ t = .int .i64 j ∧ Hid (wordEnd s b = wordEnd s j)) (fun t => s.size - (intOf t).toNat)
    case atStart => exact ⟨b, by omega, by omega, rfl, Lib.hid rfl⟩
    case round =>
      obtain ⟨j, hj, hj2, rfl, H⟩ := hrel
      cases h3 : goesAt s j
      · have H2 := Lib.hid (H.out.trans (upTo_stop h3))
        clear hb H
        go_wp2_with (first | (go_at_call 84; refine (goes_any _ _ _ (by omega)).mono ?_; rintro e w' ⟨rfl, rfl⟩))
        go_ret2
        exact ⟨ret2 (congrArg Value.string (by rw [Hr.out, if_pos Hn.out, H2.out])) (congrArg (Value.int .i64) (by rw [Hr2.out, if_pos Hn.out, H2.out])), rfl⟩
      · have hl := goesAt_lt h3
        have H2 := Lib.hid (H.out.trans (upTo_step (by omega) h3 hl))
        clear hb H
        go_wp2_with (first | (go_at_call 84; refine (goes_any _ _ _ (by omega)).mono ?_; rintro e w' ⟨rfl, rfl⟩))
        go_round
        case rel => exact ⟨j + 1, by omega, by omega, rfl, H2⟩
        case measure => simp [intOf]; omega
end Go.Proofs.YtdlkdecigpaaaaaGreatDoor
