/- Bytes of a string, and what a walk's end wants: plain words for all texts of this seat. -/
import Derived.Test.YtbajghjdnjodmaaProg
import Derived.WalkKit
import Derived.WalkSpells
import Derived.WalkLawsBesides
import Derived.BigQuiet
import Derived.Deep.QuietTactic
import Derived.Lib.Hide
import Derived.Deep.Light
import Derived.Deep.RegionWith
import Derived.StillTailTactics
import Derived.Deep.RegionHeld3
import Derived.Deep.RegionLaw
import Derived.Deep.DeepCutAuto
import Derived.Deep.CutBlock
import Derived.Deep.LoopGhost
import Derived.RegionTactic
namespace Go.Proofs.Ytbajghjdnjodmaa
set_option linter.unusedVariables false
set_option linter.unusedSimpArgs false
open Go.RowKit

/-- The byte of a string at a place, as a number; 0 beyond it. -/
def bt (s : ByteArray) (i : Int) : Int := if h : i.toNat < s.size then ((s[i.toNat]'h).toNat : Int) else 0
theorem bt_at (s : ByteArray) (i : Int) : ∀ h : i.toNat < s.size, ((s[i.toNat]'h).toNat : Int) = bt s i := fun h => by simp [bt, h]
theorem bt_range (s : ByteArray) (i : Int) : 0 ≤ bt s i ∧ bt s i ≤ 255 := by
  unfold bt; split
  · rename_i h; have := (s[i.toNat]'h).toNat_lt; omega
  · omega

theorem bl_drew {B : Nat} {w W : World} (h : Below B w W) : Below B w W.drew := ⟨h.os, h.tape, h.output, h.size, h.block⟩
theorem bl_drewN {B : Nat} {w W : World} (h : Below B w W) (n : Nat) : Below B w (W.drewN n) := ⟨h.os, h.tape, h.output, h.size, h.block⟩
theorem bl_alloc {w W : World} (h : Below w.heap.size w W) (o : Obj) : Below w.heap.size w (W.alloc o) := h.alloc h.size o
theorem bl_set {B : Nat} {w W : World} {p : Addr} (h : Below B w W) (hb : B ≤ p.block) (v : Value) : Below B w (W.setCell p v) := h.setCell hb v
theorem bl_step {w W w1 : World} (h : Below w.heap.size w W) (k : Below W.heap.size W w1) : Below w.heap.size w w1 := h.trans (k.mono h.size)
theorem bcell {W w1 : World} (hb : Below W.heap.size W w1) : (∀ b o, b < W.heap.size → w1.cell? ⟨b, o, none⟩ = W.cell? ⟨b, o, none⟩) ∧ (∀ b o, b < W.heap.size → w1.frozen? ⟨b, o, none⟩ = W.frozen? ⟨b, o, none⟩) :=
  ⟨fun b o h => hb.cell (p := ⟨b, o, none⟩) h, fun b o h => hb.frozen (p := ⟨b, o, none⟩) h⟩
section
variable {w : World} {b : Nat} {o : Obj}
theorem hk_lt (h : w.heap[b]? = some o) : b < w.heap.size := (Array.getElem?_eq_some_iff.1 h).1
theorem hk_alloc (h : w.heap[b]? = some o) (x : Obj) : (w.alloc x).heap[b]? = some o := (Below.heap_alloc w x b (hk_lt h)).trans h
theorem hk_drew (h : w.heap[b]? = some o) : w.drew.heap[b]? = some o := h
theorem hk_drewN (h : w.heap[b]? = some o) (n : Nat) : (w.drewN n).heap[b]? = some o := h
theorem hk_set (h : w.heap[b]? = some o) {p : Addr} (hp : b ≠ p.block) (v : Value) : (w.setCell p v).heap[b]? = some o := (Below.heap_setCell w p v b hp).trans h
theorem hk_below {w1 : World} (h : w.heap[b]? = some o) (hb : Below w.heap.size w w1) : w1.heap[b]? = some o := (hb.block b (hk_lt h)).trans h
theorem hk_belowN {w1 : World} {B : Nat} (h : w.heap[b]? = some o) (hb : Below B w w1) (hB : b < B) : w1.heap[b]? = some o := (hb.block b hB).trans h
end
/-- The walk goes on in whatever world of which these facts hold. -/
theorem abs_world {P : Program} {c : Code} {Q : Exit → Act → World → Prop} {a : Act} {W : World} (F : World → Prop) (hF : F W) (h : ∀ W', F W' → Code.wp P c Q a W') : Code.wp P c Q a W := h W hF
section
variable {w : World} {g : Nat} {cs : Array Value} {t : TypeId}
theorem cell_blk (h : w.heap[g]? = some (.cells cs t (0, 0))) : ∀ j, w.cell? ⟨g, j, none⟩ = cs[j]? := fun j => by simp [World.cell?, h]
theorem frozen_blk (h : w.heap[g]? = some (.cells cs t (0, 0))) : ∀ j, w.frozen? ⟨g, j, none⟩ = false := fun j => by simp [World.frozen?, h]
theorem set_blk (h : w.heap[g]? = some (.cells cs t (0, 0))) (i : Nat) (u : Value) : (w.setCell ⟨g, i, none⟩ u).heap[g]? = some (.cells (cs.setIfInBounds i u) t (0, 0)) := by
  have hg := (Array.getElem?_eq_some_iff.1 h).1
  simp only [World.setCell, Array.getElem?_modify, if_pos, h, Option.map_some]; simp
theorem set_same (h : w.heap[g]? = some (.cells cs t (0, 0))) (i : Nat) (u : Value) (e : cs[i]? = some u) : (w.setCell ⟨g, i, none⟩ u).heap[g]? = some (.cells cs t (0, 0)) := by
  rw [set_blk h i u]
  have : cs.setIfInBounds i u = cs := by
    apply Array.ext_getElem?
    intro j
    rw [Array.getElem?_setIfInBounds]
    split
    · rename_i hj; subst hj; rw [e, if_pos (Array.getElem?_eq_some_iff.1 e).1]
    · rfl
  rw [this]
theorem set_to (h : w.heap[g]? = some (.cells cs t (0, 0))) (i : Nat) (u : Value) {cs' : Array Value} (e : cs.setIfInBounds i u = cs') : (w.setCell ⟨g, i, none⟩ u).heap[g]? = some (.cells cs' t (0, 0)) := by
  rw [set_blk h i u, e]
theorem new_blk (w : World) (o : Obj) : (w.alloc o).heap[w.heap.size]? = some o := by show (w.heap.push o)[w.heap.size]? = some o; simp
end
theorem toList_data (s : ByteArray) : s.toList = s.data.toList := ByteArray.toList_eq s
theorem toList_nil {s : ByteArray} (h : s.size = 0) : s.toList = [] := by
  rw [toList_data]; apply List.eq_nil_of_length_eq_zero; rw [Array.length_toList]; exact h
theorem toList_ne {s : ByteArray} (h : ¬ s.size = 0) : s.toList.isEmpty = false := by
  rw [toList_data]
  cases e : s.data.toList with
  | nil => exact absurd (by have := congrArg List.length e; rw [Array.length_toList] at this; exact this) h
  | cons _ _ => rfl
theorem bytes_ext {a b : ByteArray} (h : a.toList = b.toList) : a = b := by
  rw [toList_data, toList_data] at h
  cases a; cases b; simp only at h; rw [Array.toList_inj] at h; rw [h]
theorem str_beq {a b : ByteArray} (h : a = b) : (a.toList == b.toList) = true := by rw [h]; simp
theorem str_bne {a b : ByteArray} (h : ¬ a = b) : (a.toList == b.toList) = false := by
  cases e : a.toList == b.toList with
  | false => rfl
  | true => exact absurd (bytes_ext (by simpa using e)) h
theorem ret_bool {a b : Bool} (h : a = b) : Ending.returned (.bool a) = .returned (.bool b) := by rw [h]
theorem ret_i64 {a b : Int} (h : a = b) : Ending.returned (.int .i64 a) = .returned (.int .i64 b) := by rw [h]
theorem ret_str {a b : ByteArray} (h : a = b) : Ending.returned (.string a) = .returned (.string b) := by rw [h]

theorem ret2 {a b c d : Value} (h : a = c) (k : b = d) : Ending.returned (.tuple #[a, b]) = .returned (.tuple #[c, d]) := by rw [h, k]
theorem ret3 {a b c d x y : Value} (h : a = c) (k : b = d) (l : x = y) : Ending.returned (.tuple #[a, b, x]) = .returned (.tuple #[c, d, y]) := by rw [h, k, l]

/-- Where a byte stands: every test of letters, digits and _ decided. -/
theorem byte_cases (c : Int) : (c < 48 ∧ c ≤ 57 ∧ c < 65 ∧ c ≤ 90 ∧ c < 97 ∧ c ≤ 122 ∧ ¬ c = 95) ∨
    (48 ≤ c ∧ c ≤ 57 ∧ c < 65 ∧ c ≤ 90 ∧ c < 97 ∧ c ≤ 122 ∧ ¬ c = 95) ∨
    (48 ≤ c ∧ 57 < c ∧ c < 65 ∧ c ≤ 90 ∧ c < 97 ∧ c ≤ 122 ∧ ¬ c = 95) ∨
    (48 ≤ c ∧ 57 < c ∧ 65 ≤ c ∧ c ≤ 90 ∧ c < 97 ∧ c ≤ 122 ∧ ¬ c = 95) ∨
    (48 ≤ c ∧ 57 < c ∧ 65 ≤ c ∧ 90 < c ∧ c < 97 ∧ c ≤ 122 ∧ ¬ c = 95) ∨
    (48 ≤ c ∧ 57 < c ∧ 65 ≤ c ∧ 90 < c ∧ c < 97 ∧ c ≤ 122 ∧ c = 95) ∨
    (48 ≤ c ∧ 57 < c ∧ 65 ≤ c ∧ 90 < c ∧ c < 97 ∧ c ≤ 122 ∧ ¬ c = 95) ∨
    (48 ≤ c ∧ 57 < c ∧ 65 ≤ c ∧ 90 < c ∧ 97 ≤ c ∧ c ≤ 122 ∧ ¬ c = 95) ∨
    (48 ≤ c ∧ 57 < c ∧ 65 ≤ c ∧ 90 < c ∧ 97 ≤ c ∧ 122 < c ∧ ¬ c = 95) := by
  by_cases h0 : c ≤ 47
  · exact .inl (by omega)
  by_cases h1 : c ≤ 57
  · exact .inr (.inl (by omega))
  by_cases h2 : c ≤ 64
  · exact .inr (.inr (.inl (by omega)))
  by_cases h3 : c ≤ 90
  · exact .inr (.inr (.inr (.inl (by omega))))
  by_cases h4 : c ≤ 94
  · exact .inr (.inr (.inr (.inr (.inl (by omega)))))
  by_cases h5 : c ≤ 95
  · exact .inr (.inr (.inr (.inr (.inr (.inl (by omega))))))
  by_cases h6 : c ≤ 96
  · exact .inr (.inr (.inr (.inr (.inr (.inr (.inl (by omega)))))))
  by_cases h7 : c ≤ 122
  · exact .inr (.inr (.inr (.inr (.inr (.inr (.inr (.inl (by omega))))))))
  exact .inr (.inr (.inr (.inr (.inr (.inr (.inr (.inr ((by omega)))))))))

def letterB (c : Int) : Bool := decide (97 ≤ c ∧ c ≤ 122 ∨ 65 ≤ c ∧ c ≤ 90)
def digitB (c : Int) : Bool := decide (48 ≤ c ∧ c ≤ 57)
def isAt (s : ByteArray) (i c : Int) : Bool := decide (i < s.size) && (bt s i == c)
def letterAt (s : ByteArray) (i : Int) : Bool := decide (i < s.size) && letterB (bt s i)
def digitAt (s : ByteArray) (i : Int) : Bool := decide (i < s.size) && digitB (bt s i)
def goesAt (s : ByteArray) (i : Int) : Bool := letterAt s i || (digitAt s i || isAt s i 95)
theorem isAt_lt {s : ByteArray} {i c : Int} (h : isAt s i c = true) : i < s.size := by simp [isAt] at h; omega
theorem letterAt_lt {s : ByteArray} {i : Int} (h : letterAt s i = true) : i < s.size := by simp [letterAt] at h; omega
theorem digitAt_lt {s : ByteArray} {i : Int} (h : digitAt s i = true) : i < s.size := by simp [digitAt] at h; omega
theorem goesAt_lt {s : ByteArray} {i : Int} (h : goesAt s i = true) : i < s.size := by
  simp only [goesAt, Bool.or_eq_true] at h
  rcases h with h | h | h
  · exact letterAt_lt h
  · exact digitAt_lt h
  · exact isAt_lt h

/-- The first place from i on at which p fails: p holds only inside of s. -/
def whileF (p : Int → Bool) : Nat → Int → Int
  | 0, i => i
  | k + 1, i => if p i then whileF p k (i + 1) else i
def upTo (p : Int → Bool) (n : Nat) (i : Int) : Int := whileF p (n - i.toNat) i
theorem upTo_step {p : Int → Bool} {n : Nat} {i : Int} (h0 : 0 ≤ i) (h : p i = true) (hl : i < n) : upTo p n i = upTo p n (i + 1) := by
  unfold upTo
  rw [show n - i.toNat = (n - (i + 1).toNat) + 1 from by omega]
  conv => lhs; unfold whileF
  rw [if_pos h]
theorem upTo_stop {p : Int → Bool} {n : Nat} {i : Int} (h : p i = false) : upTo p n i = i := by
  unfold upTo
  generalize n - i.toNat = k
  cases k with
  | zero => rfl
  | succ k => unfold whileF; rw [if_neg (by rw [h]; simp)]
theorem whileF_ge {p : Int → Bool} : ∀ (k : Nat) (i : Int), i ≤ whileF p k i
  | 0, _ => Int.le_refl _
  | k + 1, i => by unfold whileF; split; exact Int.le_trans (by omega) (whileF_ge k (i + 1)); exact Int.le_refl _
theorem upTo_ge {p : Int → Bool} {n : Nat} {i : Int} : i ≤ upTo p n i := whileF_ge _ _
theorem whileF_le {p : Int → Bool} : ∀ (k : Nat) (i : Int), whileF p k i ≤ i + k
  | 0, _ => by unfold whileF; omega
  | k + 1, i => by unfold whileF; split; exact Int.le_trans (whileF_le k (i + 1)) (by omega); omega
theorem upTo_le {p : Int → Bool} {n : Nat} {i : Int} (h0 : 0 ≤ i) (h : i ≤ n) : upTo p n i ≤ n := by
  have := whileF_le (p := p) (n - i.toNat) i; unfold upTo; omega
/-- Where it stops inside, p fails. -/
theorem whileF_end {p : Int → Bool} : ∀ (k : Nat) (i : Int), whileF p k i < i + k → p (whileF p k i) = false
  | 0, i, h => by unfold whileF at h; omega
  | k + 1, i, h => by
    unfold whileF at h ⊢
    by_cases hp : p i = true
    · rw [if_pos hp] at h ⊢; exact whileF_end k (i + 1) (by omega)
    · rw [if_neg hp]; simpa using hp
theorem upTo_end {p : Int → Bool} {n : Nat} {i : Int} (h0 : 0 ≤ i) (hn : ∀ j : Int, p j = true → j < n) : p (upTo p n i) = false := by
  by_cases h : upTo p n i < i + ((n - i.toNat : Nat) : Int)
  · exact whileF_end _ _ h
  · cases hp : p (upTo p n i) with
    | false => rfl
    | true => have := hn _ hp; omega
/-- Before where it stops, p holds. -/
theorem whileF_mem {p : Int → Bool} : ∀ (k : Nat) (i j : Int), i ≤ j → j < whileF p k i → p j = true
  | 0, i, j, h1, h2 => by unfold whileF at h2; omega
  | k + 1, i, j, h1, h2 => by
    unfold whileF at h2
    by_cases hp : p i = true
    · rw [if_pos hp] at h2
      by_cases e : i = j
      · rw [← e]; exact hp
      · exact whileF_mem k (i + 1) j (by omega) h2
    · rw [if_neg hp] at h2; omega
theorem upTo_mem {p : Int → Bool} {n : Nat} {i j : Int} (h1 : i ≤ j) (h2 : j < upTo p n i) : p j = true := whileF_mem _ _ _ h1 h2

def isBlank (s : ByteArray) (i : Int) : Bool := isAt s i 32 || (isAt s i 9 || (isAt s i 10 || isAt s i 13))
theorem isBlank_lt {s : ByteArray} {i : Int} (h : isBlank s i = true) : i < s.size := by
  simp only [isBlank, Bool.or_eq_true] at h
  rcases h with h | h | h | h <;> exact isAt_lt h
/-- The place behind blanks. -/
def blanks (s : ByteArray) (i : Int) : Int := upTo (isBlank s) s.size i
/-- The place behind a word's letters. -/
def wordEnd (s : ByteArray) (i : Int) : Int := upTo (goesAt s) s.size i
/-- The place behind digits. -/
def digitsEnd (s : ByteArray) (i : Int) : Int := upTo (digitAt s) s.size i

end Go.Proofs.Ytbajghjdnjodmaa
