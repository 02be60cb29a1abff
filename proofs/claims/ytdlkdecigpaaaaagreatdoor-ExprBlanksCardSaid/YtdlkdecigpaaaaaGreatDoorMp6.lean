/- The lexer's small calls: has, pass, one, New. -/
import Derived.Test.YtdlkdecigpaaaaaGreatDoorShelfQ
import Derived.Test.YtdlkdecigpaaaaaGreatDoorMp1
namespace Go.Proofs.YtdlkdecigpaaaaaGreatDoor
set_option linter.unusedVariables false
set_option linter.unusedSimpArgs false
open Go.RowKit

/-- Block g of w is a lexer: its text, and its place. -/
def Lex (s : ByteArray) (i : Int) (g : Nat) (w : World) : Prop := w.heap[g]? = some (.cells #[.string s, .int .i64 i] 238 (0, 0))
/-- One of some bytes. -/
def memB (t : ByteArray) (c : Int) : Bool := decide (0 ≤ Lib.indexByte t.data.toList c.toNat.toUInt8)
def hasB (s : ByteArray) (i : Int) (t : ByteArray) : Bool := decide (i < s.size) && memB t (bt s i)
theorem hasB_lt {s t : ByteArray} {i : Int} (h : hasB s i t = true) : i < s.size := by simp [hasB] at h; omega

set_option maxHeartbeats 1000000 in
theorem has_any (s : ByteArray) (i : Int) (g : Nat) (t : ByteArray) (w : World) (hl : Lex s i g w) (h0 : 0 ≤ i) :
    Calls Tryz.prog 194 #[.pointer (some ⟨g, 0, none⟩), .string t] w fun e w' => e = .returned (.bool (hasB s i t)) ∧ ∃ n, w' = w.drewN n := by
  have hc := cell_blk hl
  have Hr : Hid (hasB s i t = (decide (i < s.size) && memB t (bt s i))) := Lib.hid rfl
  generalize hasB s i t = r at *
  clear hl
  by_cases h : i < s.size
  · have hb := bt_at s i
    have hd : decide (i < (s.size : Int)) = true := by simpa using h
    have Hm : Hid (memB t (bt s i) = decide (0 ≤ Lib.indexByte t.data.toList (bt s i).toNat.toUInt8)) := Lib.hid rfl
    go_enter Tryz.func194, Tryz.ntmps194
    go_wp2
    go_quiet ((go_at_call 75; exact Calls.quiet_of_same (Tryz.strings_IndexByte _ _ _)))
    go_wp2
    go_ret
    exact ⟨ret_bool (by rw [Hr.out, Hm.out]; simp [h]), _, rfl⟩
  · have hd : decide (i < (s.size : Int)) = false := by simpa using h
    go_enter Tryz.func194, Tryz.ntmps194
    go_wp2
    go_quiet (fail)
    go_wp2
    go_ret
    exact ⟨ret_bool (by rw [Hr.out]; simp; omega), _, rfl⟩

/-- The place behind as many of some bytes as follow. -/
def passEnd (s : ByteArray) (i : Int) (t : ByteArray) : Int := upTo (fun j => hasB s j t) s.size i
theorem pass_step {s t : ByteArray} {i : Int} (h0 : 0 ≤ i) (h : hasB s i t = true) : passEnd s i t = passEnd s (i + 1) t := upTo_step h0 h (hasB_lt h)
theorem pass_stop {s t : ByteArray} {i : Int} (h : hasB s i t = false) : passEnd s i t = i := upTo_stop (p := fun j => hasB s j t) h
theorem pass_ge {s t : ByteArray} {i : Int} : i ≤ passEnd s i t := upTo_ge
theorem pass_le {s t : ByteArray} {i : Int} (h0 : 0 ≤ i) (h : i ≤ s.size) : passEnd s i t ≤ s.size := upTo_le h0 h

theorem lex_set {s : ByteArray} {i j : Int} {g : Nat} {w : World} (h : Lex s i g w) : Lex s j g (w.setCell ⟨g, 1, none⟩ (.int .i64 j)) := set_to h 1 _ rfl

theorem lex_at {s : ByteArray} {i : Int} {g : Nat} {w : World} (h : Lex s i g w) : w.cell? ⟨g, 1, none⟩ = some (.int .i64 i) := cell_blk h 1
set_option maxHeartbeats 1000000 in
theorem pass_any (s : ByteArray) (i : Int) (g : Nat) (t : ByteArray) (w : World) (hl : Lex s i g w) (h0 : 0 ≤ i) (h1 : i ≤ s.size) (hs : s.size ≤ 9223372036854775807) :
    Calls Tryz.prog 192 #[.pointer (some ⟨g, 0, none⟩), .string t] w fun e w' => e = .returned (.int .i64 (passEnd s i t - i)) ∧ Lex s (passEnd s i t) g w' ∧ Keeps [g] w w' := by
  have hc := cell_blk hl
  have HL := Lib.hid hl
  clear hl
  go_enter Tryz.func192, Tryz.ntmps192
  go_wp2
  clear hc
  go_loopw [] (fun W => ∃ j : Int, 0 ≤ j ∧ i ≤ j ∧ j ≤ s.size ∧ Hid (Lex s j g W ∧ Keeps [g] w W ∧ passEnd s i t = passEnd s j t)) (fun W => match W.cell? ⟨g, 1, none⟩ with | some (.int _ j) => s.size - j.toNat | _ => 0)
  case atStart => exact ⟨i, h0, by omega, h1, Lib.hid ⟨HL.out, Keeps.refl _ _, rfl⟩⟩
  case round =>
    obtain ⟨j, hj, hij, hjs, H⟩ := hrel
    have hc := cell_blk H.out.1
    have hf := frozen_blk H.out.1
    have hhas := has_any s j g t wr H.out.1 hj
    cases hb : hasB s j t
    · rw [hb] at hhas
      have HH := Lib.hid hhas
      have HE := Lib.hid (H.out.2.2.trans (pass_stop hb))
      clear hhas hb
      go_wp2_with (go_at_call 194; refine HH.out.mono ?_; rintro e w' ⟨rfl, n1, rfl⟩)
      go_ret
      rw [HE.out]
      have hL : Lex s j g wr := H.out.1
      exact ⟨rfl, hL, H.out.2.1.drewN _⟩
    · have hlt := hasB_lt hb
      rw [hb] at hhas
      have HH := Lib.hid hhas
      have HE := Lib.hid (H.out.2.2.trans (pass_step hj hb))
      clear hhas hb
      go_wp2_with (go_at_call 194; refine HH.out.mono ?_; rintro e w' ⟨rfl, n1, rfl⟩)
      go_roundw
      case rel => exact ⟨j + 1, by omega, by omega, by omega, Lib.hid ⟨lex_set H.out.1, (H.out.2.1.drewN _).set (.inl (by simp)) _, HE.out⟩⟩
      case measure =>
        have e1 := lex_at (lex_set (j := j + 1) (w := wr.drewN n1) H.out.1)
        have e2 := lex_at H.out.1
        simp only [e1, e2]
        omega

set_option maxHeartbeats 1000000 in
theorem one_no (s : ByteArray) (i : Int) (g : Nat) (t : ByteArray) (w : World) (hl : Lex s i g w) (h0 : 0 ≤ i) (hb : hasB s i t = false) :
    Calls Tryz.prog 201 #[.pointer (some ⟨g, 0, none⟩), .string t] w fun e w' => e = .returned (.bool false) ∧ ∃ n, w' = w.drewN n := by
  have hhas := has_any s i g t w hl h0
  rw [hb] at hhas
  have HH := Lib.hid hhas
  clear hhas hb
  go_enter Tryz.func201, Tryz.ntmps201
  go_wp2_with (go_at_call 194; refine HH.out.mono ?_; rintro e w' ⟨rfl, n1, rfl⟩)
  go_ret
  exact ⟨rfl, _, rfl⟩
set_option maxHeartbeats 1000000 in
theorem one_yes (s : ByteArray) (i : Int) (g : Nat) (t : ByteArray) (w : World) (hl : Lex s i g w) (h0 : 0 ≤ i) (hs : s.size ≤ 9223372036854775807) (hb : hasB s i t = true) :
    Calls Tryz.prog 201 #[.pointer (some ⟨g, 0, none⟩), .string t] w fun e w' => e = .returned (.bool true) ∧ ∃ n, w' = (w.setCell ⟨g, 1, none⟩ (.int .i64 (i + 1))).drewN n := by
  have hc := cell_blk hl
  have hf := frozen_blk hl
  have hlt := hasB_lt hb
  have hhas := has_any s i g t w hl h0
  rw [hb] at hhas
  have HH := Lib.hid hhas
  clear hhas hb hl
  go_enter Tryz.func201, Tryz.ntmps201
  go_wp2_with (go_at_call 194; refine HH.out.mono ?_; rintro e w' ⟨rfl, n1, rfl⟩)
  go_ret
  exact ⟨rfl, _, rfl⟩
set_option maxHeartbeats 1000000 in
theorem lnew_any (s : ByteArray) (w : World) :
    Calls Tryz.prog 188 #[.string s] w fun e w' => e = .returned (.pointer (some ⟨w.heap.size, 0, none⟩)) ∧ w.alloc (.cells #[.string s, .int .i64 0] 238) = w' := by
  go_enter Tryz.func188, Tryz.ntmps188
  go_wp2
  go_ret
  exact ⟨rfl, rfl⟩
theorem lnew_lex (s : ByteArray) (w : World) : Lex s 0 w.heap.size (w.alloc (.cells #[.string s, .int .i64 0] 238)) := new_blk _ _
end Go.Proofs.YtdlkdecigpaaaaaGreatDoor
