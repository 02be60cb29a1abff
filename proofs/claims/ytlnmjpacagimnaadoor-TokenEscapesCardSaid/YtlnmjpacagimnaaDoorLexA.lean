/- The lexer's hex and escape. -/
import Derived.Test.YtlnmjpacagimnaaDoorTab
namespace Go.Proofs.YtlnmjpacagimnaaDoor
set_option linter.unusedVariables false
set_option linter.unusedSimpArgs false
open Go.RowKit

theorem keeps_same {g : Nat} {w w1 : World} (h : Keeps [g] w w1) {b : Nat} {o : Obj} (hb : w.heap[b]? = some o) (hn : g ≠ b) : w1.heap[b]? = some o := h.heap hb (by simpa using fun e => hn e.symm)
theorem lex_setN {s : ByteArray} {i j : Int} {g n : Nat} {w : World} (h : Lex s i g w) : Lex s j g ((w.setCell ⟨g, 1, none⟩ (.int .i64 j)).drewN n) := lex_set h
theorem keeps_setN {g n : Nat} {w w1 : World} {v : Value} (h : Keeps [g] w w1) : Keeps [g] w ((w1.setCell ⟨g, 1, none⟩ v).drewN n) := (h.set (.inl (by simp)) _).drewN _
theorem keeps0 {S : List Nat} {w w1 w2 : World} (h : Keeps S w w1) (k : Keeps [] w1 w2) : Keeps S w w2 := h.step k (by simp)
theorem keepsg {S : List Nat} {g : Nat} {w w1 w2 : World} (h : Keeps S w w1) (k : Keeps [g] w1 w2) (hg : g ∈ S) : Keeps S w w2 := h.step k (fun b hb _ => by simp at hb; exact hb ▸ hg)
theorem has_k {s : ByteArray} {i : Int} {g : Nat} {t : ByteArray} {w : World} {b : Bool} (hl : Lex s i g w) (h0 : 0 ≤ i) (hb : hasB s i t = b) :
    Calls Tryd.prog 29 #[.pointer (some ⟨g, 0, none⟩), .string t] w fun e w' => e = .returned (.bool b) ∧ Lex s i g w' ∧ Keeps [] w w' := by
  subst hb
  refine (has_any s i g t w hl h0).mono ?_
  rintro e w' ⟨rfl, n, rfl⟩
  exact ⟨rfl, hl, (Keeps.refl [] w).drewN n⟩
theorem one_kno {s : ByteArray} {i : Int} {g : Nat} {t : ByteArray} {w : World} (hl : Lex s i g w) (h0 : 0 ≤ i) (hb : hasB s i t = false) :
    Calls Tryd.prog 39 #[.pointer (some ⟨g, 0, none⟩), .string t] w fun e w' => e = .returned (.bool false) ∧ Lex s i g w' ∧ Keeps [] w w' := by
  refine (one_no s i g t w hl h0 hb).mono ?_
  rintro e w' ⟨rfl, n, rfl⟩
  exact ⟨rfl, hl, (Keeps.refl [] w).drewN n⟩
theorem one_kyes {s : ByteArray} {i : Int} {g : Nat} {t : ByteArray} {w : World} (hl : Lex s i g w) (h0 : 0 ≤ i) (hs : s.size ≤ 1000000) (hb : hasB s i t = true) :
    Calls Tryd.prog 39 #[.pointer (some ⟨g, 0, none⟩), .string t] w fun e w' => e = .returned (.bool true) ∧ Lex s (i + 1) g w' ∧ Keeps [g] w w' := by
  refine (one_yes s i g t w hl h0 (by omega) hb).mono ?_
  rintro e w' ⟨rfl, n, rfl⟩
  exact ⟨rfl, lex_setN hl, keeps_setN (Keeps.refl _ _)⟩
/-- one, whatever follows. -/
theorem one_k {s : ByteArray} {i : Int} {g : Nat} {t : ByteArray} {w : World} {b : Bool} (hl : Lex s i g w) (h0 : 0 ≤ i) (hs : s.size ≤ 1000000) (hb : hasB s i t = b) :
    Calls Tryd.prog 39 #[.pointer (some ⟨g, 0, none⟩), .string t] w fun e w' => e = .returned (.bool b) ∧ Lex s (if b then i + 1 else i) g w' ∧ Keeps [g] w w' := by
  cases b with
  | true => exact one_kyes hl h0 hs hb
  | false => exact (one_kno hl h0 hb).mono fun e w' ⟨a, b, c⟩ => ⟨a, b, c.mono (by simp)⟩
set_option maxRecDepth 20000 in
set_option maxHeartbeats 2000000 in
theorem lhex_any (s : ByteArray) (i : Int) (g : Nat) (w : World) (hl : Lex s i g w) (h0 : 0 ≤ i) (h1 : i ≤ s.size) (hs : s.size ≤ 1000000) :
    Calls Tryd.prog 54 #[.pointer (some ⟨g, 0, none⟩)] w fun e w' => e = .returned (.tuple #[.int .i64 (if 0 ≤ (four s i).1 then (four s i).1 else 0), .bool (decide (0 ≤ (four s i).1))]) ∧ Lex s (four s i).2 g w' ∧ Keeps [g] w w' := by
  have HL := Lib.hid hl
  have HR : Hid (∀ r : Int × Int, four s i = r → r.1 = -1 → (if 0 ≤ (four s i).1 then (four s i).1 else 0) = 0 ∧ decide (0 ≤ (four s i).1) = false ∧ (four s i).2 = r.2) := Lib.hid (fun r e h => by rw [e, h]; simp)
  have HS : Hid (∀ r : Int × Int, four s i = r → 0 ≤ r.1 → (if 0 ≤ (four s i).1 then (four s i).1 else 0) = r.1 ∧ decide (0 ≤ (four s i).1) = true ∧ (four s i).2 = r.2) := Lib.hid (fun r e h => by rw [e, if_pos h]; simp [h])
  generalize (if 0 ≤ (four s i).1 then (four s i).1 else 0) = R1 at *
  generalize decide (0 ≤ (four s i).1) = R2 at *
  generalize (four s i).2 = R3 at *
  clear hl
  go_enter Tryd.func54, Tryd.ntmps54
  go_wp2
  go_loopw [4, 5] (fun n k W => ∃ (p : Nat) (m j : Int), p ≤ 4 ∧ 0 ≤ m ∧ m < 16 ^ p ∧ 0 ≤ j ∧ j ≤ s.size ∧ k = .int .i64 p ∧ n = .int .i64 m ∧ Hid (four s i = fourF s (4 - p) m j ∧ Lex s j g W ∧ Keeps [g] w W)) (fun _ k _ => 4 - (intOf k).toNat)
  case atStart => exact ⟨0, 0, i, by omega, by omega, by omega, h0, h1, rfl, rfl, Lib.hid ⟨rfl, HL.out, Keeps.refl _ _⟩⟩
  case round =>
    obtain ⟨p, m, j, hp, hm0, hm1, hj0, hj1, rfl, rfl, H⟩ := hrel
    by_cases hlt : p < 4
    · have hm2 : m < 4096 := by
        have : (16 : Int) ^ p ≤ 16 ^ 3 := by
          have h3 : p = 0 ∨ p = 1 ∨ p = 2 ∨ p = 3 := by omega
          rcases h3 with rfl | rfl | rfl | rfl <;> decide
        omega
      have HM := Lib.hid hm1
      have HF : Hid (four s i = if hexAt s j < 0 then (-1, j) else fourF s (4 - (p + 1)) (m * 16 + hexAt s j) (j + 1)) := Lib.hid (by rw [H.out.1, show 4 - p = (4 - (p + 1)) + 1 from by omega]; rfl)
      clear hm1
      by_cases hx : 0 ≤ hexAt s j
      · have HH := Lib.hid (has_k (t := hexesS) (b := true) H.out.2.1 hj0 (by rw [has_hex]; simpa using hx))
        have hjl := hexAt_lt hx
        have hb := bt_at s j
        have ht := byte_all (p := fun c => 0 ≤ hexV c → Lib.indexByte hexesS.data.toList c.toNat.toUInt8 % 16 = hexV c ∧ 0 ≤ Lib.indexByte hexesS.data.toList c.toNat.toUInt8 ∧ Lib.indexByte hexesS.data.toList c.toNat.toUInt8 ≤ 31) (fun n hn => (hex_tab n hn).2) s j
        have hxe : hexAt s j = hexV (bt s j) := by unfold hexAt; rw [if_pos hjl]
        rw [← hxe] at ht
        obtain ⟨t1, t2, t3⟩ := ht hx
        have HG := Lib.hid (HF.out.trans (if_neg (by omega)))
        have hxr := hexAt_range s j
        have HI := Lib.hid (fun w => Tryd.strings_IndexByte hexesS (bt s j) w)
        generalize Lib.indexByte hexesS.data.toList (bt s j).toNat.toUInt8 = x at *
        have T2 : Hid (m * 16 + x % 16 = m * 16 + hexAt s j) := Lib.hid (by rw [t1])
        clear ht hxe t1
        generalize hexAt s j = y at *
        go_wp2_with (go_at_call 29; refine HH.out.mono ?_; rintro e w1 ⟨rfl, hl1, hk1⟩; have H1 := Lib.hid (And.intro hl1 hk1); clear hl1 hk1; have hc1 := cell_blk H1.out.1; have hf1 := frozen_blk H1.out.1)
        go_quiet ((go_at_call 40; exact Calls.quiet_of_same (HI.out _)))
        go_wp2
        go_roundw
        case rel => exact ⟨p + 1, m * 16 + y, j + 1, by omega, by omega, by have := HM.out; rw [Int.pow_succ]; omega, by omega, by omega, by go_num, by first | exact congrArg (Value.int .i64) T2.out | (rw [← T2.out]; go_num), Lib.hid ⟨HG.out, lex_setN (n := 0) H1.out.1, (keeps0 H.out.2.2 H1.out.2).drewN _ |>.set (.inl (by simp)) _⟩⟩
        case measure => simp [intOf]; omega
      · have HH := Lib.hid (has_k (t := hexesS) (b := false) H.out.2.1 hj0 (by rw [has_hex]; simpa using hx))
        have HZ := Lib.hid (HR.out _ (HF.out.trans (if_pos (by omega))) rfl)
        clear hx
        go_wp2_with (go_at_call 29; refine HH.out.mono ?_; rintro e w1 ⟨rfl, hl1, hk1⟩; have H1 := Lib.hid (And.intro hl1 hk1); clear hl1 hk1)
        go_ret2
        exact ⟨ret2 (by rw [HZ.out.1]; rfl) (by rw [HZ.out.2.1]; rfl), by rw [HZ.out.2.2]; exact H1.out.1, keeps0 H.out.2.2 H1.out.2⟩
    · obtain rfl : p = 4 := by omega
      have HZ := Lib.hid (HS.out _ H.out.1 hm0)
      go_wp2
      go_ret2
      exact ⟨ret2 (by rw [HZ.out.1]; rfl) (by rw [HZ.out.2.1]; rfl), by rw [HZ.out.2.2]; exact H.out.2.1, H.out.2.2⟩
end Go.Proofs.YtlnmjpacagimnaaDoor
