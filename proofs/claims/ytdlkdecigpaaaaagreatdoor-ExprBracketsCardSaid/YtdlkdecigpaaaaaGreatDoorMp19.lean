/- The parser's small calls: letter, digit, goes, fail, ahead, end, word. -/
import Derived.Shelf.Abstract
import Derived.Test.YtdlkdecigpaaaaaGreatDoorShelfQ
import Derived.Test.YtdlkdecigpaaaaaGreatDoorMp18
import Derived.Test.YtdlkdecigpaaaaaGreatDoorMp1
namespace Go.Proofs.YtdlkdecigpaaaaaGreatDoor
set_option linter.unusedVariables false
set_option linter.unusedSimpArgs false
open Go.RowKit

/-- Block g is a parser: a text, a place, the first error's place, and the error. -/
def PAt (s : ByteArray) (i pl c : Int) (g : Nat) (w : World) : Prop := w.heap[g]? = some (.cells #[.string s, .int .i64 i, .int .i64 pl, .int .i64 c] 97 (0, 0))
theorem pat_at {s : ByteArray} {i j pl c : Int} {g : Nat} {w : World} (h : PAt s i pl c g w) : PAt s j pl c g (w.setCell ⟨g, 1, none⟩ (.int .i64 j)) := set_to h 1 _ rfl
theorem pat_keeps {s : ByteArray} {i pl c : Int} {g : Nat} {w w' : World} {S : List Nat} (h : PAt s i pl c g w) (k : Keeps S w w') (hn : g ∉ S) : PAt s i pl c g w' := k.heap h hn
theorem pat_drewN {s : ByteArray} {i pl c : Int} {g : Nat} {w : World} (h : PAt s i pl c g w) (n : Nat) : PAt s i pl c g (w.drewN n) := h
theorem pat_alloc {s : ByteArray} {i pl c : Int} {g : Nat} {w : World} (h : PAt s i pl c g w) (o : Obj) : PAt s i pl c g (w.alloc o) := hk_alloc h o
set_option maxHeartbeats 400000 in
theorem eletter_any (c : Int) (w : World) (h0 : 0 ≤ c) (h1 : c ≤ 255) : Calls Tryz.prog 80 #[.int .u8 c] w fun e w' => e = .returned (.bool (letterB c)) ∧ w = w' := by
  have Hr : Hid (letterB c = decide (97 ≤ c ∧ c ≤ 122 ∨ 65 ≤ c ∧ c ≤ 90)) := Lib.hid rfl
  generalize letterB c = r at *
  go_enter Tryz.func80, Tryz.ntmps80
  go_wp2
  all_goals
    go_ret
    exact ⟨ret_bool (by rw [Hr.out, Bool.eq_iff_iff]; simp; omega), rfl⟩
set_option maxHeartbeats 400000 in
theorem edigit_any (c : Int) (w : World) (h0 : 0 ≤ c) (h1 : c ≤ 255) : Calls Tryz.prog 102 #[.int .u8 c] w fun e w' => e = .returned (.bool (digitB c)) ∧ w = w' := by
  have Hr : Hid (digitB c = decide (48 ≤ c ∧ c ≤ 57)) := Lib.hid rfl
  generalize digitB c = r at *
  go_enter Tryz.func102, Tryz.ntmps102
  go_wp2
  all_goals
    go_ret
    exact ⟨ret_bool (by rw [Hr.out, Bool.eq_iff_iff]; simp; try omega), rfl⟩
def goesB (c : Int) : Bool := letterB c || (digitB c || c == 95)
set_option maxHeartbeats 400000 in
theorem egoes_any (c : Int) (w : World) (h0 : 0 ≤ c) (h1 : c ≤ 255) : Calls Tryz.prog 82 #[.int .u8 c] w fun e w' => e = .returned (.bool (goesB c)) ∧ w = w' := by
  have Hr : Hid (goesB c = (letterB c || (digitB c || c == 95))) := Lib.hid rfl
  generalize goesB c = r at *
  cases b1 : letterB c <;> cases b2 : digitB c
  all_goals
    have HL := Lib.hid (fun w => (b1 ▸ eletter_any c w h0 h1 : Calls Tryz.prog 80 #[.int .u8 c] w fun e w' => e = .returned (.bool _) ∧ w = w'))
    have HD := Lib.hid (fun w => (b2 ▸ edigit_any c w h0 h1 : Calls Tryz.prog 102 #[.int .u8 c] w fun e w' => e = .returned (.bool _) ∧ w = w'))
    have HB := Lib.hid (And.intro b1 b2)
    clear b1 b2
    go_enter Tryz.func82, Tryz.ntmps82
    go_wp2_with (first | (go_at_call 80; refine (HL.out _).mono ?_; rintro e w' ⟨rfl, rfl⟩) | (go_at_call 102; refine (HD.out _).mono ?_; rintro e w' ⟨rfl, rfl⟩))
    all_goals
      go_ret
      exact ⟨ret_bool (by rw [Hr.out, HB.out.1, HB.out.2]; simp), rfl⟩
theorem goes_bt {s : ByteArray} {i : Int} (h : i < s.size) : goesAt s i = goesB (bt s i) := by
  simp [goesAt, letterAt, digitAt, isAt, goesB, h]
theorem digit_bt {s : ByteArray} {i : Int} (h : i < s.size) : digitAt s i = digitB (bt s i) := by simp [digitAt, h]
set_option maxHeartbeats 400000 in
theorem fail_no (s : ByteArray) (i pl c p d : Int) (g : Nat) (w : World) (h : PAt s i pl c g w) (hc : c ≠ 0) : Calls Tryz.prog 47 #[.pointer (some ⟨g, 0, none⟩), .int .i64 p, .int .i64 d] w fun e w' => e = .returned (.tuple #[]) ∧ w = w' := by
  have q := cell_blk h
  have e1 : (c == 0) = false := by rw [beq_eq_false_iff_ne]; exact hc
  clear h
  go_enter Tryz.func47, Tryz.ntmps47
  go_wp2
  go_end0
  exact ⟨rfl, rfl⟩
set_option maxHeartbeats 400000 in
theorem fail_yes (s : ByteArray) (i pl p d : Int) (g : Nat) (w : World) (h : PAt s i pl 0 g w) : Calls Tryz.prog 47 #[.pointer (some ⟨g, 0, none⟩), .int .i64 p, .int .i64 d] w fun e w' => e = .returned (.tuple #[]) ∧ PAt s i p d g w' ∧ Keeps [g] w w' := by
  have q := cell_blk h
  have f := frozen_blk h
  have HP := Lib.hid h
  clear h
  go_enter Tryz.func47, Tryz.ntmps47
  go_wp2
  go_end0
  exact ⟨rfl, set_to (set_to HP.out 2 _ rfl) 3 _ rfl, ((Keeps.refl _ _).set (.inl (by simp)) _).set (.inl (by simp)) _⟩
abbrev blankS : ByteArray := ⟨#[32, 9, 10, 13]⟩
/-- One of some bytes, by the library's word. -/
def inB (t : ByteArray) (c : Int) : Bool := decide (0 ≤ Lib.indexByte t.data.toList c.toNat.toUInt8)
theorem inB_blank {s : ByteArray} {i : Int} (h : i < s.size) : inB blankS (bt s i) = isBlank s i := by
  have hr := bt_range s i
  obtain ⟨n, hn⟩ : ∃ n : Nat, bt s i = n := ⟨(bt s i).toNat, by omega⟩
  have hn2 : n < 256 := by omega
  have key : ∀ n : Fin 256, inB blankS (n.val : Int) = ((n.val : Int) == 32 || ((n.val : Int) == 9 || ((n.val : Int) == 10 || (n.val : Int) == 13))) := by decide +kernel
  have := key ⟨n, hn2⟩
  simp only [isBlank, isAt, h, decide_true, Bool.true_and, hn]
  exact this
set_option maxRecDepth 20000 in
set_option maxHeartbeats 1000000 in
theorem eahead_any (s : ByteArray) (i pl c : Int) (g : Nat) (w : World) (h : PAt s i pl c g w) (h0 : 0 ≤ i) (hs : s.size ≤ 1000000) :
    Calls Tryz.prog 46 #[.pointer (some ⟨g, 0, none⟩)] w fun e w' => e = .returned (.int .i64 (blanks s i)) ∧ w = w' := by
  have q := cell_blk h
  clear h
  go_enter Tryz.func46, Tryz.ntmps46
  go_wp2
  go_loop [3] (fun v => ∃ j : Int, 0 ≤ j ∧ v = .int .i64 j ∧ Hid (blanks s i = blanks s j)) (fun v => s.size - (intOf v).toNat)
  case atStart => exact ⟨i, h0, rfl, Lib.hid rfl⟩
  case round =>
    obtain ⟨j, hj, rfl, H⟩ := hrel
    by_cases hlt : j < s.size
    · have hb := bt_at s j
      have HM := Lib.hid (inB_blank hlt)
      have hd : decide (j < (s.size : Int)) = true := decide_eq_true hlt
      obtain ⟨b, hbl⟩ : ∃ b, isBlank s j = b := ⟨_, rfl⟩
      have H1 : Hid (b = true → blanks s j = blanks s (j + 1)) := Lib.hid fun h => upTo_step hj (hbl.trans h) (isBlank_lt (hbl.trans h))
      have H2 : Hid (b = false → blanks s j = j) := Lib.hid fun h => upTo_stop (hbl.trans h)
      have hx : decide (0 ≤ Lib.indexByte blankS.data.toList (bt s j).toNat.toUInt8) = b := HM.out.trans hbl
      clear hbl
      cases b with
      | true =>
        have HH := Lib.hid (H.out.trans (H1.out rfl))
        clear H1 H2
        go_wp2_with (go_at_call 75; refine (Tryz.strings_IndexByte _ _ _).mono ?_; rintro e w' ⟨rfl, rfl⟩)
        go_round
        case rel => exact ⟨j + 1, by omega, rfl, HH⟩
        case measure => simp [intOf]; omega
      | false =>
        have HH := Lib.hid (H.out.trans (H2.out rfl))
        clear H1 H2
        go_wp2_with (go_at_call 75; refine (Tryz.strings_IndexByte _ _ _).mono ?_; rintro e w' ⟨rfl, rfl⟩)
        go_ret
        exact ⟨ret_i64 HH.out.symm, rfl⟩
    · have HH := Lib.hid (H.out.trans (upTo_stop (by
        cases hbl : isBlank s j with
        | false => rfl
        | true => exact absurd (isBlank_lt hbl) hlt)))
      have hd : decide (j < (s.size : Int)) = false := decide_eq_false hlt
      go_wp2
      go_ret
      exact ⟨ret_i64 HH.out.symm, rfl⟩

set_option maxRecDepth 20000 in
set_option maxHeartbeats 1000000 in
theorem eend_any (K : Nat) (eg : ∀ args w, (callFunc K args).run Tryz.prog w = .ok (.enter K args) w) (p : Int → Bool) (q : ByteArray → Int → Bool) (hK : ∀ (c : Int) (w : World), 0 ≤ c → c ≤ 255 → Calls Tryz.prog K #[.int .u8 c] w fun e w' => e = .returned (.bool (p c)) ∧ w = w') (hq : ∀ (s : ByteArray) (i : Int), i < s.size → q s i = p (bt s i)) (hq2 : ∀ (s : ByteArray) (i : Int), q s i = true → i < s.size)
    (s : ByteArray) (i a pl c : Int) (g : Nat) (w : World) (h : PAt s a pl c g w) (h0 : 0 ≤ i) (hs : s.size ≤ 1000000) :
    Calls Tryz.prog 81 #[.pointer (some ⟨g, 0, none⟩), .int .i64 i, .func (.func K) #[] #[]] w fun e w' => e = .returned (.int .i64 (upTo (q s) s.size i)) ∧ w = w' := by
  have gc := cell_blk h
  have HK := Lib.hid hK
  have HQ := Lib.hid hq
  have HQ2 := Lib.hid hq2
  clear h hK hq hq2
  go_enter Tryz.func81, Tryz.ntmps81
  go_wp2
  go_loop [1] (fun v => ∃ j : Int, 0 ≤ j ∧ v = .int .i64 j ∧ Hid (upTo (q s) s.size i = upTo (q s) s.size j)) (fun v => s.size - (intOf v).toNat)
  case atStart => exact ⟨i, h0, rfl, Lib.hid rfl⟩
  case round =>
    obtain ⟨j, hj, rfl, H⟩ := hrel
    by_cases hlt : j < s.size
    · have hb := bt_at s j
      have hr := bt_range s j
      have HM := Lib.hid (HQ.out s j hlt)
      have hd : decide (j < (s.size : Int)) = true := decide_eq_true hlt
      have hcall := HK.out (bt s j) w hr.1 hr.2
      obtain ⟨b, hbl⟩ : ∃ b, p (bt s j) = b := ⟨_, rfl⟩
      rw [hbl] at hcall
      have HC := Lib.hid hcall
      have H1 : Hid (b = true → upTo (q s) s.size j = upTo (q s) s.size (j + 1)) := Lib.hid fun h => upTo_step hj (HM.out.trans (hbl.trans h)) hlt
      have H2 : Hid (b = false → upTo (q s) s.size j = j) := Lib.hid fun h => upTo_stop (HM.out.trans (hbl.trans h))
      clear hbl hcall hr
      cases b with
      | true =>
        have HH := Lib.hid (H.out.trans (H1.out rfl))
        clear H1 H2
        go_wp2_with (go_at_fn K; refine HC.out.mono ?_; rintro e w' ⟨rfl, rfl⟩)
        go_round
        case rel => exact ⟨j + 1, by omega, rfl, HH⟩
        case measure => simp [intOf]; omega
      | false =>
        have HH := Lib.hid (H.out.trans (H2.out rfl))
        clear H1 H2
        go_wp2_with (go_at_fn K; refine HC.out.mono ?_; rintro e w' ⟨rfl, rfl⟩)
        go_ret
        exact ⟨ret_i64 HH.out.symm, rfl⟩
    · have HH := Lib.hid (H.out.trans (upTo_stop (by
        cases hbl : q s j with
        | false => rfl
        | true => exact absurd (HQ2.out s j hbl) hlt)))
      have hd : decide (j < (s.size : Int)) = false := decide_eq_false hlt
      go_wp2
      go_ret
      exact ⟨ret_i64 HH.out.symm, rfl⟩
theorem blanks_ge0 (s : ByteArray) (i : Int) (h : 0 ≤ i) : 0 ≤ blanks s i := Int.le_trans h upTo_ge
/-- The word behind a place and blanks. -/
theorem word_unf (s : ByteArray) (i : Int) : wordAt s i = if letterAt s (blanks s i) then s.extract (blanks s i).toNat (wordEnd s (blanks s i)).toNat else ⟨#[]⟩ := rfl
set_option maxRecDepth 20000 in
set_option maxHeartbeats 1000000 in
theorem eword_any (s : ByteArray) (i pl c : Int) (g : Nat) (w : World) (h : PAt s i pl c g w) (h0 : 0 ≤ i) (h1 : i ≤ s.size) (hs : s.size ≤ 1000000) :
    Calls Tryz.prog 57 #[.pointer (some ⟨g, 0, none⟩)] w fun e w' => e = .returned (.string (wordAt s i)) ∧ ∃ n, w' = w.drewN n := by
  have gc := cell_blk h
  have HA := Lib.hid (eahead_any s i pl c g w h h0 hs)
  have HE := Lib.hid (fun W (hW : PAt s i pl c g W) (j : Int) (hj : 0 ≤ j) => eend_any 82 (enters_of Tryz.func82 (by kernel_rfl) rfl) goesB goesAt egoes_any (fun s i h => goes_bt h) (fun s i h => goesAt_lt h) s j i pl c g W hW hj hs)
  have HP := Lib.hid h
  have Hw := Lib.hid (word_unf s i)
  have hb0 := blanks_ge0 s i h0
  have hb1 : blanks s i ≤ s.size := upTo_le h0 h1
  have HWE : Hid (wordEnd s (blanks s i) = upTo (goesAt s) s.size (blanks s i)) := Lib.hid rfl
  have hwe1 : blanks s i ≤ wordEnd s (blanks s i) := upTo_ge
  have hwe2 : wordEnd s (blanks s i) ≤ s.size := upTo_le hb0 hb1
  generalize wordEnd s (blanks s i) = e1 at *
  generalize wordAt s i = r at *
  generalize blanks s i = b at *
  clear h
  cases hl : letterAt s b with
  | false =>
    have Hl := Lib.hid hl
    by_cases hlt : b < s.size
    · have hbt := bt_at s b
      have hr := bt_range s b
      have hne : (b == (s.size : Int)) = false := by rw [beq_eq_false_iff_ne]; omega
      have hlb : letterB (bt s b) = false := by simpa [letterAt, hlt] using hl
      have HL := Lib.hid (fun w => (hlb ▸ eletter_any (bt s b) w hr.1 hr.2 : Calls Tryz.prog 80 #[.int .u8 (bt s b)] w fun e w' => e = .returned (.bool false) ∧ w = w'))
      clear hl hlb hr
      go_enter Tryz.func57, Tryz.ntmps57
      go_wp2_with (first | (go_at_call 46; refine HA.out.mono ?_; rintro e w' ⟨rfl, rfl⟩) | (go_at_call 80; refine (HL.out _).mono ?_; rintro e w' ⟨rfl, rfl⟩))
      go_ret
      exact ⟨ret_str (by rw [Hw.out, Hl.out]; rfl), 0, rfl⟩
    · have heq : (b == (s.size : Int)) = true := by rw [beq_iff_eq]; omega
      clear hl
      go_enter Tryz.func57, Tryz.ntmps57
      go_wp2_with (first | (go_at_call 46; refine HA.out.mono ?_; rintro e w' ⟨rfl, rfl⟩))
      go_ret
      exact ⟨ret_str (by rw [Hw.out, Hl.out]; rfl), 0, rfl⟩
  | true =>
    have Hl := Lib.hid hl
    have hlt := letterAt_lt hl
    have hbt := bt_at s b
    have hr := bt_range s b
    have hne : (b == (s.size : Int)) = false := by rw [beq_eq_false_iff_ne]; omega
    have hlb : letterB (bt s b) = true := by simpa [letterAt, hlt] using hl
    have HL := Lib.hid (fun w => (hlb ▸ eletter_any (bt s b) w hr.1 hr.2 : Calls Tryz.prog 80 #[.int .u8 (bt s b)] w fun e w' => e = .returned (.bool true) ∧ w = w'))
    have HEnd := Lib.hid (fun W (hW : PAt s i pl c g W) => (HWE.out ▸ HE.out W hW b hb0 : Calls Tryz.prog 81 #[.pointer (some ⟨g, 0, none⟩), .int .i64 b, .func (.func 82) #[] #[]] W fun e w' => e = .returned (.int .i64 e1) ∧ W = w'))
    clear hl hlb hr HE
    go_enter Tryz.func57, Tryz.ntmps57
    go_upto_region 4 with (first | (go_at_call 46; refine HA.out.mono ?_; rintro e w' ⟨rfl, rfl⟩) | (go_at_call 80; refine (HL.out _).mono ?_; rintro e w' ⟨rfl, rfl⟩))
    go_quiet ((go_at_call 81; exact Calls.quiet_of_same ((HEnd.out _ (pat_drewN HP.out _)).mono fun _ _ ⟨a, b⟩ => ⟨a, b.symm⟩)))
    go_wp2
    go_ret
    exact ⟨ret_str (by rw [Hw.out, Hl.out]; rfl), _, rfl⟩
end Go.Proofs.YtdlkdecigpaaaaaGreatDoor
