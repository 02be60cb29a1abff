/- Put together: glyph.Decode: the point that bytes begin with; The lexer's hex and escape. -/
import Derived.Test.YtdlkdecigpaaaaaGreatDoorMg5
namespace Go.Proofs.YtdlkdecigpaaaaaGreatDoor
set_option linter.unusedVariables false
set_option linter.unusedSimpArgs false
open Go.RowKit

def isRep (s : ByteArray) : Bool := Lib.hasPrefix s.data.toList [239, 191, 189]
theorem bt_getD (s : ByteArray) (j : Nat) : bt s j = ((s.data.toList.getD j 0).toNat : Int) := by
  unfold bt
  simp only [Int.toNat_natCast]
  by_cases h : j < s.size
  · rw [dif_pos h]
    have : j < s.data.toList.length := by rw [Array.length_toList]; exact h
    rw [List.getD_eq_getElem?_getD, List.getElem?_eq_getElem this]
    simp
    rfl
  · rw [dif_neg h]
    have : s.data.toList.length ≤ j := by rw [Array.length_toList]; exact Nat.le_of_not_lt h
    rw [List.getD_eq_getElem?_getD, List.getElem?_eq_none this]
    rfl
theorem isRep_iff (s : ByteArray) : isRep s = decide (3 ≤ s.size ∧ bt s 0 = 239 ∧ bt s 1 = 191 ∧ bt s 2 = 189) := by
  have e0 := bt_getD s 0
  have e1 := bt_getD s 1
  have e2 := bt_getD s 2
  simp only [Int.natCast_zero, Int.natCast_one, show ((2 : Nat) : Int) = 2 from rfl] at e0 e1 e2
  rw [e0, e1, e2]
  have hs : s.size = s.data.toList.length := by rw [Array.length_toList]; rfl
  rw [hs, isRep, Lib.hasPrefix, Bool.eq_iff_iff]
  have hb : ∀ (x : UInt8) (k : Nat), k < 256 → ((x.toNat : Int) = k ↔ x = UInt8.ofNat k) := by
    intro x k hk
    constructor
    · intro h
      apply UInt8.toNat_inj.1
      have h2 : x.toNat = k := by omega
      rw [h2]; simp; omega
    · intro h; rw [h]; simp; omega
  match s.data.toList with
  | [] => simp
  | [_] => simp
  | [_, _] => simp
  | a :: b :: c :: r =>
    simp only [List.getD_cons_zero, List.getD_cons_succ, List.length_cons, decide_eq_true_eq]
    have ha := hb a 239 (by omega)
    have hbb := hb b 191 (by omega)
    have hc := hb c 189 (by omega)
    simp only [List.isPrefixOf_cons_cons, List.isPrefixOf_nil_left, Bool.and_true, Bool.and_eq_true, beq_iff_eq]
    have h239 : (a.toNat : Int) = 239 ↔ a = 239 := ha
    have h191 : (b.toNat : Int) = 191 ↔ b = 191 := hbb
    have h189 : (c.toNat : Int) = 189 ↔ c = 189 := hc
    rw [h239, h191, h189]
    constructor
    · rintro ⟨rfl, rfl, rfl⟩; exact ⟨by omega, rfl, rfl, rfl⟩
    · rintro ⟨_, rfl, rfl, rfl⟩; exact ⟨rfl, rfl, rfl⟩
/-- How many bytes the model's decoding says, where it is a point. -/
theorem decode_len (s : ByteArray) (h : 0 < s.size) (hn : (Utf8.decode s 0).1 ≠ 65533 ∨ isRep s = true) : Lib.runeLen ((Utf8.decode s 0).1 : Int) = ((Utf8.decode s 0).2 : Int) := by
  have q0 : (s.get! 0).toNat < 256 := (s.get! 0).toNat_lt
  have q1 : (s.get! 1).toNat < 256 := (s.get! 1).toNat_lt
  have q2 : (s.get! 2).toNat < 256 := (s.get! 2).toNat_lt
  have q3 : (s.get! 3).toNat < 256 := (s.get! 3).toNat_lt
  have b0 : ((s.get! 0).toNat : Int) = bt s 0 := get_bt s 0 h
  have b1 : 1 < s.size → ((s.get! 1).toNat : Int) = bt s 1 := get_bt s 1
  have b2 : 2 < s.size → ((s.get! 2).toNat : Int) = bt s 2 := get_bt s 2
  rw [isRep_iff, decide_eq_true_eq] at hn
  rw [decode_decN] at hn ⊢
  unfold Lib.runeLen
  rw [← b0] at hn
  generalize (s.get! 0).toNat = a at *
  generalize (s.get! 1).toNat = b at *
  generalize (s.get! 2).toNat = c at *
  generalize (s.get! 3).toNat = d at *
  generalize bt s 1 = x1 at *
  generalize bt s 2 = x2 at *
  generalize s.size = n at *
  unfold decN at *
  by_cases h1 : a < 128
  · rw [if_pos h1] at hn ⊢
    simp only at hn ⊢
    rw [if_neg (by omega), if_pos (by omega)]; rfl
  · rw [if_neg h1] at hn ⊢
    by_cases h2 : a / 32 = 6 ∧ (1 < n ∧ b / 64 = 2)
    · rw [if_pos h2] at hn ⊢
      by_cases g : 128 ≤ a % 32 * 64 + b % 64
      · rw [if_pos g] at hn ⊢
        simp only at hn ⊢
        rw [if_neg (by omega), if_neg (by omega), if_pos (by omega)]; rfl
      · rw [if_neg g] at hn; simp only at hn; omega
    · rw [if_neg h2] at hn ⊢
      by_cases h3 : a / 16 = 14 ∧ (1 < n ∧ b / 64 = 2) ∧ (2 < n ∧ c / 64 = 2)
      · rw [if_pos h3] at hn ⊢
        have e1 := b1 h3.2.1.1
        have e2 := b2 h3.2.2.1
        by_cases g : 2048 ≤ a % 16 * 4096 + b % 64 * 64 + c % 64 ∧ (a % 16 * 4096 + b % 64 * 64 + c % 64 < 55296 ∨ 57344 ≤ a % 16 * 4096 + b % 64 * 64 + c % 64)
        · rw [if_pos g] at hn ⊢
          simp only at hn ⊢
          rw [if_neg (by omega), if_neg (by omega), if_neg (by omega), if_neg (by omega), if_pos (by omega)]; rfl
        · rw [if_neg g] at hn; simp only at hn; omega
      · rw [if_neg h3] at hn ⊢
        by_cases h4 : a / 8 = 30 ∧ (1 < n ∧ b / 64 = 2) ∧ (2 < n ∧ c / 64 = 2) ∧ (3 < n ∧ d / 64 = 2)
        · rw [if_pos h4] at hn ⊢
          by_cases g : 65536 ≤ a % 8 * 262144 + b % 64 * 4096 + c % 64 * 64 + d % 64 ∧ a % 8 * 262144 + b % 64 * 4096 + c % 64 * 64 + d % 64 ≤ 1114111
          · rw [if_pos g] at hn ⊢
            simp only at hn ⊢
            rw [if_neg (by omega), if_neg (by omega), if_neg (by omega), if_neg (by omega), if_neg (by omega), if_pos (by omega)]; rfl
          · rw [if_neg g] at hn; simp only at hn; omega
        · rw [if_neg h4] at hn
          simp only at hn
          exfalso
          rcases hn with hn | hn
          · exact hn rfl
          · have e1 := b1 (by omega)
            have e2 := b2 (by omega)
            omega
theorem first_bad {s : ByteArray} (h : 0 < s.size) (h1 : (Utf8.decode s 0).1 = 65533) (h2 : isRep s = false) : first s 0 = (-1, 0) := by
  rw [decode_first s h, if_pos]
  rw [isRep_iff, decide_eq_false_iff_not] at h2
  exact ⟨h1, h2⟩
theorem first_good {s : ByteArray} (h : 0 < s.size) (hn : (Utf8.decode s 0).1 ≠ 65533 ∨ isRep s = true) : first s 0 = (((Utf8.decode s 0).1 : Int), Lib.runeLen ((Utf8.decode s 0).1 : Int)) := by
  rw [decode_len s h hn, decode_first s h, if_neg]
  rw [isRep_iff, decide_eq_true_eq] at hn
  rintro ⟨h1, h2⟩
  rcases hn with hn | hn
  · exact hn h1
  · exact h2 hn
theorem first_nil {s : ByteArray} (h : s.size = 0) : first s 0 = (-1, 0) := by
  unfold first; rw [ok1, ok2, ok3, ok4, h]; simp
theorem decode_lt (s : ByteArray) : (Utf8.decode s 0).1 ≤ 1114111 := by
  have q0 : (s.get! 0).toNat < 256 := (s.get! 0).toNat_lt
  rw [decode_decN]; unfold decN
  repeat' split
  all_goals simp only; omega

set_option maxRecDepth 20000 in
set_option maxHeartbeats 1000000 in
theorem dec_any (s : ByteArray) (w : World) : Calls Tryz.prog 204 #[.string s] w fun e w' => e = .returned (.tuple #[.int .i64 (first s 0).1, .int .i64 (first s 0).2]) ∧ Below w.heap.size w w' := by
  by_cases hz : s.size = 0
  · have HR := Lib.hid (first_nil hz)
    generalize first s 0 = r at *
    have hnx := fun ty => Lib.run_next_end_at (P := Tryz.prog) (w.iter s 0) w.heap.size s 0 ty (World.iter_heap w s 0) (by omega)
    clear hz
    go_enter Tryz.func204, Tryz.ntmps204
    go_wp2
    refine wp_loop_rounds 1 ?_
    rw [rounds_succ]
    go_wp2
    go_ret2
    rw [HR.out]
    exact ⟨rfl, bl_alloc (Below.refl _ _) _⟩
  · have hpos : 0 < s.size := by omega
    have hnx := fun ty => Lib.run_next_any_at (P := Tryz.prog) (w.iter s 0) w.heap.size s 0 ty (World.iter_heap w s 0) hpos
    have hlt := decode_lt s
    have hrl := Tryz.utf8_RuneLen (Utf8.decode s 0).1
    have hhp := Tryz.strings_HasPrefix s ⟨#[239, 191, 189]⟩
    have HK : Hid (Below w.heap.size w ((w.iter s 0).iterAt w.heap.size s ((Utf8.decode s 0).2))) := Lib.hid (Lib.below_iterAt (bl_alloc (Below.refl _ _) _) (Nat.le_refl _) s _)
    have Hg := Lib.hid (fun hn => first_good hpos hn)
    have Hb := Lib.hid (fun h1 h2 => first_bad hpos h1 h2)
    have hir : isRep s = Lib.hasPrefix s.data.toList [239, 191, 189] := rfl
    have HP := Lib.hid hhp
    have HL := Lib.hid hrl
    clear hhp hrl
    generalize hd : Utf8.decode s 0 = d at *
    obtain ⟨c, L⟩ := d
    clear hd
    simp only at hlt HL
    have hlt' : (c : Int) ≤ 1114111 := by omega
    have hc0 : 0 ≤ (c : Int) := by omega
    by_cases hc : c = 65533
    · have hce : ((c : Int) == 65533) = true := by subst hc; rfl
      cases hr : isRep s
      · have HR := Lib.hid (Hb.out hc hr)
        rw [hir] at hr
        have hp2 : ∀ w, Calls Tryz.prog 131 #[.string s, .string ⟨#[239, 191, 189]⟩] w fun e w' => e = .returned (.bool false) ∧ w' = w := by
          intro w; have := HP.out w; rw [show (⟨#[239, 191, 189]⟩ : ByteArray).data.toList = [239, 191, 189] from rfl, hr] at this; exact this
        have HP2 := Lib.hid hp2
        clear hp2 hir hr Hb Hg hc
        go_enter Tryz.func204, Tryz.ntmps204
        go_wp2
        refine wp_loop_rounds 1 ?_
        rw [rounds_succ]
        go_wp2_with (first | (go_at_call 214; refine (HL.out _).mono ?_; rintro e w' ⟨rfl, rfl⟩) | (go_at_call 131; refine (HP2.out _).mono ?_; rintro e w' ⟨rfl, rfl⟩))
        go_ret2
        rw [HR.out]
        exact ⟨rfl, HK.out⟩
      · have HR := Lib.hid (Hg.out (.inr hr))
        rw [hir] at hr
        have hp2 : ∀ w, Calls Tryz.prog 131 #[.string s, .string ⟨#[239, 191, 189]⟩] w fun e w' => e = .returned (.bool true) ∧ w' = w := by
          intro w; have := HP.out w; rw [show (⟨#[239, 191, 189]⟩ : ByteArray).data.toList = [239, 191, 189] from rfl, hr] at this; exact this
        have HP2 := Lib.hid hp2
        clear hp2 hir hr Hb Hg hc
        go_enter Tryz.func204, Tryz.ntmps204
        go_wp2
        refine wp_loop_rounds 1 ?_
        rw [rounds_succ]
        go_wp2_with (first | (go_at_call 214; refine (HL.out _).mono ?_; rintro e w' ⟨rfl, rfl⟩) | (go_at_call 131; refine (HP2.out _).mono ?_; rintro e w' ⟨rfl, rfl⟩))
        go_ret2
        rw [HR.out]
        exact ⟨rfl, HK.out⟩
    · have hce : ((c : Int) == 65533) = false := by simp; omega
      have HR := Lib.hid (Hg.out (.inl hc))
      clear Hb Hg hir hc
      go_enter Tryz.func204, Tryz.ntmps204
      go_wp2
      refine wp_loop_rounds 1 ?_
      rw [rounds_succ]
      go_wp2_with (first | (go_at_call 214; refine (HL.out _).mono ?_; rintro e w' ⟨rfl, rfl⟩))
      go_ret2
      rw [HR.out]
      exact ⟨rfl, HK.out⟩
end Go.Proofs.YtdlkdecigpaaaaaGreatDoor
namespace Go.Proofs.YtdlkdecigpaaaaaGreatDoor
set_option linter.unusedVariables false
set_option linter.unusedSimpArgs false
open Go.RowKit

theorem keeps_same {g : Nat} {w w1 : World} (h : Keeps [g] w w1) {b : Nat} {o : Obj} (hb : w.heap[b]? = some o) (hn : g ≠ b) : w1.heap[b]? = some o := h.heap hb (by simpa using fun e => hn e.symm)
theorem lex_setN {s : ByteArray} {i j : Int} {g n : Nat} {w : World} (h : Lex s i g w) : Lex s j g ((w.setCell ⟨g, 1, none⟩ (.int .i64 j)).drewN n) := lex_set h
theorem keeps_setN {g n : Nat} {w w1 : World} {v : Value} (h : Keeps [g] w w1) : Keeps [g] w ((w1.setCell ⟨g, 1, none⟩ v).drewN n) := (h.set (.inl (by simp)) _).drewN _
theorem keeps0 {S : List Nat} {w w1 w2 : World} (h : Keeps S w w1) (k : Keeps [] w1 w2) : Keeps S w w2 := h.step k (by simp)
theorem keepsg {S : List Nat} {g : Nat} {w w1 w2 : World} (h : Keeps S w w1) (k : Keeps [g] w1 w2) (hg : g ∈ S) : Keeps S w w2 := h.step k (fun b hb _ => by simp at hb; exact hb ▸ hg)
theorem has_k {s : ByteArray} {i : Int} {g : Nat} {t : ByteArray} {w : World} {b : Bool} (hl : Lex s i g w) (h0 : 0 ≤ i) (hb : hasB s i t = b) :
    Calls Tryz.prog 194 #[.pointer (some ⟨g, 0, none⟩), .string t] w fun e w' => e = .returned (.bool b) ∧ Lex s i g w' ∧ Keeps [] w w' := by
  subst hb
  refine (has_any s i g t w hl h0).mono ?_
  rintro e w' ⟨rfl, n, rfl⟩
  exact ⟨rfl, hl, (Keeps.refl [] w).drewN n⟩
theorem one_kno {s : ByteArray} {i : Int} {g : Nat} {t : ByteArray} {w : World} (hl : Lex s i g w) (h0 : 0 ≤ i) (hb : hasB s i t = false) :
    Calls Tryz.prog 201 #[.pointer (some ⟨g, 0, none⟩), .string t] w fun e w' => e = .returned (.bool false) ∧ Lex s i g w' ∧ Keeps [] w w' := by
  refine (one_no s i g t w hl h0 hb).mono ?_
  rintro e w' ⟨rfl, n, rfl⟩
  exact ⟨rfl, hl, (Keeps.refl [] w).drewN n⟩
theorem one_kyes {s : ByteArray} {i : Int} {g : Nat} {t : ByteArray} {w : World} (hl : Lex s i g w) (h0 : 0 ≤ i) (hs : s.size ≤ 1000000) (hb : hasB s i t = true) :
    Calls Tryz.prog 201 #[.pointer (some ⟨g, 0, none⟩), .string t] w fun e w' => e = .returned (.bool true) ∧ Lex s (i + 1) g w' ∧ Keeps [g] w w' := by
  refine (one_yes s i g t w hl h0 (by omega) hb).mono ?_
  rintro e w' ⟨rfl, n, rfl⟩
  exact ⟨rfl, lex_setN hl, keeps_setN (Keeps.refl _ _)⟩
/-- one, whatever follows. -/
theorem one_k {s : ByteArray} {i : Int} {g : Nat} {t : ByteArray} {w : World} {b : Bool} (hl : Lex s i g w) (h0 : 0 ≤ i) (hs : s.size ≤ 1000000) (hb : hasB s i t = b) :
    Calls Tryz.prog 201 #[.pointer (some ⟨g, 0, none⟩), .string t] w fun e w' => e = .returned (.bool b) ∧ Lex s (if b then i + 1 else i) g w' ∧ Keeps [g] w w' := by
  cases b with
  | true => exact one_kyes hl h0 hs hb
  | false => exact (one_kno hl h0 hb).mono fun e w' ⟨a, b, c⟩ => ⟨a, b, c.mono (by simp)⟩
set_option maxRecDepth 20000 in
set_option maxHeartbeats 2000000 in
theorem lhex_any (s : ByteArray) (i : Int) (g : Nat) (w : World) (hl : Lex s i g w) (h0 : 0 ≤ i) (h1 : i ≤ s.size) (hs : s.size ≤ 1000000) :
    Calls Tryz.prog 211 #[.pointer (some ⟨g, 0, none⟩)] w fun e w' => e = .returned (.tuple #[.int .i64 (if 0 ≤ (four s i).1 then (four s i).1 else 0), .bool (decide (0 ≤ (four s i).1))]) ∧ Lex s (four s i).2 g w' ∧ Keeps [g] w w' := by
  have HL := Lib.hid hl
  have HR : Hid (∀ r : Int × Int, four s i = r → r.1 = -1 → (if 0 ≤ (four s i).1 then (four s i).1 else 0) = 0 ∧ decide (0 ≤ (four s i).1) = false ∧ (four s i).2 = r.2) := Lib.hid (fun r e h => by rw [e, h]; simp)
  have HS : Hid (∀ r : Int × Int, four s i = r → 0 ≤ r.1 → (if 0 ≤ (four s i).1 then (four s i).1 else 0) = r.1 ∧ decide (0 ≤ (four s i).1) = true ∧ (four s i).2 = r.2) := Lib.hid (fun r e h => by rw [e, if_pos h]; simp [h])
  generalize (if 0 ≤ (four s i).1 then (four s i).1 else 0) = R1 at *
  generalize decide (0 ≤ (four s i).1) = R2 at *
  generalize (four s i).2 = R3 at *
  clear hl
  go_enter Tryz.func211, Tryz.ntmps211
  go_wp2
  go_loopw [4, 5] (fun n k W => ∃ (p : Nat) (m j : Int), p ≤ 4 ∧ 0 ≤ m ∧ m < 16 ^ p ∧ 0 ≤ j ∧ j ≤ s.size ∧ k = .int .i64 p ∧ n = .int .i64 m ∧ Hid (four s i = fourF s (4 - p) m j ∧ Lex s j g W ∧ Keeps [g] w W)) (fun _ k _ => 4 - (intOf k).toNat)
  case atStart => exact ⟨0, 0, i, by omega, by omega, by omega, h0, h1, rfl, rfl, Lib.hid ⟨rfl, HL.out, Keeps.refl _ _⟩⟩
  case round =>
    obtain ⟨p, m, j, hp, hm0, hm1, hj0, hj1, rfl, rfl, H⟩ := hrel
    by_cases hlt : p < 4
    · have hm2 : m < 4096 := by
        have : (16 : Int) ^ p ≤ 16 ^ 3 := by
          have h3 : p = 0 ∨ p = 1 ∨ p = 2 ∨ p = 3 := by omega
          rcases h3 with rfl | rfl | rfl | rfl <;> decide
        omega
      have HM := Lib.hid hm1
      have HF : Hid (four s i = if hexAt s j < 0 then (-1, j) else fourF s (4 - (p + 1)) (m * 16 + hexAt s j) (j + 1)) := Lib.hid (by rw [H.out.1, show 4 - p = (4 - (p + 1)) + 1 from by omega]; rfl)
      clear hm1
      by_cases hx : 0 ≤ hexAt s j
      · have HH := Lib.hid (has_k (t := hexesS) (b := true) H.out.2.1 hj0 (by rw [has_hex]; simpa using hx))
        have hjl := hexAt_lt hx
        have hb := bt_at s j
        have ht := byte_all (p := fun c => 0 ≤ hexV c → Lib.indexByte hexesS.data.toList c.toNat.toUInt8 % 16 = hexV c ∧ 0 ≤ Lib.indexByte hexesS.data.toList c.toNat.toUInt8 ∧ Lib.indexByte hexesS.data.toList c.toNat.toUInt8 ≤ 31) (fun n hn => (hex_tab n hn).2) s j
        have hxe : hexAt s j = hexV (bt s j) := by unfold hexAt; rw [if_pos hjl]
        rw [← hxe] at ht
        obtain ⟨t1, t2, t3⟩ := ht hx
        have HG := Lib.hid (HF.out.trans (if_neg (by omega)))
        have hxr := hexAt_range s j
        have HI := Lib.hid (fun w => Tryz.strings_IndexByte hexesS (bt s j) w)
        generalize Lib.indexByte hexesS.data.toList (bt s j).toNat.toUInt8 = x at *
        have T2 : Hid (m * 16 + x % 16 = m * 16 + hexAt s j) := Lib.hid (by rw [t1])
        clear ht hxe t1
        generalize hexAt s j = y at *
        go_wp2_with (go_at_call 194; refine HH.out.mono ?_; rintro e w1 ⟨rfl, hl1, hk1⟩; have H1 := Lib.hid (And.intro hl1 hk1); clear hl1 hk1; have hc1 := cell_blk H1.out.1; have hf1 := frozen_blk H1.out.1)
        go_quiet ((go_at_call 75; exact Calls.quiet_of_same (HI.out _)))
        go_wp2
        go_roundw
        case rel => exact ⟨p + 1, m * 16 + y, j + 1, by omega, by omega, by have := HM.out; rw [Int.pow_succ]; omega, by omega, by omega, by go_num, by first | exact congrArg (Value.int .i64) T2.out | (rw [← T2.out]; go_num), Lib.hid ⟨HG.out, lex_setN (n := 0) H1.out.1, (keeps0 H.out.2.2 H1.out.2).drewN _ |>.set (.inl (by simp)) _⟩⟩
        case measure => simp [intOf]; omega
      · have HH := Lib.hid (has_k (t := hexesS) (b := false) H.out.2.1 hj0 (by rw [has_hex]; simpa using hx))
        have HZ := Lib.hid (HR.out _ (HF.out.trans (if_pos (by omega))) rfl)
        clear hx
        go_wp2_with (go_at_call 194; refine HH.out.mono ?_; rintro e w1 ⟨rfl, hl1, hk1⟩; have H1 := Lib.hid (And.intro hl1 hk1); clear hl1 hk1)
        go_ret2
        exact ⟨ret2 (by rw [HZ.out.1]; rfl) (by rw [HZ.out.2.1]; rfl), by rw [HZ.out.2.2]; exact H1.out.1, keeps0 H.out.2.2 H1.out.2⟩
    · obtain rfl : p = 4 := by omega
      have HZ := Lib.hid (HS.out _ H.out.1 hm0)
      go_wp2
      go_ret2
      exact ⟨ret2 (by rw [HZ.out.1]; rfl) (by rw [HZ.out.2.1]; rfl), by rw [HZ.out.2.2]; exact H.out.2.1, H.out.2.2⟩
end Go.Proofs.YtdlkdecigpaaaaaGreatDoor
