/- glyph.Decode: the point that bytes begin with. -/
import Derived.Test.YtlnmjpacagimnaaDoorGlyph
namespace Go.Proofs.YtlnmjpacagimnaaDoor
set_option linter.unusedVariables false
set_option linter.unusedSimpArgs false
open Go.RowKit

def isRep (s : ByteArray) : Bool := Lib.hasPrefix s.data.toList [239, 191, 189]
theorem bt_getD (s : ByteArray) (j : Nat) : bt s j = ((s.data.toList.getD j 0).toNat : Int) := by
  unfold bt
  simp only [Int.toNat_natCast]
  by_cases h : j < s.size
  · rw [dif_pos h]
    have : j < s.data.toList.length := by rw [Array.length_toList]; exact h
    rw [List.getD_eq_getElem?_getD, List.getElem?_eq_getElem this]
    simp
    rfl
  · rw [dif_neg h]
    have : s.data.toList.length ≤ j := by rw [Array.length_toList]; exact Nat.le_of_not_lt h
    rw [List.getD_eq_getElem?_getD, List.getElem?_eq_none this]
    rfl
theorem isRep_iff (s : ByteArray) : isRep s = decide (3 ≤ s.size ∧ bt s 0 = 239 ∧ bt s 1 = 191 ∧ bt s 2 = 189) := by
  have e0 := bt_getD s 0
  have e1 := bt_getD s 1
  have e2 := bt_getD s 2
  simp only [Int.natCast_zero, Int.natCast_one, show ((2 : Nat) : Int) = 2 from rfl] at e0 e1 e2
  rw [e0, e1, e2]
  have hs : s.size = s.data.toList.length := by rw [Array.length_toList]; rfl
  rw [hs, isRep, Lib.hasPrefix, Bool.eq_iff_iff]
  have hb : ∀ (x : UInt8) (k : Nat), k < 256 → ((x.toNat : Int) = k ↔ x = UInt8.ofNat k) := by
    intro x k hk
    constructor
    · intro h
      apply UInt8.toNat_inj.1
      have h2 : x.toNat = k := by omega
      rw [h2]; simp; omega
    · intro h; rw [h]; simp; omega
  match s.data.toList with
  | [] => simp
  | [_] => simp
  | [_, _] => simp
  | a :: b :: c :: r =>
    simp only [List.getD_cons_zero, List.getD_cons_succ, List.length_cons, decide_eq_true_eq]
    have ha := hb a 239 (by omega)
    have hbb := hb b 191 (by omega)
    have hc := hb c 189 (by omega)
    simp only [List.isPrefixOf_cons_cons, List.isPrefixOf_nil_left, Bool.and_true, Bool.and_eq_true, beq_iff_eq]
    have h239 : (a.toNat : Int) = 239 ↔ a = 239 := ha
    have h191 : (b.toNat : Int) = 191 ↔ b = 191 := hbb
    have h189 : (c.toNat : Int) = 189 ↔ c = 189 := hc
    rw [h239, h191, h189]
    constructor
    · rintro ⟨rfl, rfl, rfl⟩; exact ⟨by omega, rfl, rfl, rfl⟩
    · rintro ⟨_, rfl, rfl, rfl⟩; exact ⟨rfl, rfl, rfl⟩
/-- How many bytes the model's decoding says, where it is a point. -/
theorem decode_len (s : ByteArray) (h : 0 < s.size) (hn : (Utf8.decode s 0).1 ≠ 65533 ∨ isRep s = true) : Lib.runeLen ((Utf8.decode s 0).1 : Int) = ((Utf8.decode s 0).2 : Int) := by
  have q0 : (s.get! 0).toNat < 256 := (s.get! 0).toNat_lt
  have q1 : (s.get! 1).toNat < 256 := (s.get! 1).toNat_lt
  have q2 : (s.get! 2).toNat < 256 := (s.get! 2).toNat_lt
  have q3 : (s.get! 3).toNat < 256 := (s.get! 3).toNat_lt
  have b0 : ((s.get! 0).toNat : Int) = bt s 0 := get_bt s 0 h
  have b1 : 1 < s.size → ((s.get! 1).toNat : Int) = bt s 1 := get_bt s 1
  have b2 : 2 < s.size → ((s.get! 2).toNat : Int) = bt s 2 := get_bt s 2
  rw [isRep_iff, decide_eq_true_eq] at hn
  rw [decode_decN] at hn ⊢
  unfold Lib.runeLen
  rw [← b0] at hn
  generalize (s.get! 0).toNat = a at *
  generalize (s.get! 1).toNat = b at *
  generalize (s.get! 2).toNat = c at *
  generalize (s.get! 3).toNat = d at *
  generalize bt s 1 = x1 at *
  generalize bt s 2 = x2 at *
  generalize s.size = n at *
  unfold decN at *
  by_cases h1 : a < 128
  · rw [if_pos h1] at hn ⊢
    simp only at hn ⊢
    rw [if_neg (by omega), if_pos (by omega)]; rfl
  · rw [if_neg h1] at hn ⊢
    by_cases h2 : a / 32 = 6 ∧ (1 < n ∧ b / 64 = 2)
    · rw [if_pos h2] at hn ⊢
      by_cases g : 128 ≤ a % 32 * 64 + b % 64
      · rw [if_pos g] at hn ⊢
        simp only at hn ⊢
        rw [if_neg (by omega), if_neg (by omega), if_pos (by omega)]; rfl
      · rw [if_neg g] at hn; simp only at hn; omega
    · rw [if_neg h2] at hn ⊢
      by_cases h3 : a / 16 = 14 ∧ (1 < n ∧ b / 64 = 2) ∧ (2 < n ∧ c / 64 = 2)
      · rw [if_pos h3] at hn ⊢
        have e1 := b1 h3.2.1.1
        have e2 := b2 h3.2.2.1
        by_cases g : 2048 ≤ a % 16 * 4096 + b % 64 * 64 + c % 64 ∧ (a % 16 * 4096 + b % 64 * 64 + c % 64 < 55296 ∨ 57344 ≤ a % 16 * 4096 + b % 64 * 64 + c % 64)
        · rw [if_pos g] at hn ⊢
          simp only at hn ⊢
          rw [if_neg (by omega), if_neg (by omega), if_neg (by omega), if_neg (by omega), if_pos (by omega)]; rfl
        · rw [if_neg g] at hn; simp only at hn; omega
      · rw [if_neg h3] at hn ⊢
        by_cases h4 : a / 8 = 30 ∧ (1 < n ∧ b / 64 = 2) ∧ (2 < n ∧ c / 64 = 2) ∧ (3 < n ∧ d / 64 = 2)
        · rw [if_pos h4] at hn ⊢
          by_cases g : 65536 ≤ a % 8 * 262144 + b % 64 * 4096 + c % 64 * 64 + d % 64 ∧ a % 8 * 262144 + b % 64 * 4096 + c % 64 * 64 + d % 64 ≤ 1114111
          · rw [if_pos g] at hn ⊢
            simp only at hn ⊢
            rw [if_neg (by omega), if_neg (by omega), if_neg (by omega), if_neg (by omega), if_neg (by omega), if_pos (by omega)]; rfl
          · rw [if_neg g] at hn; simp only at hn; omega
        · rw [if_neg h4] at hn
          simp only at hn
          exfalso
          rcases hn with hn | hn
          · exact hn rfl
          · have e1 := b1 (by omega)
            have e2 := b2 (by omega)
            omega
theorem first_bad {s : ByteArray} (h : 0 < s.size) (h1 : (Utf8.decode s 0).1 = 65533) (h2 : isRep s = false) : first s 0 = (-1, 0) := by
  rw [decode_first s h, if_pos]
  rw [isRep_iff, decide_eq_false_iff_not] at h2
  exact ⟨h1, h2⟩
theorem first_good {s : ByteArray} (h : 0 < s.size) (hn : (Utf8.decode s 0).1 ≠ 65533 ∨ isRep s = true) : first s 0 = (((Utf8.decode s 0).1 : Int), Lib.runeLen ((Utf8.decode s 0).1 : Int)) := by
  rw [decode_len s h hn, decode_first s h, if_neg]
  rw [isRep_iff, decide_eq_true_eq] at hn
  rintro ⟨h1, h2⟩
  rcases hn with hn | hn
  · exact hn h1
  · exact h2 hn
theorem first_nil {s : ByteArray} (h : s.size = 0) : first s 0 = (-1, 0) := by
  unfold first; rw [ok1, ok2, ok3, ok4, h]; simp
theorem decode_lt (s : ByteArray) : (Utf8.decode s 0).1 ≤ 1114111 := by
  have q0 : (s.get! 0).toNat < 256 := (s.get! 0).toNat_lt
  rw [decode_decN]; unfold decN
  repeat' split
  all_goals simp only; omega

set_option maxRecDepth 20000 in
set_option maxHeartbeats 1000000 in
theorem dec_any (s : ByteArray) (w : World) : Calls Tryd.prog 44 #[.string s] w fun e w' => e = .returned (.tuple #[.int .i64 (first s 0).1, .int .i64 (first s 0).2]) ∧ Below w.heap.size w w' := by
  by_cases hz : s.size = 0
  · have HR := Lib.hid (first_nil hz)
    generalize first s 0 = r at *
    have hnx := fun ty => Lib.run_next_end_at (P := Tryd.prog) (w.iter s 0) w.heap.size s 0 ty (World.iter_heap w s 0) (by omega)
    clear hz
    go_enter Tryd.func44, Tryd.ntmps44
    go_wp2
    refine wp_loop_rounds 1 ?_
    rw [rounds_succ]
    go_wp2
    go_ret2
    rw [HR.out]
    exact ⟨rfl, bl_alloc (Below.refl _ _) _⟩
  · have hpos : 0 < s.size := by omega
    have hnx := fun ty => Lib.run_next_any_at (P := Tryd.prog) (w.iter s 0) w.heap.size s 0 ty (World.iter_heap w s 0) hpos
    have hlt := decode_lt s
    have hrl := Tryd.utf8_RuneLen (Utf8.decode s 0).1
    have hhp := Tryd.strings_HasPrefix s ⟨#[239, 191, 189]⟩
    have HK : Hid (Below w.heap.size w ((w.iter s 0).iterAt w.heap.size s ((Utf8.decode s 0).2))) := Lib.hid (Lib.below_iterAt (bl_alloc (Below.refl _ _) _) (Nat.le_refl _) s _)
    have Hg := Lib.hid (fun hn => first_good hpos hn)
    have Hb := Lib.hid (fun h1 h2 => first_bad hpos h1 h2)
    have hir : isRep s = Lib.hasPrefix s.data.toList [239, 191, 189] := rfl
    have HP := Lib.hid hhp
    have HL := Lib.hid hrl
    clear hhp hrl
    generalize hd : Utf8.decode s 0 = d at *
    obtain ⟨c, L⟩ := d
    clear hd
    simp only at hlt HL
    have hlt' : (c : Int) ≤ 1114111 := by omega
    have hc0 : 0 ≤ (c : Int) := by omega
    by_cases hc : c = 65533
    · have hce : ((c : Int) == 65533) = true := by subst hc; rfl
      cases hr : isRep s
      · have HR := Lib.hid (Hb.out hc hr)
        rw [hir] at hr
        have hp2 : ∀ w, Calls Tryd.prog 59 #[.string s, .string ⟨#[239, 191, 189]⟩] w fun e w' => e = .returned (.bool false) ∧ w' = w := by
          intro w; have := HP.out w; rw [show (⟨#[239, 191, 189]⟩ : ByteArray).data.toList = [239, 191, 189] from rfl, hr] at this; exact this
        have HP2 := Lib.hid hp2
        clear hp2 hir hr Hb Hg hc
        go_enter Tryd.func44, Tryd.ntmps44
        go_wp2
        refine wp_loop_rounds 1 ?_
        rw [rounds_succ]
        go_wp2_with (first | (go_at_call 58; refine (HL.out _).mono ?_; rintro e w' ⟨rfl, rfl⟩) | (go_at_call 59; refine (HP2.out _).mono ?_; rintro e w' ⟨rfl, rfl⟩))
        go_ret2
        rw [HR.out]
        exact ⟨rfl, HK.out⟩
      · have HR := Lib.hid (Hg.out (.inr hr))
        rw [hir] at hr
        have hp2 : ∀ w, Calls Tryd.prog 59 #[.string s, .string ⟨#[239, 191, 189]⟩] w fun e w' => e = .returned (.bool true) ∧ w' = w := by
          intro w; have := HP.out w; rw [show (⟨#[239, 191, 189]⟩ : ByteArray).data.toList = [239, 191, 189] from rfl, hr] at this; exact this
        have HP2 := Lib.hid hp2
        clear hp2 hir hr Hb Hg hc
        go_enter Tryd.func44, Tryd.ntmps44
        go_wp2
        refine wp_loop_rounds 1 ?_
        rw [rounds_succ]
        go_wp2_with (first | (go_at_call 58; refine (HL.out _).mono ?_; rintro e w' ⟨rfl, rfl⟩) | (go_at_call 59; refine (HP2.out _).mono ?_; rintro e w' ⟨rfl, rfl⟩))
        go_ret2
        rw [HR.out]
        exact ⟨rfl, HK.out⟩
    · have hce : ((c : Int) == 65533) = false := by simp; omega
      have HR := Lib.hid (Hg.out (.inl hc))
      clear Hb Hg hir hc
      go_enter Tryd.func44, Tryd.ntmps44
      go_wp2
      refine wp_loop_rounds 1 ?_
      rw [rounds_succ]
      go_wp2_with (first | (go_at_call 58; refine (HL.out _).mono ?_; rintro e w' ⟨rfl, rfl⟩))
      go_ret2
      rw [HR.out]
      exact ⟨rfl, HK.out⟩
end Go.Proofs.YtlnmjpacagimnaaDoor
