/- Put together: The document's numbers: Int, Form; The document's numbers: Number, Parse; The document's numbers: Parse. -/
import Derived.Test.YtdlkdecigpaaaaaGreatDoorMp12
import Derived.Test.YtdlkdecigpaaaaaGreatDoorMp8
namespace Go.Proofs.YtdlkdecigpaaaaaGreatDoor
set_option linter.unusedVariables false
set_option linter.unusedSimpArgs false
open Go.RowKit

theorem valF_drop {l : List Int} {k : Nat} (h : k < l.length) : valF (l.drop k) = dgt l k + 10000 * valF (l.drop (k + 1)) := by
  rw [List.drop_eq_getElem_cons h, dgt, List.getD_eq_getElem?_getD, List.getElem?_eq_getElem h]; rfl
theorem valF_drop_le {l : List Int} (hd : Dig l) (k : Nat) : 0 ≤ valF (l.drop k) ∧ valF (l.drop k) ≤ valF l := by
  have h := valF_app (l.take k) (l.drop k)
  rw [List.take_append_drop] at h
  have h1 : 0 ≤ valF (l.drop k) := valF_nonneg (fun x hx => hd x (List.mem_of_mem_drop hx))
  have h2 := valF_nonneg (hd.take k)
  have h3 := pow_pos' (l.take k).length
  have h4 : 1 * valF (l.drop k) ≤ 10000 ^ (l.take k).length * valF (l.drop k) := Int.mul_le_mul_of_nonneg_right (by omega) h1
  omega
theorem fitsB_range {z : Int} (h : fitsB z = true) : -9223372036854775808 ≤ z ∧ z ≤ 9223372036854775807 := by
  unfold fitsB at h; simp at h; omega
set_option maxRecDepth 20000 in
set_option maxHeartbeats 2000000 in
theorem int_any (va : Value) (z : Int) (w : World) (ha : NumV w va z) (hz1 : -9223372036854775808 ≤ z) (hz2 : z ≤ 9223372036854775807) :
    Calls Tryz.prog 128 #[va] w fun e w' => e = .returned (.int .i64 z) ∧ Below w.heap.size w w' := by
  obtain ⟨fa, l, rfl, ra, ca, xa⟩ := ha
  obtain ⟨A, cA, rfl⟩ := ra.open
  have ll := can_len (k := 5) ca (by rw [xa]; have : (10000 : Int) ^ 5 = 100000000000000000000 := by decide
                                     omega)
  have hvl : valF l ≤ 9223372036854775808 := by omega
  have HA := Lib.hid (ra.below (bl_alloc (Below.refl _ _) (.cells #[.bool (decide (z < 0)), .slice A l.length cA] 155)))
  have HD := Lib.hid ca.1
  have HX := Lib.hid xa
  have HW : Hid (Below w.heap.size w (w.alloc (.cells #[.bool (decide (z < 0)), .slice A l.length cA] 155))) := Lib.hid (bl_alloc (Below.refl _ _) _)
  have c1 := cell_blk (new_blk w (.cells #[.bool (decide (z < 0)), .slice A l.length cA] 155))
  clear ra ca xa
  have HZ := Lib.hid (And.intro hz1 (And.intro hz2 hvl))
  clear hz1 hz2 hvl
  obtain ⟨p, hp⟩ : ∃ p, decide (z < 0) = p := ⟨_, rfl⟩
  rw [hp] at HA HW c1 ⊢
  have HP := Lib.hid hp
  clear hp
  go_enter Tryz.func128, Tryz.ntmps128
  go_wp2
  generalize w.alloc (.cells #[.bool p, .slice A l.length cA] 155) = W at *
  go_loop [3, 4] (fun n t => ∃ (k : Nat) (m : Int), k ≤ l.length ∧ t = .int .i64 (k - 1) ∧ n = .int .i64 (-m) ∧ 0 ≤ m ∧ m ≤ 9223372036854775808 ∧ Hid (m = valF (l.drop k))) (fun _ t => (intOf t + 1).toNat)
  case atStart => exact ⟨l.length, 0, by omega, rfl, rfl, by omega, by omega, Lib.hid (by simp [valF])⟩
  case round =>
    obtain ⟨k, m, hk, rfl, rfl, hm0, hm1, H⟩ := hrel
    cases k with
    | zero =>
      have HM : Hid (m = z.natAbs) := Lib.hid (by rw [H.out, ← HX.out]; rfl)
      cases p with
      | true =>
        have hlt : z < 0 := by have := HP.out; simpa using this
        have hmz : -m = z := by have := HM.out; omega
        rw [hmz]
        clear hmz hm0 hm1
        go_wp2
        go_ret
        exact ⟨rfl, HW.out⟩
      | false =>
        have hlt : 0 ≤ z := by have := HP.out; simpa using this
        have hmz : m = z := by have := HM.out; omega
        subst hmz
        have hz2 := HZ.out.2.1
        go_wp2
        go_ret
        exact ⟨rfl, HW.out⟩
    | succ k =>
      have hkl : k < l.length := by omega
      have e1 : ((k + 1 : Nat) : Int) - 1 = k := by omega
      rw [e1]
      obtain ⟨g, hA, hc⟩ := HA.out.cell (dgt_at hkl)
      subst hA
      have hkI : (k : Int) < l.length := by omega
      have hd := dgt_range HD.out k
      have HV := Lib.hid ((valF_drop hkl).trans (by rw [← H.out]))
      have hb := (valF_drop_le HD.out k).2
      rw [HV.out] at hb
      have hb2 := HZ.out.2.2
      obtain ⟨hd0, hd1⟩ := hd
      generalize dgt l k = x at *
      have hb3 : x + 10000 * m ≤ 9223372036854775808 := by omega
      clear hb hb2 e1
      go_wp2
      go_round
      case rel => exact ⟨k, x + 10000 * m, by omega, rfl, by (try congr 1); omega, by omega, by omega, HV.out.symm⟩
      case measure => simp [intOf] <;> omega
/-- Is a text a number's? -/
def formB (s : ByteArray) : Bool :=
  let f : Int := if isAt s 0 45 then 1 else 0
  decide ((s.size : Int) ≠ f) && !(isAt s f 48 && decide ((s.size : Int) > f + 1)) && decide (digitsEnd s f = s.size)
theorem form_neg {s : ByteArray} (h : isAt s 0 45 = true) : formB s = (decide ((s.size : Int) ≠ 1) && !(isAt s 1 48 && decide ((s.size : Int) > 2)) && decide (digitsEnd s 1 = s.size)) := by simp only [formB, h, if_true]; rfl
theorem form_pos {s : ByteArray} (h : isAt s 0 45 = false) : formB s = (decide ((s.size : Int) ≠ 0) && !(isAt s 0 48 && decide ((s.size : Int) > 1)) && decide (digitsEnd s 0 = s.size)) := by simp only [formB, h]; rfl
set_option maxRecDepth 20000 in
set_option maxHeartbeats 2000000 in
theorem form_any (s : ByteArray) (w : World) (hs : s.size ≤ 4611686018427387904) :
    Calls Tryz.prog 148 #[.string s] w fun e w' => e = .returned (.bool (formB s)) ∧ w = w' := by
  have HR : Hid (formB s = formB s) := Lib.hid rfl
  generalize hr : formB s = r at *
  rw [← hr] at HR
  replace HR : Hid (r = formB s) := Lib.hid hr.symm
  clear hr
  by_cases hs0 : s.size = 0
  · have HF : Hid (r = false) := Lib.hid (by rw [HR.out]; simp [formB, isAt, hs0])
    clear HR
    go_enter Tryz.func148, Tryz.ntmps148
    go_wp2
    go_ret
    exact ⟨ret_bool HF.out.symm, rfl⟩
  · have hb0 : ∀ h : 0 < s.size, ((s[0]'h).toNat : Int) = bt s 0 := fun h => bt_at s 0 h
    by_cases h45 : bt s 0 = 45
    · by_cases hs1 : s.size = 1
      · have HF : Hid (r = false) := Lib.hid (by rw [HR.out]; simp [formB, isAt, hs1, h45])
        clear HR
        go_enter Tryz.func148, Tryz.ntmps148
        go_wp2
        go_ret
        exact ⟨ret_bool HF.out.symm, rfl⟩
      · have hb1 : ∀ h : 1 < s.size, ((s[1]'h).toNat : Int) = bt s 1 := fun h => bt_at s 1 h
        have h45b : isAt s 0 45 = true := by {simp [isAt, h45]; omega}
        go_enter Tryz.func148, Tryz.ntmps148
        by_cases h48 : bt s 1 = 48
        · by_cases hsz : s.size = 2
          · have HF : Hid (r = decide (digitsEnd s 1 = s.size)) := Lib.hid (by rw [HR.out, form_neg h45b]; simp [hsz])
            clear HR
            go_wp2
            go_loop [4] (fun t => ∃ j : Int, 1 ≤ j ∧ j ≤ s.size ∧ t = .int .i64 j ∧ Hid (digitsEnd s 1 = digitsEnd s j)) (fun t => s.size - (intOf t).toNat)
            case atStart => exact ⟨1, by omega, by omega, rfl, Lib.hid rfl⟩
            case round =>
              obtain ⟨j, hj, hjs, rfl, H⟩ := hrel
              by_cases hlt : j < s.size
              · have hjn : j.toNat < s.size := by omega
                have hb := bt_at s j
                by_cases hd1 : bt s j < 48
                · have HE : Hid (r = false) := Lib.hid (by rw [HF.out, H.out, digitsEnd, upTo_stop (by simp [digitAt, digitB]; omega)]; simp; omega)
                  go_wp2
                  go_ret
                  exact ⟨ret_bool HE.out.symm, rfl⟩
                · by_cases hd2 : 57 < bt s j
                  · have HE : Hid (r = false) := Lib.hid (by rw [HF.out, H.out, digitsEnd, upTo_stop (by simp [digitAt, digitB]; omega)]; simp; omega)
                    go_wp2
                    go_ret
                    exact ⟨ret_bool HE.out.symm, rfl⟩
                  · have HE := Lib.hid (H.out.trans (upTo_step (by omega) (by simp [digitAt, digitB]; omega) hlt))
                    go_wp2
                    go_round
                    case rel => exact ⟨j + 1, by omega, by omega, rfl, HE⟩
                    case measure => simp [intOf]; omega
              · obtain rfl : j = s.size := by omega
                have HE : Hid (r = true) := Lib.hid (by rw [HF.out, H.out, digitsEnd, upTo_stop (by simp [digitAt])]; simp)
                go_wp2
                go_ret
                exact ⟨ret_bool HE.out.symm, rfl⟩
          · have hsz2 : (2 : Int) < s.size := by omega
            have HF : Hid (r = false) := Lib.hid (by rw [HR.out, form_neg h45b]; have : isAt s 1 48 = true := (by simp [isAt, h48]; omega); simp [this, hs0] <;> omega)
            clear HR
            go_wp2
            go_ret
            exact ⟨ret_bool HF.out.symm, rfl⟩
        · have HF : Hid (r = decide (digitsEnd s 1 = s.size)) := Lib.hid (by rw [HR.out, form_neg h45b]; have : isAt s 1 48 = false := (by simp [isAt, h48]); simp [this, hs0] <;> omega)
          clear HR
          go_wp2
          go_loop [4] (fun t => ∃ j : Int, 1 ≤ j ∧ j ≤ s.size ∧ t = .int .i64 j ∧ Hid (digitsEnd s 1 = digitsEnd s j)) (fun t => s.size - (intOf t).toNat)
          case atStart => exact ⟨1, by omega, by omega, rfl, Lib.hid rfl⟩
          case round =>
            obtain ⟨j, hj, hjs, rfl, H⟩ := hrel
            by_cases hlt : j < s.size
            · have hjn : j.toNat < s.size := by omega
              have hb := bt_at s j
              by_cases hd1 : bt s j < 48
              · have HE : Hid (r = false) := Lib.hid (by rw [HF.out, H.out, digitsEnd, upTo_stop (by simp [digitAt, digitB]; omega)]; simp; omega)
                go_wp2
                go_ret
                exact ⟨ret_bool HE.out.symm, rfl⟩
              · by_cases hd2 : 57 < bt s j
                · have HE : Hid (r = false) := Lib.hid (by rw [HF.out, H.out, digitsEnd, upTo_stop (by simp [digitAt, digitB]; omega)]; simp; omega)
                  go_wp2
                  go_ret
                  exact ⟨ret_bool HE.out.symm, rfl⟩
                · have HE := Lib.hid (H.out.trans (upTo_step (by omega) (by simp [digitAt, digitB]; omega) hlt))
                  go_wp2
                  go_round
                  case rel => exact ⟨j + 1, by omega, by omega, rfl, HE⟩
                  case measure => simp [intOf]; omega
            · obtain rfl : j = s.size := by omega
              have HE : Hid (r = true) := Lib.hid (by rw [HF.out, H.out, digitsEnd, upTo_stop (by simp [digitAt])]; simp)
              go_wp2
              go_ret
              exact ⟨ret_bool HE.out.symm, rfl⟩
    · have h45b : isAt s 0 45 = false := by simp [isAt, h45]
      go_enter Tryz.func148, Tryz.ntmps148
      by_cases h48 : bt s 0 = 48
      · by_cases hsz : s.size = 1
        · have HF : Hid (r = decide (digitsEnd s 0 = s.size)) := Lib.hid (by rw [HR.out, form_pos h45b]; simp [hsz])
          clear HR
          go_wp2
          go_loop [4] (fun t => ∃ j : Int, 0 ≤ j ∧ j ≤ s.size ∧ t = .int .i64 j ∧ Hid (digitsEnd s 0 = digitsEnd s j)) (fun t => s.size - (intOf t).toNat)
          case atStart => exact ⟨0, by omega, by omega, rfl, Lib.hid rfl⟩
          case round =>
            obtain ⟨j, hj, hjs, rfl, H⟩ := hrel
            by_cases hlt : j < s.size
            · have hjn : j.toNat < s.size := by omega
              have hb := bt_at s j
              by_cases hd1 : bt s j < 48
              · have HE : Hid (r = false) := Lib.hid (by rw [HF.out, H.out, digitsEnd, upTo_stop (by simp [digitAt, digitB]; omega)]; simp; omega)
                go_wp2
                go_ret
                exact ⟨ret_bool HE.out.symm, rfl⟩
              · by_cases hd2 : 57 < bt s j
                · have HE : Hid (r = false) := Lib.hid (by rw [HF.out, H.out, digitsEnd, upTo_stop (by simp [digitAt, digitB]; omega)]; simp; omega)
                  go_wp2
                  go_ret
                  exact ⟨ret_bool HE.out.symm, rfl⟩
                · have HE := Lib.hid (H.out.trans (upTo_step (by omega) (by simp [digitAt, digitB]; omega) hlt))
                  go_wp2
                  go_round
                  case rel => exact ⟨j + 1, by omega, by omega, rfl, HE⟩
                  case measure => simp [intOf]; omega
            · obtain rfl : j = s.size := by omega
              have HE : Hid (r = true) := Lib.hid (by rw [HF.out, H.out, digitsEnd, upTo_stop (by simp [digitAt])]; simp)
              go_wp2
              go_ret
              exact ⟨ret_bool HE.out.symm, rfl⟩
        · have hsz2 : (1 : Int) < s.size := by omega
          have HF : Hid (r = false) := Lib.hid (by rw [HR.out, form_pos h45b]; have : isAt s 0 48 = true := (by simp [isAt, h48]; omega); simp [this, hs0] <;> omega)
          clear HR
          go_wp2
          go_ret
          exact ⟨ret_bool HF.out.symm, rfl⟩
      · have HF : Hid (r = decide (digitsEnd s 0 = s.size)) := Lib.hid (by rw [HR.out, form_pos h45b]; have : isAt s 0 48 = false := (by simp [isAt, h48]); simp [this, hs0] <;> omega)
        clear HR
        go_wp2
        go_loop [4] (fun t => ∃ j : Int, 0 ≤ j ∧ j ≤ s.size ∧ t = .int .i64 j ∧ Hid (digitsEnd s 0 = digitsEnd s j)) (fun t => s.size - (intOf t).toNat)
        case atStart => exact ⟨0, by omega, by omega, rfl, Lib.hid rfl⟩
        case round =>
          obtain ⟨j, hj, hjs, rfl, H⟩ := hrel
          by_cases hlt : j < s.size
          · have hjn : j.toNat < s.size := by omega
            have hb := bt_at s j
            by_cases hd1 : bt s j < 48
            · have HE : Hid (r = false) := Lib.hid (by rw [HF.out, H.out, digitsEnd, upTo_stop (by simp [digitAt, digitB]; omega)]; simp; omega)
              go_wp2
              go_ret
              exact ⟨ret_bool HE.out.symm, rfl⟩
            · by_cases hd2 : 57 < bt s j
              · have HE : Hid (r = false) := Lib.hid (by rw [HF.out, H.out, digitsEnd, upTo_stop (by simp [digitAt, digitB]; omega)]; simp; omega)
                go_wp2
                go_ret
                exact ⟨ret_bool HE.out.symm, rfl⟩
              · have HE := Lib.hid (H.out.trans (upTo_step (by omega) (by simp [digitAt, digitB]; omega) hlt))
                go_wp2
                go_round
                case rel => exact ⟨j + 1, by omega, by omega, rfl, HE⟩
                case measure => simp [intOf]; omega
          · obtain rfl : j = s.size := by omega
            have HE : Hid (r = true) := Lib.hid (by rw [HF.out, H.out, digitsEnd, upTo_stop (by simp [digitAt])]; simp)
            go_wp2
            go_ret
            exact ⟨ret_bool HE.out.symm, rfl⟩
end Go.Proofs.YtdlkdecigpaaaaaGreatDoor
namespace Go.Proofs.YtdlkdecigpaaaaaGreatDoor
set_option linter.unusedVariables false
set_option linter.unusedSimpArgs false
open Go.RowKit

/-- The number of the first digits of a text. -/
def tenN (s : ByteArray) : Nat → Int
  | 0 => 0
  | i + 1 => tenN s i * 10 + (bt s i - 48)
def AllDig (s : ByteArray) : Prop := ∀ j : Nat, j < s.size → 48 ≤ bt s j ∧ bt s j ≤ 57
theorem tenN_range {s : ByteArray} (h : AllDig s) : ∀ i, i ≤ s.size → 0 ≤ tenN s i ∧ tenN s i < 10000 ^ i
  | 0, _ => by simp [tenN]
  | i + 1, hi => by
    have ih := tenN_range h i (by omega)
    have hd := h i (by omega)
    have hp := pow_pos' i
    simp only [tenN, Int.pow_succ]; omega
theorem pow_mono {i k : Nat} (h : i ≤ k) : (10000 : Int) ^ i ≤ 10000 ^ k := by
  have e : k = i + (k - i) := by omega
  rw [e, Int.pow_add]
  have h4 := pow_pos' i
  have h5 := pow_pos' (k - i)
  have h6 : (10000 : Int) ^ i * 1 ≤ 10000 ^ i * 10000 ^ (k - i) := Int.mul_le_mul_of_nonneg_left (by omega) (by omega)
  omega
/-- Two blocks of a call's own: the result's, the number's so far. -/
def NumBox (out : Array Value) (w W : World) : Prop := W.heap[w.heap.size]? = some (.cells #[.bool false, .slice none 0 0] 155 (0, 0)) ∧ W.heap[w.heap.size + 1]? = some (.cells out 155 (0, 0)) ∧ Below w.heap.size w W
theorem numBox (w : World) : NumBox #[.bool false, .slice none 0 0] w ((w.alloc (.cells #[.bool false, .slice none 0 0] 155)).alloc (.cells #[.bool false, .slice none 0 0] 155)) := lessBox _ _ w
section
variable {w W W1 : World} {out : Array Value}
theorem NumBox.step (h : NumBox out w W) (hb : Below W.heap.size W W1) : NumBox out w W1 := LessBox.step h hb
theorem NumBox.turn {a b c d : Value} (h : NumBox #[a, b] w W) : NumBox #[c, d] w ((W.setCell ⟨w.heap.size + 1, 0, none⟩ c).setCell ⟨w.heap.size + 1, 1, none⟩ d) :=
  ⟨hk_set (hk_set h.1 (by show w.heap.size ≠ w.heap.size + 1; omega) _) (by show w.heap.size ≠ w.heap.size + 1; omega) _, set_to (set_to h.2.1 0 c rfl) 1 d rfl, bl_set (bl_set h.2.2 (by show w.heap.size ≤ w.heap.size + 1; omega) _) (by show w.heap.size ≤ w.heap.size + 1; omega) _⟩
end
set_option maxRecDepth 20000 in
set_option maxHeartbeats 4000000 in
theorem number_any (s : ByteArray) (w : World) (hs : s.size ≤ 5000) (hd : AllDig s) :
    Calls Tryz.prog 150 #[.string s] w fun e w' => ∃ v, e = .returned v ∧ NumV w' v (tenN s s.size) ∧ Below w.heap.size w w' := by
  have HD := Lib.hid hd
  have HMUL := Lib.hid (fun (i : Nat) (hi : i < s.size) (W : World) (v1 v2 : Value) (h1 : NumV W v1 (tenN s i)) (h2 : NumV W v2 10) => mul_any v1 v2 (tenN s i) 10 (s.size + 1) W h1 h2 (by have := tenN_range hd i (by omega); have := pow_mono (show i ≤ s.size + 1 by omega); omega) (by have := pow_mono (show 1 ≤ s.size + 1 by omega); rw [Int.pow_succ, Int.pow_zero] at this; omega) (by omega))
  have HADD := Lib.hid (fun (i : Nat) (hi : i < s.size) (W : World) (v1 v2 : Value) (h1 : NumV W v1 (tenN s i * 10)) (h2 : NumV W v2 (bt s i - 48)) => (show Calls _ _ _ _ fun e w' => ∃ v, e = .returned v ∧ NumV w' v (tenN s (i + 1)) ∧ Below W.heap.size W w' from
    add_any v1 v2 (tenN s i * 10) (bt s i - 48) (s.size + 1) W h1 h2 (by have := tenN_range hd i (by omega); have := pow_mono (show i + 1 ≤ s.size + 1 by omega); rw [Int.pow_succ] at this; omega) (by have := hd i hi; have := pow_mono (show 1 ≤ s.size + 1 by omega); rw [Int.pow_succ, Int.pow_zero] at this; omega) (by omega)))
  clear hd
  go_enter Tryz.func150, Tryz.ntmps150
  go_upto_region 2 with (fail)
  refine abs_world (F := NumBox #[.bool false, .slice none 0 0] w) (numBox w) ?_
  intro wr hbx
  have HX := Lib.hid hbx
  have HO : Hid (NumV wr (.agg #[.bool false, .slice none 0 0]) (tenN s 0)) := Lib.hid ⟨_, [], by simp [tenN], .nil _, ⟨by simp [Dig], by simp⟩, by simp [valF, tenN]⟩
  clear hbx
  go_wp2
  go_loopw [4] (fun t W => ∃ (i : Nat) (o : Bool) (O : Option Addr) (n c : Nat), i ≤ s.size ∧ t = .int .i64 i ∧ Hid (NumBox #[.bool o, .slice O n c] w W ∧ NumV W (.agg #[.bool o, .slice O n c]) (tenN s i))) (fun t _ => s.size - (intOf t).toNat)
  case atStart => exact ⟨0, false, none, 0, 0, by omega, rfl, Lib.hid ⟨HX.out, HO.out⟩⟩
  case round =>
    obtain ⟨i, o, O, n, c, hi, rfl, H⟩ := hrel
    clear HX HO
    by_cases hlt : i < s.size
    · have hb := bt_nat s i
      have hdi := HD.out i hlt
      obtain ⟨d0, d1⟩ := hdi
      have hiI : (i : Int) < s.size := by omega
      have HMi := Lib.hid (HMUL.out i hlt)
      have HAi := Lib.hid (HADD.out i hlt)
      have hx0 := H.out.1
      have c0 := cell_blk hx0.2.1
      clear hx0
      generalize bt s i = x at *
      have HWR : Hid (IntKind.i64.wrap (IntKind.u8.wrap (x - 48)) = x - 48) := Lib.hid (by rw [IntKind.wrap_i64]; simp [IntKind.wrap, IntKind.bits, IntKind.signed]; omega)
      go_upto_region 5 with (fail)
      go_region_with (first
        | (go_at_call 100; have hthere := HX2; clear hthere; refine (of_num _ _ (by rw [HWR.out]; omega) (by rw [HWR.out]; omega)).mono ?_; rintro e w3 ⟨v3, rfl, hn3, hb3⟩; rw [HWR.out] at hn3; have HN3 := Lib.hid hn3; obtain ⟨q3, A3, n3, k3, rfl⟩ := hn3.shape; have HX3 := Lib.hid (HX2.out.step hb3); have c3 := cell_blk HX3.out.2.1; have HN23 := Lib.hid (HN2.out.below hb3); clear hn3 hb3)
        | (go_at_call 100; refine (of_num _ _ (by decide) (by decide)).mono ?_; rintro e w1 ⟨v1, rfl, hn1, hb1⟩; replace hb1 := bl_undrew hb1; have HN1 := Lib.hid hn1; obtain ⟨q1, A1, n1, k1, rfl⟩ := hn1.shape; have HX1 := Lib.hid (H.out.1.step hb1); have c1 := cell_blk HX1.out.2.1; have HO1 := Lib.hid (H.out.2.below hb1); clear hn1 hb1)
        | (go_at_call 160; refine (HMi.out _ _ _ HO1.out HN1.out).mono ?_; rintro e w2 ⟨v2, rfl, hn2, hb2⟩; have HN2 := Lib.hid hn2; obtain ⟨q2, A2, n2, k2, rfl⟩ := hn2.shape; have HX2 := Lib.hid (HX1.out.step hb2); have c2 := cell_blk HX2.out.2.1; clear hn2 hb2)
        | (go_at_call 159; refine (HAi.out _ _ _ HN23.out HN3.out).mono ?_; rintro e w4 ⟨v4, rfl, hn4, hb4⟩; have HN4 := Lib.hid hn4; obtain ⟨q4, A4, n4, k4, rfl⟩ := hn4.shape; have HX4 := Lib.hid (HX3.out.step hb4); have c4 := cell_blk HX4.out.2.1; have f4 := frozen_blk HX4.out.2.1; clear hn4 hb4)
        )
      all_goals
        go_wp2
        go_roundw
        case rel => exact ⟨i + 1, q4, A4, n4, k4, by omega, by go_num, Lib.hid ⟨HX4.out.turn, num_set HN4.out HX4.out.2.1⟩⟩
        case measure => simp [intOf]; omega
    · obtain rfl : i = s.size := by omega
      have hx0 := H.out.1
      have c0 := cell_blk hx0.2.1
      have d0 := cell_blk hx0.1
      have f0 := frozen_blk hx0.1
      have HX0 := Lib.hid hx0
      clear hx0
      go_wp2
      have cr := cell_blk (set_to (set_to HX0.out.1 0 (.bool o) rfl) 1 (.slice O n c) rfl)
      refine bodyPost_ret (v := .agg #[.bool o, .slice O n c]) (by simp [results, Tryz.results150, go_sem, cr]) rfl ⟨_, rfl, num_set H.out.2 HX0.out.1, bl_set (bl_set HX0.out.2.2 (by simp) _) (by simp) _⟩
end Go.Proofs.YtdlkdecigpaaaaaGreatDoor
namespace Go.Proofs.YtdlkdecigpaaaaaGreatDoor
set_option linter.unusedVariables false
set_option linter.unusedSimpArgs false
open Go.RowKit

theorem bt_extract (s : ByteArray) (a j : Nat) (h : a + j < s.size) : bt (s.extract a s.size) (j : Int) = bt s ((a + j : Nat) : Int) := by
  have h1 : j < (s.extract a s.size).size := by rw [ByteArray.size_extract]; omega
  rw [← bt_nat (s.extract a s.size) j h1, ← bt_nat s (a + j) h, ByteArray.getElem_extract]
theorem digits_all {s : ByteArray} {f : Nat} (h : digitsEnd s f = s.size) (hf : f ≤ s.size) : AllDig (s.extract f s.size) := by
  intro j hj
  rw [ByteArray.size_extract] at hj
  have := upTo_mem (p := digitAt s) (n := s.size) (i := f) (j := ((f + j : Nat) : Int)) (by omega) (by rw [show upTo (digitAt s) s.size f = digitsEnd s f from rfl, h]; omega)
  rw [bt_extract s f j (by omega)]
  simp only [digitAt, digitB, Bool.and_eq_true, decide_eq_true_eq] at this
  exact this.2
theorem form_dig {s : ByteArray} (h : formB s = true) : (isAt s 0 45 = false ∧ 1 ≤ s.size ∧ AllDig s) ∨ (isAt s 0 45 = true ∧ 2 ≤ s.size ∧ AllDig (s.extract 1 s.size)) := by
  cases h45 : isAt s 0 45 with
  | false =>
    rw [form_pos h45] at h
    simp only [Bool.and_eq_true, decide_eq_true_eq] at h
    refine .inl ⟨rfl, by omega, ?_⟩
    have := digits_all (f := 0) h.2 (by omega)
    simpa using this
  | true =>
    rw [form_neg h45] at h
    simp only [Bool.and_eq_true, decide_eq_true_eq] at h
    have := isAt_lt h45
    exact .inr ⟨rfl, by omega, digits_all (f := 1) h.2 (by omega)⟩
def numZ (s : ByteArray) : Int := if isAt s 0 45 then -tenN (s.extract 1 s.size) (s.extract 1 s.size).size else tenN s s.size
def zeroN : Value := .agg #[.bool false, .slice none 0 0]
set_option maxRecDepth 20000 in
set_option maxHeartbeats 2000000 in
theorem parse5_form (s : ByteArray) (w : World) (hs : s.size ≤ 5000) (hf : formB s = false) :
    Calls Tryz.prog 127 #[.string s] w fun e w' => e = .returned (.tuple #[zeroN, .int .i64 1]) ∧ Below w.heap.size w w' := by
  have HF := Lib.hid (hf ▸ form_any s w (by omega))
  have HF2 := Lib.hid (fun w => (hf ▸ form_any s w (by omega) : Calls Tryz.prog 148 #[.string s] w fun e w' => e = .returned (.bool false) ∧ w = w'))
  clear hf HF
  go_enter Tryz.func127, Tryz.ntmps127
  go_wp2_with (go_at_call 148; refine (HF2.out _).mono ?_; rintro e w' ⟨rfl, rfl⟩)
  have cr := cell_blk (new_blk w (.cells #[.bool false, .slice none 0 0] 155))
  exact bodyPost_ret (v := .tuple #[zeroN, .int .i64 1]) (by simp [results, Tryz.results127, go_sem, cr, zeroN]) rfl ⟨rfl, bl_alloc (Below.refl _ _) _⟩
/-- The number's two blocks in Parse: the result's, the number's. -/
theorem tenZ (s : ByteArray) (hs : s.size ≤ 5000) (hd : AllDig s) : (tenN s s.size).natAbs < (10000 : Int) ^ (s.size + 5) := by
  have := tenN_range hd s.size (Nat.le_refl _)
  have := pow_mono (show s.size ≤ s.size + 5 by omega)
  omega
set_option maxRecDepth 20000 in
set_option maxHeartbeats 4000000 in
theorem parse5_num (s : ByteArray) (w : World) (hs : s.size ≤ 5000) (hf : formB s = true) :
    Calls Tryz.prog 127 #[.string s] w fun e w' => ∃ v, e = .returned (.tuple #[v, .int .i64 (if fitsB (numZ s) then 0 else 4)]) ∧ (if fitsB (numZ s) then NumV w' v (numZ s) else v = zeroN) ∧ Below w.heap.size w w' := by
  have HF2 := Lib.hid (fun w => (hf ▸ form_any s w (by omega) : Calls Tryz.prog 148 #[.string s] w fun e w' => e = .returned (.bool true) ∧ w = w'))
  have hb0 : ∀ h : 0 < s.size, ((s[0]'h).toNat : Int) = bt s 0 := fun h => bt_at s 0 h
  rcases form_dig hf with ⟨h45, hs1, hd⟩ | ⟨h45, hs1, hd⟩
  · have hz : numZ s = tenN s s.size := by rw [numZ, h45]; rfl
    have hbz : (bt s 0 == 45) = false := by have := h45; simp [isAt] at this; simp; exact this (by omega)
    have HNUM := Lib.hid (fun w => hz ▸ number_any s w hs hd)
    have hf2 := (fun (W : World) (v : Value) (h : NumV W v (numZ s)) => fits_any v (numZ s) (s.size + 5) W h (by rw [hz]; exact tenZ s hs hd) (by omega) (by omega))
    have hs0 : 0 < s.size := by omega
    clear hf hd hz
    generalize numZ s = z at *
    cases hfit : fitsB z with
    | true =>
      have HFIT := Lib.hid (hfit ▸ hf2)
      clear hf2
      go_enter Tryz.func127, Tryz.ntmps127
      go_upto_region 4 with (go_at_call 148; refine (HF2.out _).mono ?_; rintro e w' ⟨rfl, rfl⟩)
      refine abs_world (F := NumBox #[.bool false, .slice none 0 0] w) (numBox w) ?_
      intro wr hbx
      have HX := Lib.hid hbx
      clear hbx
      go_wp2_with (first | (go_at_call 150; refine (HNUM.out _).mono ?_; rintro e w1 ⟨v1, rfl, hn1, hb1⟩; have HN1 := Lib.hid hn1; obtain ⟨q1, A1, n1, k1, rfl⟩ := hn1.shape; have HX1 := Lib.hid (HX.out.step hb1); have c1 := cell_blk HX1.out.2.1; have f1 := frozen_blk HX1.out.2.1; clear hn1 hb1) | (go_at_call 151; refine (HFIT.out _ _ (num_set HN1.out HX1.out.2.1)).mono ?_; rintro e w2 ⟨rfl, hb2⟩; have HX2 := Lib.hid ((NumBox.turn HX1.out).step hb2); have HN2 := Lib.hid ((num_set HN1.out HX1.out.2.1).below hb2); have c2 := cell_blk HX2.out.2.1; have d2 := cell_blk HX2.out.1; have e2 := frozen_blk HX2.out.1; clear hb2))
      have cr := cell_blk (set_to (set_to HX2.out.1 0 (.bool q1) rfl) 1 (.slice A1 n1 k1) rfl)
      exact bodyPost_ret (v := .tuple #[.agg #[.bool q1, .slice A1 n1 k1], .int .i64 0]) (by simp [results, Tryz.results127, go_sem, cr]) rfl ⟨_, rfl, num_set HN2.out HX2.out.1, bl_set (bl_set HX2.out.2.2 (by simp) _) (by simp) _⟩
    | false =>
      have HFIT := Lib.hid (hfit ▸ hf2)
      clear hf2
      go_enter Tryz.func127, Tryz.ntmps127
      go_upto_region 4 with (go_at_call 148; refine (HF2.out _).mono ?_; rintro e w' ⟨rfl, rfl⟩)
      refine abs_world (F := NumBox #[.bool false, .slice none 0 0] w) (numBox w) ?_
      intro wr hbx
      have HX := Lib.hid hbx
      clear hbx
      go_wp2_with (first | (go_at_call 150; refine (HNUM.out _).mono ?_; rintro e w1 ⟨v1, rfl, hn1, hb1⟩; have HN1 := Lib.hid hn1; obtain ⟨q1, A1, n1, k1, rfl⟩ := hn1.shape; have HX1 := Lib.hid (HX.out.step hb1); have c1 := cell_blk HX1.out.2.1; have f1 := frozen_blk HX1.out.2.1; clear hn1 hb1) | (go_at_call 151; refine (HFIT.out _ _ (num_set HN1.out HX1.out.2.1)).mono ?_; rintro e w2 ⟨rfl, hb2⟩; have HX2 := Lib.hid ((NumBox.turn HX1.out).step hb2); have HN2 := Lib.hid ((num_set HN1.out HX1.out.2.1).below hb2); have c2 := cell_blk HX2.out.2.1; have d2 := cell_blk HX2.out.1; have e2 := frozen_blk HX2.out.1; clear hb2))
      have cr := cell_blk (set_to (set_to HX2.out.1 0 (.bool false) rfl) 1 (.slice none 0 0) rfl)
      exact bodyPost_ret (v := .tuple #[zeroN, .int .i64 4]) (by simp [results, Tryz.results127, go_sem, cr, zeroN]) rfl ⟨_, rfl, rfl, bl_set (bl_set HX2.out.2.2 (by simp) _) (by simp) _⟩
  · have hz : numZ s = -tenN (s.extract 1 s.size) (s.extract 1 s.size).size := by rw [numZ, h45]; rfl
    have hs0 : 0 < s.size := by omega
    have hbz : (bt s 0 == 45) = true := by have := h45; simp [isAt] at this; simp; exact this.2
    have hx : (s.extract 1 s.size).size ≤ 5000 := by rw [ByteArray.size_extract]; omega
    have HNUM := Lib.hid (fun w => number_any (s.extract 1 s.size) w hx hd)
    have hten := tenZ (s.extract 1 s.size) hx hd
    have HNEG := Lib.hid (fun (W : World) (v : Value) (h : NumV W v (tenN (s.extract 1 s.size) (s.extract 1 s.size).size)) => hz ▸ neg_any v _ _ W h hten (by omega))
    have hf2 := (fun (W : World) (v : Value) (h : NumV W v (numZ s)) => fits_any v (numZ s) ((s.extract 1 s.size).size + 5) W h (by rw [hz, Int.natAbs_neg]; exact hten) (by omega) (by omega))
    clear hf hd hz hten
    generalize numZ s = z at *
    cases hfit : fitsB z with
    | true =>
      have HFIT := Lib.hid (hfit ▸ hf2)
      clear hf2
      go_enter Tryz.func127, Tryz.ntmps127
      go_upto_region 4 with (go_at_call 148; refine (HF2.out _).mono ?_; rintro e w' ⟨rfl, rfl⟩)
      refine abs_world (F := NumBox #[.bool false, .slice none 0 0] w) (numBox w) ?_
      intro wr hbx
      have HX := Lib.hid hbx
      clear hbx
      go_wp2_with (first | (go_at_call 149; refine (HNEG.out _ _ HN1.out).mono ?_; rintro e w3 ⟨v3, rfl, hn3, hb3⟩; have HN3 := Lib.hid hn3; obtain ⟨q3, A3, n3, k3, rfl⟩ := hn3.shape; have HX3 := Lib.hid (HX1.out.step hb3); have c1 := cell_blk HX3.out.2.1; have f1 := frozen_blk HX3.out.2.1; clear hn3 hb3) | (go_at_call 150; refine (HNUM.out _).mono ?_; rintro e w1 ⟨v1, rfl, hn1, hb1⟩; have HN1 := Lib.hid hn1; obtain ⟨q1, A1, n1, k1, rfl⟩ := hn1.shape; have HX1 := Lib.hid (HX.out.step hb1); clear hn1 hb1) | (go_at_call 151; refine (HFIT.out _ _ (num_set HN3.out HX3.out.2.1)).mono ?_; rintro e w2 ⟨rfl, hb2⟩; have HX2 := Lib.hid ((NumBox.turn HX3.out).step hb2); have HN2 := Lib.hid ((num_set HN3.out HX3.out.2.1).below hb2); have c2 := cell_blk HX2.out.2.1; have d2 := cell_blk HX2.out.1; have e2 := frozen_blk HX2.out.1; clear hb2))
      have cr := cell_blk (set_to (set_to HX2.out.1 0 (.bool q3) rfl) 1 (.slice A3 n3 k3) rfl)
      exact bodyPost_ret (v := .tuple #[.agg #[.bool q3, .slice A3 n3 k3], .int .i64 0]) (by simp [results, Tryz.results127, go_sem, cr]) rfl ⟨_, rfl, num_set HN2.out HX2.out.1, bl_set (bl_set HX2.out.2.2 (by simp) _) (by simp) _⟩
    | false =>
      have HFIT := Lib.hid (hfit ▸ hf2)
      clear hf2
      go_enter Tryz.func127, Tryz.ntmps127
      go_upto_region 4 with (go_at_call 148; refine (HF2.out _).mono ?_; rintro e w' ⟨rfl, rfl⟩)
      refine abs_world (F := NumBox #[.bool false, .slice none 0 0] w) (numBox w) ?_
      intro wr hbx
      have HX := Lib.hid hbx
      clear hbx
      go_wp2_with (first | (go_at_call 149; refine (HNEG.out _ _ HN1.out).mono ?_; rintro e w3 ⟨v3, rfl, hn3, hb3⟩; have HN3 := Lib.hid hn3; obtain ⟨q3, A3, n3, k3, rfl⟩ := hn3.shape; have HX3 := Lib.hid (HX1.out.step hb3); have c1 := cell_blk HX3.out.2.1; have f1 := frozen_blk HX3.out.2.1; clear hn3 hb3) | (go_at_call 150; refine (HNUM.out _).mono ?_; rintro e w1 ⟨v1, rfl, hn1, hb1⟩; have HN1 := Lib.hid hn1; obtain ⟨q1, A1, n1, k1, rfl⟩ := hn1.shape; have HX1 := Lib.hid (HX.out.step hb1); clear hn1 hb1) | (go_at_call 151; refine (HFIT.out _ _ (num_set HN3.out HX3.out.2.1)).mono ?_; rintro e w2 ⟨rfl, hb2⟩; have HX2 := Lib.hid ((NumBox.turn HX3.out).step hb2); have HN2 := Lib.hid ((num_set HN3.out HX3.out.2.1).below hb2); have c2 := cell_blk HX2.out.2.1; have d2 := cell_blk HX2.out.1; have e2 := frozen_blk HX2.out.1; clear hb2))
      have cr := cell_blk (set_to (set_to HX2.out.1 0 (.bool false) rfl) 1 (.slice none 0 0) rfl)
      exact bodyPost_ret (v := .tuple #[zeroN, .int .i64 4]) (by simp [results, Tryz.results127, go_sem, cr, zeroN]) rfl ⟨_, rfl, rfl, bl_set (bl_set HX2.out.2.2 (by simp) _) (by simp) _⟩
end Go.Proofs.YtdlkdecigpaaaaaGreatDoor
