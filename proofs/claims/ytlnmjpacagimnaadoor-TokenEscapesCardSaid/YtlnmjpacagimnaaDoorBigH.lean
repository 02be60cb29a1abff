/- The document's numbers: Int, Form. -/
import Derived.Test.YtlnmjpacagimnaaDoorBigF
import Derived.Test.YtlnmjpacagimnaaDoorRefA
namespace Go.Proofs.YtlnmjpacagimnaaDoor
set_option linter.unusedVariables false
set_option linter.unusedSimpArgs false
open Go.RowKit

theorem valF_drop {l : List Int} {k : Nat} (h : k < l.length) : valF (l.drop k) = dgt l k + 10000 * valF (l.drop (k + 1)) := by
  rw [List.drop_eq_getElem_cons h, dgt, List.getD_eq_getElem?_getD, List.getElem?_eq_getElem h]; rfl
theorem valF_drop_le {l : List Int} (hd : Dig l) (k : Nat) : 0 ≤ valF (l.drop k) ∧ valF (l.drop k) ≤ valF l := by
  have h := valF_app (l.take k) (l.drop k)
  rw [List.take_append_drop] at h
  have h1 : 0 ≤ valF (l.drop k) := valF_nonneg (fun x hx => hd x (List.mem_of_mem_drop hx))
  have h2 := valF_nonneg (hd.take k)
  have h3 := pow_pos' (l.take k).length
  have h4 : 1 * valF (l.drop k) ≤ 10000 ^ (l.take k).length * valF (l.drop k) := Int.mul_le_mul_of_nonneg_right (by omega) h1
  omega
theorem fitsB_range {z : Int} (h : fitsB z = true) : -9223372036854775808 ≤ z ∧ z ≤ 9223372036854775807 := by
  unfold fitsB at h; simp at h; omega
set_option maxRecDepth 20000 in
set_option maxHeartbeats 2000000 in
theorem int_any (va : Value) (z : Int) (w : World) (ha : NumV w va z) (hz1 : -9223372036854775808 ≤ z) (hz2 : z ≤ 9223372036854775807) :
    Calls Tryd.prog 37 #[va] w fun e w' => e = .returned (.int .i64 z) ∧ Below w.heap.size w w' := by
  obtain ⟨fa, l, rfl, ra, ca, xa⟩ := ha
  obtain ⟨A, cA, rfl⟩ := ra.open
  have ll := can_len (k := 5) ca (by rw [xa]; have : (10000 : Int) ^ 5 = 100000000000000000000 := by decide
                                     omega)
  have hvl : valF l ≤ 9223372036854775808 := by omega
  have HA := Lib.hid (ra.below (bl_alloc (Below.refl _ _) (.cells #[.bool (decide (z < 0)), .slice A l.length cA] 39)))
  have HD := Lib.hid ca.1
  have HX := Lib.hid xa
  have HW : Hid (Below w.heap.size w (w.alloc (.cells #[.bool (decide (z < 0)), .slice A l.length cA] 39))) := Lib.hid (bl_alloc (Below.refl _ _) _)
  have c1 := cell_blk (new_blk w (.cells #[.bool (decide (z < 0)), .slice A l.length cA] 39))
  clear ra ca xa
  have HZ := Lib.hid (And.intro hz1 (And.intro hz2 hvl))
  clear hz1 hz2 hvl
  obtain ⟨p, hp⟩ : ∃ p, decide (z < 0) = p := ⟨_, rfl⟩
  rw [hp] at HA HW c1 ⊢
  have HP := Lib.hid hp
  clear hp
  go_enter Tryd.func37, Tryd.ntmps37
  go_wp2
  generalize w.alloc (.cells #[.bool p, .slice A l.length cA] 39) = W at *
  go_loop [3, 4] (fun n t => ∃ (k : Nat) (m : Int), k ≤ l.length ∧ t = .int .i64 (k - 1) ∧ n = .int .i64 (-m) ∧ 0 ≤ m ∧ m ≤ 9223372036854775808 ∧ Hid (m = valF (l.drop k))) (fun _ t => (intOf t + 1).toNat)
  case atStart => exact ⟨l.length, 0, by omega, rfl, rfl, by omega, by omega, Lib.hid (by simp [valF])⟩
  case round =>
    obtain ⟨k, m, hk, rfl, rfl, hm0, hm1, H⟩ := hrel
    cases k with
    | zero =>
      have HM : Hid (m = z.natAbs) := Lib.hid (by rw [H.out, ← HX.out]; rfl)
      cases p with
      | true =>
        have hlt : z < 0 := by have := HP.out; simpa using this
        have hmz : -m = z := by have := HM.out; omega
        rw [hmz]
        clear hmz hm0 hm1
        go_wp2
        go_ret
        exact ⟨rfl, HW.out⟩
      | false =>
        have hlt : 0 ≤ z := by have := HP.out; simpa using this
        have hmz : m = z := by have := HM.out; omega
        subst hmz
        have hz2 := HZ.out.2.1
        go_wp2
        go_ret
        exact ⟨rfl, HW.out⟩
    | succ k =>
      have hkl : k < l.length := by omega
      have e1 : ((k + 1 : Nat) : Int) - 1 = k := by omega
      rw [e1]
      obtain ⟨g, hA, hc⟩ := HA.out.cell (dgt_at hkl)
      subst hA
      have hkI : (k : Int) < l.length := by omega
      have hd := dgt_range HD.out k
      have HV := Lib.hid ((valF_drop hkl).trans (by rw [← H.out]))
      have hb := (valF_drop_le HD.out k).2
      rw [HV.out] at hb
      have hb2 := HZ.out.2.2
      obtain ⟨hd0, hd1⟩ := hd
      generalize dgt l k = x at *
      have hb3 : x + 10000 * m ≤ 9223372036854775808 := by omega
      clear hb hb2 e1
      go_wp2
      go_round
      case rel => exact ⟨k, x + 10000 * m, by omega, rfl, by (try congr 1); omega, by omega, by omega, HV.out.symm⟩
      case measure => simp [intOf] <;> omega
/-- Is a text a number's? -/
def formB (s : ByteArray) : Bool :=
  let f : Int := if isAt s 0 45 then 1 else 0
  decide ((s.size : Int) ≠ f) && !(isAt s f 48 && decide ((s.size : Int) > f + 1)) && decide (digitsEnd s f = s.size)
theorem form_neg {s : ByteArray} (h : isAt s 0 45 = true) : formB s = (decide ((s.size : Int) ≠ 1) && !(isAt s 1 48 && decide ((s.size : Int) > 2)) && decide (digitsEnd s 1 = s.size)) := by simp only [formB, h, if_true]; rfl
theorem form_pos {s : ByteArray} (h : isAt s 0 45 = false) : formB s = (decide ((s.size : Int) ≠ 0) && !(isAt s 0 48 && decide ((s.size : Int) > 1)) && decide (digitsEnd s 0 = s.size)) := by simp only [formB, h]; rfl
set_option maxRecDepth 20000 in
set_option maxHeartbeats 2000000 in
theorem form_any (s : ByteArray) (w : World) (hs : s.size ≤ 4611686018427387904) :
    Calls Tryd.prog 49 #[.string s] w fun e w' => e = .returned (.bool (formB s)) ∧ w = w' := by
  have HR : Hid (formB s = formB s) := Lib.hid rfl
  generalize hr : formB s = r at *
  rw [← hr] at HR
  replace HR : Hid (r = formB s) := Lib.hid hr.symm
  clear hr
  by_cases hs0 : s.size = 0
  · have HF : Hid (r = false) := Lib.hid (by rw [HR.out]; simp [formB, isAt, hs0])
    clear HR
    go_enter Tryd.func49, Tryd.ntmps49
    go_wp2
    go_ret
    exact ⟨ret_bool HF.out.symm, rfl⟩
  · have hb0 : ∀ h : 0 < s.size, ((s[0]'h).toNat : Int) = bt s 0 := fun h => bt_at s 0 h
    by_cases h45 : bt s 0 = 45
    · by_cases hs1 : s.size = 1
      · have HF : Hid (r = false) := Lib.hid (by rw [HR.out]; simp [formB, isAt, hs1, h45])
        clear HR
        go_enter Tryd.func49, Tryd.ntmps49
        go_wp2
        go_ret
        exact ⟨ret_bool HF.out.symm, rfl⟩
      · have hb1 : ∀ h : 1 < s.size, ((s[1]'h).toNat : Int) = bt s 1 := fun h => bt_at s 1 h
        have h45b : isAt s 0 45 = true := by {simp [isAt, h45]; omega}
        go_enter Tryd.func49, Tryd.ntmps49
        by_cases h48 : bt s 1 = 48
        · by_cases hsz : s.size = 2
          · have HF : Hid (r = decide (digitsEnd s 1 = s.size)) := Lib.hid (by rw [HR.out, form_neg h45b]; simp [hsz])
            clear HR
            go_wp2
            go_loop [4] (fun t => ∃ j : Int, 1 ≤ j ∧ j ≤ s.size ∧ t = .int .i64 j ∧ Hid (digitsEnd s 1 = digitsEnd s j)) (fun t => s.size - (intOf t).toNat)
            case atStart => exact ⟨1, by omega, by omega, rfl, Lib.hid rfl⟩
            case round =>
              obtain ⟨j, hj, hjs, rfl, H⟩ := hrel
              by_cases hlt : j < s.size
              · have hjn : j.toNat < s.size := by omega
                have hb := bt_at s j
                by_cases hd1 : bt s j < 48
                · have HE : Hid (r = false) := Lib.hid (by rw [HF.out, H.out, digitsEnd, upTo_stop (by simp [digitAt, digitB]; omega)]; simp; omega)
                  go_wp2
                  go_ret
                  exact ⟨ret_bool HE.out.symm, rfl⟩
                · by_cases hd2 : 57 < bt s j
                  · have HE : Hid (r = false) := Lib.hid (by rw [HF.out, H.out, digitsEnd, upTo_stop (by simp [digitAt, digitB]; omega)]; simp; omega)
                    go_wp2
                    go_ret
                    exact ⟨ret_bool HE.out.symm, rfl⟩
                  · have HE := Lib.hid (H.out.trans (upTo_step (by omega) (by simp [digitAt, digitB]; omega) hlt))
                    go_wp2
                    go_round
                    case rel => exact ⟨j + 1, by omega, by omega, rfl, HE⟩
                    case measure => simp [intOf]; omega
              · obtain rfl : j = s.size := by omega
                have HE : Hid (r = true) := Lib.hid (by rw [HF.out, H.out, digitsEnd, upTo_stop (by simp [digitAt])]; simp)
                go_wp2
                go_ret
                exact ⟨ret_bool HE.out.symm, rfl⟩
          · have hsz2 : (2 : Int) < s.size := by omega
            have HF : Hid (r = false) := Lib.hid (by rw [HR.out, form_neg h45b]; have : isAt s 1 48 = true := (by simp [isAt, h48]; omega); simp [this, hs0] <;> omega)
            clear HR
            go_wp2
            go_ret
            exact ⟨ret_bool HF.out.symm, rfl⟩
        · have HF : Hid (r = decide (digitsEnd s 1 = s.size)) := Lib.hid (by rw [HR.out, form_neg h45b]; have : isAt s 1 48 = false := (by simp [isAt, h48]); simp [this, hs0] <;> omega)
          clear HR
          go_wp2
          go_loop [4] (fun t => ∃ j : Int, 1 ≤ j ∧ j ≤ s.size ∧ t = .int .i64 j ∧ Hid (digitsEnd s 1 = digitsEnd s j)) (fun t => s.size - (intOf t).toNat)
          case atStart => exact ⟨1, by omega, by omega, rfl, Lib.hid rfl⟩
          case round =>
            obtain ⟨j, hj, hjs, rfl, H⟩ := hrel
            by_cases hlt : j < s.size
            · have hjn : j.toNat < s.size := by omega
              have hb := bt_at s j
              by_cases hd1 : bt s j < 48
              · have HE : Hid (r = false) := Lib.hid (by rw [HF.out, H.out, digitsEnd, upTo_stop (by simp [digitAt, digitB]; omega)]; simp; omega)
                go_wp2
                go_ret
                exact ⟨ret_bool HE.out.symm, rfl⟩
              · by_cases hd2 : 57 < bt s j
                · have HE : Hid (r = false) := Lib.hid (by rw [HF.out, H.out, digitsEnd, upTo_stop (by simp [digitAt, digitB]; omega)]; simp; omega)
                  go_wp2
                  go_ret
                  exact ⟨ret_bool HE.out.symm, rfl⟩
                · have HE := Lib.hid (H.out.trans (upTo_step (by omega) (by simp [digitAt, digitB]; omega) hlt))
                  go_wp2
                  go_round
                  case rel => exact ⟨j + 1, by omega, by omega, rfl, HE⟩
                  case measure => simp [intOf]; omega
            · obtain rfl : j = s.size := by omega
              have HE : Hid (r = true) := Lib.hid (by rw [HF.out, H.out, digitsEnd, upTo_stop (by simp [digitAt])]; simp)
              go_wp2
              go_ret
              exact ⟨ret_bool HE.out.symm, rfl⟩
    · have h45b : isAt s 0 45 = false := by simp [isAt, h45]
      go_enter Tryd.func49, Tryd.ntmps49
      by_cases h48 : bt s 0 = 48
      · by_cases hsz : s.size = 1
        · have HF : Hid (r = decide (digitsEnd s 0 = s.size)) := Lib.hid (by rw [HR.out, form_pos h45b]; simp [hsz])
          clear HR
          go_wp2
          go_loop [4] (fun t => ∃ j : Int, 0 ≤ j ∧ j ≤ s.size ∧ t = .int .i64 j ∧ Hid (digitsEnd s 0 = digitsEnd s j)) (fun t => s.size - (intOf t).toNat)
          case atStart => exact ⟨0, by omega, by omega, rfl, Lib.hid rfl⟩
          case round =>
            obtain ⟨j, hj, hjs, rfl, H⟩ := hrel
            by_cases hlt : j < s.size
            · have hjn : j.toNat < s.size := by omega
              have hb := bt_at s j
              by_cases hd1 : bt s j < 48
              · have HE : Hid (r = false) := Lib.hid (by rw [HF.out, H.out, digitsEnd, upTo_stop (by simp [digitAt, digitB]; omega)]; simp; omega)
                go_wp2
                go_ret
                exact ⟨ret_bool HE.out.symm, rfl⟩
              · by_cases hd2 : 57 < bt s j
                · have HE : Hid (r = false) := Lib.hid (by rw [HF.out, H.out, digitsEnd, upTo_stop (by simp [digitAt, digitB]; omega)]; simp; omega)
                  go_wp2
                  go_ret
                  exact ⟨ret_bool HE.out.symm, rfl⟩
                · have HE := Lib.hid (H.out.trans (upTo_step (by omega) (by simp [digitAt, digitB]; omega) hlt))
                  go_wp2
                  go_round
                  case rel => exact ⟨j + 1, by omega, by omega, rfl, HE⟩
                  case measure => simp [intOf]; omega
            · obtain rfl : j = s.size := by omega
              have HE : Hid (r = true) := Lib.hid (by rw [HF.out, H.out, digitsEnd, upTo_stop (by simp [digitAt])]; simp)
              go_wp2
              go_ret
              exact ⟨ret_bool HE.out.symm, rfl⟩
        · have hsz2 : (1 : Int) < s.size := by omega
          have HF : Hid (r = false) := Lib.hid (by rw [HR.out, form_pos h45b]; have : isAt s 0 48 = true := (by simp [isAt, h48]; omega); simp [this, hs0] <;> omega)
          clear HR
          go_wp2
          go_ret
          exact ⟨ret_bool HF.out.symm, rfl⟩
      · have HF : Hid (r = decide (digitsEnd s 0 = s.size)) := Lib.hid (by rw [HR.out, form_pos h45b]; have : isAt s 0 48 = false := (by simp [isAt, h48]); simp [this, hs0] <;> omega)
        clear HR
        go_wp2
        go_loop [4] (fun t => ∃ j : Int, 0 ≤ j ∧ j ≤ s.size ∧ t = .int .i64 j ∧ Hid (digitsEnd s 0 = digitsEnd s j)) (fun t => s.size - (intOf t).toNat)
        case atStart => exact ⟨0, by omega, by omega, rfl, Lib.hid rfl⟩
        case round =>
          obtain ⟨j, hj, hjs, rfl, H⟩ := hrel
          by_cases hlt : j < s.size
          · have hjn : j.toNat < s.size := by omega
            have hb := bt_at s j
            by_cases hd1 : bt s j < 48
            · have HE : Hid (r = false) := Lib.hid (by rw [HF.out, H.out, digitsEnd, upTo_stop (by simp [digitAt, digitB]; omega)]; simp; omega)
              go_wp2
              go_ret
              exact ⟨ret_bool HE.out.symm, rfl⟩
            · by_cases hd2 : 57 < bt s j
              · have HE : Hid (r = false) := Lib.hid (by rw [HF.out, H.out, digitsEnd, upTo_stop (by simp [digitAt, digitB]; omega)]; simp; omega)
                go_wp2
                go_ret
                exact ⟨ret_bool HE.out.symm, rfl⟩
              · have HE := Lib.hid (H.out.trans (upTo_step (by omega) (by simp [digitAt, digitB]; omega) hlt))
                go_wp2
                go_round
                case rel => exact ⟨j + 1, by omega, by omega, rfl, HE⟩
                case measure => simp [intOf]; omega
          · obtain rfl : j = s.size := by omega
            have HE : Hid (r = true) := Lib.hid (by rw [HF.out, H.out, digitsEnd, upTo_stop (by simp [digitAt])]; simp)
            go_wp2
            go_ret
            exact ⟨ret_bool HE.out.symm, rfl⟩
end Go.Proofs.YtlnmjpacagimnaaDoor
