/- Put together: The lexer's number; The lexer's mark and word; The lexer's Next. -/
import Derived.Deep.CutRange
import Derived.Test.YtdlkdecigpaaaaaGreatDoorMp22
import Derived.Test.YtdlkdecigpaaaaaGreatDoorMp18
namespace Go.Proofs.YtdlkdecigpaaaaaGreatDoor
set_option linter.unusedVariables false
set_option linter.unusedSimpArgs false
open Go.RowKit

/-- What a reader of a token leaves: the error, the place, the token. -/
def Read (s : ByteArray) (g h : Nat) (r : Tk × Int × Int) (w : World) (e' : Ending) (w' : World) : Prop :=
  e' = .returned (.int .i64 r.2.2) ∧ Lex s (if r.2.2 = 0 then r.1.stop else r.2.1) g w' ∧ (r.2.2 = 0 → TkAt h (Tk.mk r.1.kind r.1.text r.1.val r.1.head 0).cells w') ∧ Keeps [g, h] w w'
/-- The lexer, inside a number. -/
structure NumAt (s : ByteArray) (p : Int) (g h : Nat) (w : World) (j : Int) (W : World) : Prop where
  lex : Lex s j g W
  tok : TkAt h (Tk.mk 3 ByteArray.empty 0 p 0).cells W
  keep : Keeps [g, h] w W
section
variable {s : ByteArray} {p : Int} {g h : Nat} {w : World} {j j' : Int} {W W1 : World}
theorem NumAt.step (H : NumAt s p g h w j W) (hl : Lex s j' g W1) (k : Keeps [g] W W1) (hgh : g ≠ h) : NumAt s p g h w j' W1 :=
  ⟨hl, tk_keeps H.tok k (by simpa using Ne.symm hgh), keepsg H.keep k (by simp)⟩
theorem NumAt.one (H : NumAt s p g h w j W) (hgh : g ≠ h) (h0 : 0 ≤ j) (hs : s.size ≤ 1000000) {t : ByteArray} {b : Bool} (hb : hasB s j t = b) :
    Calls Tryz.prog 201 #[.pointer (some ⟨g, 0, none⟩), .string t] W fun e w' => e = .returned (.bool b) ∧ NumAt s p g h w (if b then j + 1 else j) w' :=
  (one_k H.lex h0 hs hb).mono fun _ _ ⟨a, b, c⟩ => ⟨a, H.step b c hgh⟩
theorem NumAt.oneT (H : NumAt s p g h w j W) (hgh : g ≠ h) (h0 : 0 ≤ j) (hs : s.size ≤ 1000000) {t : ByteArray} (hb : hasB s j t = true) :
    Calls Tryz.prog 201 #[.pointer (some ⟨g, 0, none⟩), .string t] W fun e w' => e = .returned (.bool true) ∧ NumAt s p g h w (j + 1) w' := H.one hgh h0 hs hb
theorem NumAt.oneF (H : NumAt s p g h w j W) (hgh : g ≠ h) (h0 : 0 ≤ j) (hs : s.size ≤ 1000000) {t : ByteArray} (hb : hasB s j t = false) :
    Calls Tryz.prog 201 #[.pointer (some ⟨g, 0, none⟩), .string t] W fun e w' => e = .returned (.bool false) ∧ NumAt s p g h w j w' := H.one hgh h0 hs hb
theorem NumAt.pass (H : NumAt s p g h w j W) (hgh : g ≠ h) (h0 : 0 ≤ j) (h1 : j ≤ s.size) (hs : s.size ≤ 1000000) :
    Calls Tryz.prog 192 #[.pointer (some ⟨g, 0, none⟩), .string digitsS] W fun e w' => e = .returned (.int .i64 (digitsEnd s j - j)) ∧ NumAt s p g h w (digitsEnd s j) w' := by
  have := pass_any s j g digitsS W H.lex h0 h1 (by omega)
  rw [pass_dig] at this
  exact this.mono fun _ _ ⟨a, b, c⟩ => ⟨a, H.step b c hgh⟩
end
theorem fits_yes {s : ByteArray} (h : fitsF s = true) : parseCode s = 0 ∧ parseVal s = numZ s := by
  have h2 := h
  simp only [fitsF, Bool.and_eq_true] at h2
  simp [parseCode, parseVal, h, h2.1, h2.2]
theorem fits_no {s : ByteArray} (h : fitsF s = false) : parseCode s ≠ 0 := by
  unfold parseCode
  unfold fitsF at h
  cases h1 : formB s <;> cases h2 : fitsB (numZ s) <;> simp_all
theorem digitsEnd_yes {s : ByteArray} {a : Int} (h0 : 0 ≤ a) (hd : digitAt s a = true) : a + 1 ≤ digitsEnd s a ∧ digitsEnd s a ≤ s.size := by
  have hl := digitAt_lt hd
  have e : digitsEnd s a = digitsEnd s (a + 1) := upTo_step (p := digitAt s) h0 hd hl
  rw [e]
  exact ⟨digitsEnd_ge, digitsEnd_le (by omega) (by omega)⟩
theorem digitsEnd_no {s : ByteArray} {a : Int} (hd : digitAt s a = false) : digitsEnd s a = a := upTo_stop hd
set_option maxRecDepth 20000 in
set_option maxHeartbeats 8000000 in
theorem lnum_any (s : ByteArray) (p : Int) (g h : Nat) (w : World) (hl : Lex s p g w) (ht : TkAt h (Tk.mk 0 ByteArray.empty 0 p 0).cells w) (hgh : g ≠ h) (hv : VarOk w) (hg2 : 5 < g) (hh2 : 5 < h) (h0 : 0 ≤ p) (h1 : p < s.size) (hs : s.size ≤ 1000000) :
    Calls Tryz.prog 197 #[.pointer (some ⟨g, 0, none⟩), .pointer (some ⟨h, 0, none⟩)] w (Read s g h (numF s p) w) := by
  have HL := Lib.hid hl
  have HT := Lib.hid ht
  have tc := cell_blk ht
  have tf := frozen_blk ht
  have HV := Lib.hid hv
  unfold Tk.cells at tc
  have H0 : Hid (NumAt s p g h w p (w.setCell ⟨h, 0, none⟩ (.int .i64 3))) := Lib.hid ⟨hk_set hl (p := ⟨h, 0, none⟩) hgh _, set_to ht 0 _ rfl, (Keeps.refl _ _).set (.inl (by simp)) _⟩
  have HO1 := Lib.hid (H0.out.one hgh h0 hs (has_byte s p 45))
  have HR : Hid (numberF s p = if digitAt s (signEnd s p) then numberD s (wholeEnd s (signEnd s p)) else (signEnd s p, false, false)) := Lib.hid rfl
  have HSE : Hid (∀ W, NumAt s p g h w (if isAt s p ((45 : UInt8).toNat : Int) then p + 1 else p) W → NumAt s p g h w (signEnd s p) W) := Lib.hid (fun W h => h)
  clear hl ht hv
  have hpa : p ≤ signEnd s p ∧ signEnd s p ≤ s.size := by unfold signEnd; split <;> omega
  obtain ⟨hpa, ha1⟩ := hpa
  have ha0 : 0 ≤ signEnd s p := by omega
  go_enter Tryz.func197, Tryz.ntmps197
  go_upto_region 3 with (go_at_call 201; refine HO1.out.mono ?_; rintro e' w1 ⟨rfl, hx1⟩; have HX1 := Lib.hid (HSE.out _ hx1); clear hx1)
  generalize signEnd s p = a at *
  go_cut [20] (fun c wa => c = .bool (!digitAt s a) ∧ Hid (NumAt s p g h w (if digitAt s a then wholeEnd s a else a) wa))
  case first =>
    have HB := Lib.hid (has_byte s a 48)
    cases c1 : isAt s a 48 with
    | true =>
      have HO := Lib.hid (HX1.out.oneT hgh ha0 hs (HB.out.trans c1))
      have HD : Hid (digitAt s a = true ∧ wholeEnd s a = a + 1) := Lib.hid (by
        simp only [isAt, Bool.and_eq_true, decide_eq_true_eq, beq_iff_eq] at c1
        exact ⟨by simp [digitAt, digitB, c1.1, c1.2], by unfold wholeEnd; rw [if_pos c1.2]⟩)
      clear c1
      go_wp2_with (go_at_call 201; refine HO.out.mono ?_; rintro e' w2 ⟨rfl, hx2⟩; have HX2 := Lib.hid hx2; clear hx2)
      go_meet
      case rel => exact ⟨by rw [HD.out.1]; rfl, Lib.hid (by rw [HD.out.1, if_pos rfl, HD.out.2]; exact HX2.out)⟩
    | false =>
      have HO := Lib.hid (HX1.out.oneF hgh ha0 hs (HB.out.trans c1))
      have HN : Hid (a < s.size → ¬ bt s a = 48) := Lib.hid (fun h1 h2 => by simp [isAt, h1, h2] at c1)
      clear c1
      cases c2 : digitAt s a with
      | true =>
        have hy := digitsEnd_yes ha0 c2
        have hq : (digitsEnd s a - a == 0) = false := by simp; omega
        have HE : Hid (wholeEnd s a = digitsEnd s a) := Lib.hid (by unfold wholeEnd; rw [if_neg (HN.out (digitAt_lt c2))])
        clear hy
        go_wp2_with (first | (go_at_call 201; refine HO.out.mono ?_; rintro e' w2 ⟨rfl, hx2⟩; have HX2 := Lib.hid hx2; clear hx2) | (go_at_call 192; refine (HX2.out.pass hgh ha0 ha1 hs).mono ?_; rintro e' w3 ⟨rfl, hx3⟩; have HX3 := Lib.hid hx3; clear hx3))
        go_meet
        case rel => exact ⟨by rw [c2]; rfl, Lib.hid (by rw [c2, if_pos rfl, HE.out]; exact HX3.out)⟩
      | false =>
        have HE := Lib.hid (digitsEnd_no c2)
        have hq : (digitsEnd s a - a == 0) = true := by rw [HE.out]; simp
        go_wp2_with (first | (go_at_call 201; refine HO.out.mono ?_; rintro e' w2 ⟨rfl, hx2⟩; have HX2 := Lib.hid hx2; clear hx2) | (go_at_call 192; refine (HX2.out.pass hgh ha0 ha1 hs).mono ?_; rintro e' w3 ⟨rfl, hx3⟩; have HX3 := Lib.hid hx3; clear hx3))
        go_meet
        case rel => exact ⟨by rw [c2]; rfl, Lib.hid (by have := HX3.out; rw [HE.out] at this; rw [c2]; exact this)⟩
  case rest =>
    obtain ⟨rfl, HXa⟩ := hcut

    clear HO1 HX1 H0 HSE HL HT tc tf
    cases hd : digitAt s a with
    | false =>
      have HZ : Hid (numF s p = (Tk.zero, a, 1)) := Lib.hid (by unfold numF; rw [HR.out, hd]; rfl)
      have HA : Hid (NumAt s p g h w a wc) := Lib.hid (by have := HXa.out; rw [hd] at this; exact this)
      clear HR HXa hd
      go_wp2
      go_ret
      rw [HZ.out]
      exact ⟨rfl, HA.out.lex, fun h => by simp at h, HA.out.keep⟩
    | true =>
      have HRb : Hid (numberF s p = numberD s (wholeEnd s a)) := Lib.hid (by rw [HR.out, hd]; rfl)
      have HA : Hid (NumAt s p g h w (wholeEnd s a) wc) := Lib.hid (by have := HXa.out; rw [hd] at this; exact this)
      have hb : a + 1 ≤ wholeEnd s a ∧ wholeEnd s a ≤ s.size := by
        have h1 := digitsEnd_yes ha0 hd
        have h2 := digitAt_lt hd
        unfold wholeEnd; split <;> omega
      obtain ⟨hb0, hb1⟩ := hb
      clear HR HXa hd
      generalize wholeEnd s a = b at *
      have hc := cell_blk HA.out.lex
      have hb00 : 0 ≤ b := by omega
      go_upto_region 6 with (fail)
      clear hc
      go_cut [31] (fun c wb => ∃ bad : Bool, c = .bool bad ∧ Hid (bad = (isAt s b 46 && !digitAt s (b + 1)) ∧ NumAt s p g h w (if isAt s b 46 then digitsEnd s (b + 1) else b) wb))
      case first =>
        have HB := Lib.hid (has_byte s b 46)
        cases c1 : isAt s b 46 with
        | false =>
          have HO := Lib.hid (HA.out.oneF hgh hb00 hs (HB.out.trans c1))
          go_wp2_with (go_at_call 201; refine (HO.out).mono ?_; rintro e' w2 ⟨rfl, hx2⟩; have HX2 := Lib.hid hx2; clear hx2)
          go_meet
          case rel => exact ⟨false, rfl, Lib.hid (by rw [c1]; exact ⟨rfl, HX2.out⟩)⟩
        | true =>
          have HO := Lib.hid (HA.out.oneT hgh hb00 hs (HB.out.trans c1))
          have hbl := isAt_lt c1
          cases c2 : digitAt s (b + 1) with
          | true =>
            have hy := digitsEnd_yes (s := s) (a := b + 1) (by omega) c2
            have hq : (digitsEnd s (b + 1) - (b + 1) == 0) = false := by simp; omega
            clear hy
            go_wp2_with (first | (go_at_call 201; refine (HO.out).mono ?_; rintro e' w2 ⟨rfl, hx2⟩; have HX2 := Lib.hid hx2; clear hx2) | (go_at_call 192; refine (HX2.out.pass hgh (by omega) (by omega) hs).mono ?_; rintro e' w3 ⟨rfl, hx3⟩; have HX3 := Lib.hid hx3; clear hx3))
            go_meet
            case rel => exact ⟨false, rfl, Lib.hid (by rw [c1, c2, if_pos rfl]; exact ⟨rfl, HX3.out⟩)⟩
          | false =>
            have HE := Lib.hid (digitsEnd_no c2)
            have hq : (digitsEnd s (b + 1) - (b + 1) == 0) = true := by rw [HE.out]; simp
            go_wp2_with (first | (go_at_call 201; refine (HO.out).mono ?_; rintro e' w2 ⟨rfl, hx2⟩; have HX2 := Lib.hid hx2; clear hx2) | (go_at_call 192; refine (HX2.out.pass hgh (by omega) (by omega) hs).mono ?_; rintro e' w3 ⟨rfl, hx3⟩; have HX3 := Lib.hid hx3; clear hx3))
            go_meet
            case rel => exact ⟨true, rfl, Lib.hid (by rw [c1, c2, if_pos rfl]; exact ⟨rfl, HX3.out⟩)⟩
      case rest =>
        obtain ⟨bad, rfl, HXb⟩ := hcut
        cases bad with
        | true =>
          have hb2 := HXb.out.1.symm
          simp only [Bool.and_eq_true, Bool.not_eq_true'] at hb2
          have HZ : Hid (numF s p = (Tk.zero, b + 1, 1)) := Lib.hid (by unfold numF numberD at *; rw [HRb.out, hb2.1, hb2.2]; rfl)
          have HC : Hid (NumAt s p g h w (b + 1) wc) := Lib.hid (by have := HXb.out.2; rw [hb2.1, if_pos rfl, digitsEnd_no hb2.2] at this; exact this)
          clear hb2 HRb HXb HA
          go_wp2
          go_ret
          rw [HZ.out]
          exact ⟨rfl, HC.out.lex, fun h => by simp at h, HC.out.keep⟩
        | false =>
          obtain ⟨c, pl, hcx⟩ : ∃ (c : Int) (pl : Bool), b ≤ c ∧ c ≤ s.size ∧ ((pl = true ∧ c = b) ∨ (pl = false ∧ b < c)) ∧ Hid (numberF s p = numberE s c pl) ∧ NumAt s p g h w c wc := by
            have hb2 := HXb.out.1.symm
            have hx := HXb.out.2
            have hr := HRb.out
            unfold numberD at hr
            cases c1 : isAt s b 46 with
            | false => rw [c1] at hx hr; exact ⟨b, true, by omega, hb1, .inl ⟨rfl, rfl⟩, Lib.hid hr, hx⟩
            | true =>
              rw [c1] at hx hr hb2
              have c2 : digitAt s (b + 1) = true := by simpa using hb2
              rw [c2] at hr
              have := digitsEnd_yes (by omega) c2
              exact ⟨digitsEnd s (b + 1), false, by omega, this.2, .inr ⟨rfl, by omega⟩, Lib.hid hr, hx⟩
          obtain ⟨hc0, hc1, hpl, HRc, hxc⟩ := hcx
          have HXc := Lib.hid hxc
          have HPL := Lib.hid hpl
          clear HRb HXb HA hxc hpl
          have hc00 : 0 ≤ c := by omega
          have HEX := Lib.hid (has_exp s c)
          have HNE : Hid (numberE s c pl = if (isAt s c 101 || isAt s c 69) = true then (if digitAt s (expSign s (c + 1)) then (digitsEnd s (expSign s (c + 1)), false, true) else (expSign s (c + 1), false, false)) else (c, pl, true)) := Lib.hid rfl
          have HLT : Hid ((isAt s c 101 || isAt s c 69) = true → c < s.size) := Lib.hid (fun h => by
            rw [Bool.or_eq_true] at h
            rcases h with h | h <;> exact isAt_lt h)
          generalize (isAt s c 101 || isAt s c 69) = ex at *
          have HO := Lib.hid (HXc.out.one hgh hc00 hs HEX.out)
          go_upto_if 33 with (go_at_call 201; refine (HO.out).mono ?_; rintro e' w4 ⟨rfl, hx4⟩; have HX4 := Lib.hid hx4; clear hx4)
          go_cut [] (fun wd => ∃ (x : Int) (pl' : Bool), b ≤ x ∧ x ≤ s.size ∧ Hid ((pl' = true ∧ x = b) ∨ (pl' = false ∧ b < x)) ∧ Hid (numberF s p = (x, pl', true)) ∧ Hid (NumAt s p g h w x wd))
          case first =>
            cases ex with
            | false =>
              have HX5 : Hid (NumAt s p g h w c w4) := HX4
              have HZ : Hid (numberF s p = (c, pl, true)) := Lib.hid (HRc.out.trans HNE.out)
              go_wp2
              go_meet
              case rel => exact ⟨c, pl, hc0, hc1, HPL, HZ, HX5⟩
            | true =>
              have HX5 : Hid (NumAt s p g h w (c + 1) w4) := HX4
              have hcl := HLT.out rfl
              have HO2 := Lib.hid (HX5.out.one hgh (by omega) hs (has_sign s (c + 1)))
              have HSE : Hid (∀ W, NumAt s p g h w (if (isAt s (c + 1) 43 || isAt s (c + 1) 45) = true then c + 1 + 1 else c + 1) W → NumAt s p g h w (expSign s (c + 1)) W) := Lib.hid (fun W h => h)
              have hdd : c + 1 ≤ expSign s (c + 1) ∧ expSign s (c + 1) ≤ s.size := by
                unfold expSign; split
                · rename_i h; rw [Bool.or_eq_true] at h
                  have : c + 1 < s.size := by rcases h with h | h <;> exact isAt_lt h
                  omega
                · omega
              obtain ⟨hd0, hd1⟩ := hdd
              have HZ1 := Lib.hid (HRc.out.trans HNE.out)
              generalize (isAt s (c + 1) 43 || isAt s (c + 1) 45) = sg at *
              generalize expSign s (c + 1) = d at *
              clear HO HX4 HNE HRc HEX HLT
              have HPS := Lib.hid (fun W (H : NumAt s p g h w d W) => H.pass hgh (by omega) hd1 hs)
              cases c2 : digitAt s d with
              | true =>
                have hy := digitsEnd_yes (s := s) (a := d) (by omega) c2
                have hq : (digitsEnd s d - d == 0) = false := by simp; omega
                have HZ : Hid (numberF s p = (digitsEnd s d, false, true)) := Lib.hid (by rw [HZ1.out, c2]; rfl)
                have HY : Hid (b ≤ digitsEnd s d ∧ digitsEnd s d ≤ s.size ∧ b < digitsEnd s d) := Lib.hid (by omega)
                clear hy c2 HZ1
                go_wp2_with (first | (go_at_call 201; refine (HO2.out).mono ?_; rintro e' w6 ⟨rfl, hx6⟩; have HX6 := Lib.hid hx6; clear hx6; have HX6 := Lib.hid (HSE.out _ HX6.out)) | (go_at_call 192; refine (HPS.out _ HX6.out).mono ?_; rintro e' w7 ⟨rfl, hx7⟩; have HX7 := Lib.hid hx7; clear hx7))
                go_meet
                case rel => exact ⟨digitsEnd s d, false, HY.out.1, HY.out.2.1, Lib.hid (.inr ⟨rfl, HY.out.2.2⟩), HZ, HX7⟩
              | false =>
                have HE := Lib.hid (digitsEnd_no c2)
                have hq : (digitsEnd s d - d == 0) = true := by rw [HE.out]; simp
                have HZ : Hid (numF s p = (Tk.zero, d, 1)) := Lib.hid (by unfold numF; rw [HZ1.out, c2]; rfl)
                clear c2 HZ1
                go_wp2_with (first | (go_at_call 201; refine (HO2.out).mono ?_; rintro e' w6 ⟨rfl, hx6⟩; have HX6 := Lib.hid hx6; clear hx6; have HX6 := Lib.hid (HSE.out _ HX6.out)) | (go_at_call 192; refine (HPS.out _ HX6.out).mono ?_; rintro e' w7 ⟨rfl, hx7⟩; have HX7 := Lib.hid hx7; clear hx7))
                go_ret
                rw [HZ.out]
                rw [HE.out] at HX7
                exact ⟨rfl, HX7.out.lex, fun h => by simp at h, HX7.out.keep⟩
          case rest =>
            obtain ⟨x, pl', hx0, hx1, HPX, HRx, HXx⟩ := hcut
            have HVx := Lib.hid (HV.out.keeps HXx.out.keep (by simp; omega))
            have c0 : wc.cell? ⟨g, 0, none⟩ = some (.string s) := cell_blk HXx.out.lex 0
            have c3 : wc.cell? ⟨h, 3, none⟩ = some (.int .i64 p) := cell_blk HXx.out.tok 3
            have HPR := Lib.hid (fun W hv => wparse_any (cutS s p b) W (by rw [ByteArray.size_extract]; omega) hv)
            have hpb : p ≤ b := by omega
            clear HO HX4 HNE HRc HEX HLT HXc HPL
            go_upto_region 12 with (fail)
            go_region_held3 (fun W' => W'.cell? ⟨g, 0, none⟩ = some (.string s) ∧ W'.cell? ⟨h, 3, none⟩ = some (.int .i64 p)) (go_keep) (first | (go_at_call 187; refine (HPR.out _ (by exact HVx.out)).mono ?_; rintro e' w8 ⟨rfl, hb8⟩; have hb8' : Below wc.heap.size wc w8 := ⟨hb8.os, hb8.tape, hb8.output, hb8.size, hb8.block⟩; have HX8 : Hid (NumAt s p g h w x w8) := Lib.hid ⟨hk_below HXx.out.lex hb8', hk_below HXx.out.tok hb8', keeps0 HXx.out.keep (Keeps.below hb8')⟩; have K0 : w8.cell? ⟨g, 0, none⟩ = some (.string s) := cell_blk HX8.out.lex 0; have K1 : w8.cell? ⟨h, 3, none⟩ = some (.int .i64 p) := cell_blk HX8.out.tok 3; clear hb8 hb8'))
            have gc := cell_blk HX8.out.lex
            have gf := frozen_blk HX8.out.lex
            have tc := cell_blk HX8.out.tok
            have tf := frozen_blk HX8.out.tok
            unfold Tk.cells at tc
            have HNF : Hid (numF s p = if pl' = false then (Tk.zero, p, 4) else if fitsF (cutS s p x) = true then (⟨3, ByteArray.empty, numZ (cutS s p x), p, x⟩, 0, 0) else (Tk.zero, p, 4)) := Lib.hid (by unfold numF; rw [HRx.out]; rfl)
            have HFY := Lib.hid (fun h => fits_yes (s := cutS s p b) h)
            have HFN := Lib.hid (fun h => fits_no (s := cutS s p b) h)
            clear K0 K1 c0 c3 HPR HVx HRx
            generalize parseCode (cutS s p b) = code at *
            generalize parseVal (cutS s p b) = val at *
            cases hf : fitsF (cutS s p b) with
            | true =>
              obtain ⟨q0, q1⟩ := HFY.out hf
              subst q0
              have HQ1 := Lib.hid q1
              rcases HPX.out with ⟨hp1, hp2⟩ | ⟨hp1, hp2⟩
              · subst hp2
                have HZ : Hid (numF s p = (⟨3, ByteArray.empty, val, p, x⟩, 0, 0)) := Lib.hid (by rw [HNF.out, hp1, if_neg (by simp), if_pos hf, HQ1.out])
                clear HNF HPX hf hp1 HFY HFN q1
                go_wp2
                go_ret
                rw [HZ.out]
                exact ⟨rfl, hk_set HX8.out.lex (p := ⟨h, 2, none⟩) hgh _, fun _ => set_to HX8.out.tok 2 _ rfl, HX8.out.keep.set (.inl (by simp)) _⟩
              · have hbx : (b != x) = true := by simp; omega
                have HZ : Hid (numF s p = (Tk.zero, p, 4)) := Lib.hid (by rw [HNF.out, hp1, if_pos rfl])
                clear HNF HPX hf hp1 HFY HFN q1
                go_wp2
                go_ret
                rw [HZ.out]
                exact ⟨rfl, lex_set HX8.out.lex, fun h => by simp at h, HX8.out.keep.set (.inl (by simp)) _⟩
            | false =>
              have q0 := HFN.out hf
              have hq0 : (code != 0) = true := by simp [q0]
              have HZ : Hid (numF s p = (Tk.zero, p, 4)) := Lib.hid (by
                rw [HNF.out]
                rcases HPX.out with ⟨hp1, hp2⟩ | ⟨hp1, hp2⟩
                · subst hp2; rw [hp1, if_neg (by simp), if_neg (by rw [hf]; simp)]
                · rw [hp1, if_pos rfl])
              clear HNF HPX hf HFY HFN q0
              go_wp2
              go_ret
              rw [HZ.out]
              exact ⟨rfl, lex_set HX8.out.lex, fun h => by simp at h, HX8.out.keep.set (.inl (by simp)) _⟩
end Go.Proofs.YtdlkdecigpaaaaaGreatDoor
namespace Go.Proofs.YtdlkdecigpaaaaaGreatDoor
set_option linter.unusedVariables false
set_option linter.unusedSimpArgs false
open Go.RowKit

theorem byte_cut {s : ByteArray} {k : Nat} (h : k < s.size) : s.extract k (k + 1) = ⟨#[s[k]'h]⟩ := by
  apply bytes_ext
  rw [toList_data, toList_data, Lib.extract_data]
  have hl : k < s.data.toList.length := by rw [Array.length_toList]; exact h
  rw [show k + 1 - k = 1 from by omega, List.drop_eq_getElem_cons hl]
  simp [ByteArray.getElem_eq_getElem_data]
theorem byte_cutS {s : ByteArray} {p : Int} (h0 : 0 ≤ p) (h : p < s.size) : s.extract p.toNat (p + 1).toNat = byteS (bt s p) := by
  have hp : p.toNat < s.size := by omega
  rw [show (p + 1).toNat = p.toNat + 1 from by omega, byte_cut hp]
  unfold byteS
  have := bt_at s p hp
  rw [show (bt s p).toNat.toUInt8 = s[p.toNat]'hp from by rw [← this]; simp]
theorem has_cut {s wd : ByteArray} {j : Int} {k : Nat} (h : k < wd.size) : hasB s j (wd.extract k (k + 1)) = isAt s j (bt wd k) := by
  rw [byte_cut h, has_byte, bt_nat wd k h]
set_option maxRecDepth 20000 in
set_option maxHeartbeats 4000000 in
theorem lmark_any (s : ByteArray) (p : Int) (g h : Nat) (w : World) (hl : Lex s p g w) (ht : TkAt h (Tk.mk 0 ByteArray.empty 0 p 0).cells w) (hgh : g ≠ h) (h0 : 0 ≤ p) (h1 : p < s.size) (hs : s.size ≤ 1000000) :
    Calls Tryz.prog 195 #[.pointer (some ⟨g, 0, none⟩), .pointer (some ⟨h, 0, none⟩)] w (Read s g h (markF s p) w) := by
  have HL := Lib.hid hl
  have HT := Lib.hid ht
  have gc := cell_blk hl
  have gf := frozen_blk hl
  have tc := cell_blk ht
  have tf := frozen_blk ht
  unfold Tk.cells at tc
  have HC := Lib.hid (byte_cutS h0 h1)
  have hgh' : h ≠ g := Ne.symm hgh
  have hp1 : 0 ≤ p + 1 := by omega
  have hp2 : p + 1 ≤ s.size := by omega
  have hp3 : p ≤ p + 1 := by omega
  have hw : IntKind.i64.wrap (p + 1) = p + 1 := by
    rw [IntKind.wrap_i64]; omega
  clear hl ht
  go_enter Tryz.func195, Tryz.ntmps195
  go_upto_region 1 with (fail)
  go_region_held3 (fun W' => W'.cell? ⟨g, 0, none⟩ = some (.string s) ∧ W'.cell? ⟨g, 1, none⟩ = some (.int .i64 p)) (go_keep) (fail)
  all_goals
    go_wp2
    go_ret
    unfold Read markF
    try rw [HC.out]
    refine ⟨rfl, ?_, fun _ => ?_, ?_⟩
    · exact lex_set (hk_set (p := ⟨h, _, none⟩) (hk_set (p := ⟨h, _, none⟩) HL.out hgh _) hgh _)
    · first
      | exact hk_set (p := ⟨g, 1, none⟩) (set_to (set_to HT.out 0 _ rfl) 1 _ rfl) hgh' _
      | exact hk_set (p := ⟨g, 1, none⟩) (set_to (set_to HT.out 1 _ rfl) 0 _ rfl) hgh' _
    · repeat (first | exact Keeps.refl _ _ | refine Keeps.drew ?_ | refine Keeps.set ?_ (.inl (by simp)) _)
/-- The lexer, inside a word. -/
structure WordAt (s : ByteArray) (p : Int) (g h : Nat) (w : World) (j : Int) (W : World) : Prop where
  lex : Lex s j g W
  tok : TkAt h (Tk.mk 0 ByteArray.empty 0 p 0).cells W
  keep : Keeps [g, h] w W
  wrd : W.heap[w.heap.size]? = some (.cells #[.string ⟨#[116, 114, 117, 101]⟩, .string ⟨#[102, 97, 108, 115, 101]⟩, .string ⟨#[110, 117, 108, 108]⟩] 9 (0, 0))
theorem WordAt.step {s : ByteArray} {p : Int} {g h : Nat} {w : World} {j j' : Int} {W W1 : World} (H : WordAt s p g h w j W) (hl : Lex s j' g W1) (k : Keeps [g] W W1) (hgh : g ≠ h) (hg : g < w.heap.size) : WordAt s p g h w j' W1 :=
  ⟨hl, tk_keeps H.tok k (by simpa using Ne.symm hgh), keepsg H.keep k (by simp), k.heap H.wrd (by simp; omega)⟩
theorem WordAt.has {s : ByteArray} {p : Int} {g h : Nat} {w : World} {j : Int} {W : World} (H : WordAt s p g h w j W) (hgh : g ≠ h) (hg : g < w.heap.size) (h0 : 0 ≤ j) {t : ByteArray} {b : Bool} (hb : hasB s j t = b) :
    Calls Tryz.prog 194 #[.pointer (some ⟨g, 0, none⟩), .string t] W fun e w' => e = .returned (.bool b) ∧ WordAt s p g h w j w' :=
  (has_k H.lex h0 hb).mono fun _ _ ⟨a, b, c⟩ => ⟨a, H.step b (c.mono (by simp)) hgh hg⟩
theorem lit_true_tab : ∀ n : Nat, n < 4 → trueL.drop n = bt ⟨#[116, 114, 117, 101]⟩ n :: trueL.drop (n + 1) := by decide +kernel
theorem lit_true (s : ByteArray) (j : Int) (n : Nat) (h : n < 4) : litF s j (trueL.drop n) = if isAt s j (bt ⟨#[116, 114, 117, 101]⟩ n) then litF s (j + 1) (trueL.drop (n + 1)) else j := by rw [lit_true_tab n h]; rfl
theorem lit_false_tab : ∀ n : Nat, n < 5 → falseL.drop n = bt ⟨#[102, 97, 108, 115, 101]⟩ n :: falseL.drop (n + 1) := by decide +kernel
theorem lit_false (s : ByteArray) (j : Int) (n : Nat) (h : n < 5) : litF s j (falseL.drop n) = if isAt s j (bt ⟨#[102, 97, 108, 115, 101]⟩ n) then litF s (j + 1) (falseL.drop (n + 1)) else j := by rw [lit_false_tab n h]; rfl
theorem lit_null_tab : ∀ n : Nat, n < 4 → nullL.drop n = bt ⟨#[110, 117, 108, 108]⟩ n :: nullL.drop (n + 1) := by decide +kernel
theorem lit_null (s : ByteArray) (j : Int) (n : Nat) (h : n < 4) : litF s j (nullL.drop n) = if isAt s j (bt ⟨#[110, 117, 108, 108]⟩ n) then litF s (j + 1) (nullL.drop (n + 1)) else j := by rw [lit_null_tab n h]; rfl
set_option maxRecDepth 20000 in
set_option maxHeartbeats 4000000 in
theorem lword_any (s : ByteArray) (p : Int) (g h : Nat) (w : World) (hl : Lex s p g w) (ht : TkAt h (Tk.mk 0 ByteArray.empty 0 p 0).cells w) (hgh : g ≠ h) (h0 : 0 ≤ p) (h1 : p < s.size) (hs : s.size ≤ 1000000) :
    Calls Tryz.prog 193 #[.pointer (some ⟨g, 0, none⟩), .pointer (some ⟨h, 0, none⟩)] w (Read s g h (wordF s p) w) := by
  have hglt := hk_lt hl
  have hhlt := hk_lt ht
  have H0 : Hid (WordAt s p g h w p (w.alloc (.cells #[.string ⟨#[116, 114, 117, 101]⟩, .string ⟨#[102, 97, 108, 115, 101]⟩, .string ⟨#[110, 117, 108, 108]⟩] 9))) := Lib.hid ⟨hk_alloc hl _, hk_alloc ht _, (Keeps.refl _ _).alloc _, new_blk _ _⟩
  have wc0 := cell_blk H0.out.wrd
  clear hl ht
  go_enter Tryz.func193, Tryz.ntmps193
  go_wp2
  have HX0 := H0
  have hb : ∀ c : Int, isAt s p c = (bt s p == c) := fun c => by simp [isAt, h1]
  have HC0 : Hid (hasB s p ((⟨#[116, 114, 117, 101]⟩ : ByteArray).extract 0 1) = (bt s p == 116)) := Lib.hid ((has_cut (wd := ⟨#[116, 114, 117, 101]⟩) (k := 0) (by decide)).trans (hb _))
  have HC1 : Hid (hasB s p ((⟨#[102, 97, 108, 115, 101]⟩ : ByteArray).extract 0 1) = (bt s p == 102)) := Lib.hid ((has_cut (wd := ⟨#[102, 97, 108, 115, 101]⟩) (k := 0) (by decide)).trans (hb _))
  have HC2 : Hid (hasB s p ((⟨#[110, 117, 108, 108]⟩ : ByteArray).extract 0 1) = (bt s p == 110)) := Lib.hid ((has_cut (wd := ⟨#[110, 117, 108, 108]⟩) (k := 0) (by decide)).trans (hb _))
  clear hb
  by_cases d0 : bt s p = 116
  · have HZ : Hid (wordF s p = wordOf s p trueL 4) := Lib.hid (by unfold wordF; rw [if_pos d0])
    have HT := Lib.hid (HC0.out.trans (show (bt s p == 116) = true from by simp [d0]))
    clear HC0 HC1 HC2 d0
    refine wp_loop_rounds 4 ?_
    rw [rounds_succ]
    go_wp2_with fail
    refine (HX0.out.has hgh hglt h0 (show hasB s p ((⟨#[116, 114, 117, 101]⟩ : ByteArray).extract 0 1) = true from HT.out)).mono ?_
    rintro e' w1 ⟨rfl, hx1⟩
    have HX1 := Lib.hid hx1
    have wc1 := cell_blk HX1.out.wrd
    clear hx1
    go_wp2
    go_loopw [22] (fun k W => ∃ n : Nat, n ≤ 4 ∧ k = .int .i64 n ∧ Hid (WordAt s p g h w (p + n) W ∧ litF s p trueL = litF s (p + n) (trueL.drop n) ∧ p + n ≤ s.size)) (fun k _ => 4 - (intOf k).toNat)
    case atStart => exact ⟨0, by omega, rfl, Lib.hid ⟨by simpa using HX1.out, by simp, by simp; omega⟩⟩
    case round =>
      obtain ⟨n, hn, rfl, H⟩ := hrel
      by_cases hlt : n < 4
      · have HL := Lib.hid (H.out.2.1.trans (lit_true s (p + n) n hlt))
        have HB := Lib.hid (has_cut (s := s) (wd := ⟨#[116, 114, 117, 101]⟩) (j := p + n) (k := n) hlt)
        have hnI : (n : Int) < 4 := by omega
        have hp0 : 0 ≤ p + (n : Int) := by omega
        have hpn := H.out.2.2
        cases c : isAt s (p + n) (bt ⟨#[116, 114, 117, 101]⟩ n) with
        | true =>
          have HO := Lib.hid (one_kyes H.out.1.lex hp0 hs (HB.out.trans c))
          have hlt2 := isAt_lt c
          have HL2 := Lib.hid (HL.out.trans (by rw [c, if_pos rfl]))
          clear c
          go_wp2_with (go_at_call 201; refine HO.out.mono ?_; rintro e' wx ⟨rfl, hlx, hkx⟩; have HXX := Lib.hid (H.out.1.step hlx hkx hgh hglt); clear hlx hkx)
          go_roundw
          case rel => exact ⟨n + 1, by omega, by go_num, Lib.hid ⟨by have := HXX.out; rw [show p + ((n + 1 : Nat) : Int) = p + n + 1 from by omega]; exact this, by rw [show p + ((n + 1 : Nat) : Int) = p + n + 1 from by omega]; exact HL2.out, by omega⟩⟩
          case measure => simp [intOf]; omega
        | false =>
          have HO := Lib.hid (one_kno H.out.1.lex hp0 (HB.out.trans c))
          have HZ2 : Hid (wordF s p = (Tk.zero, p + n, 1)) := Lib.hid (by
            have hh : litF s p trueL = p + n := HL.out.trans (by rw [c]; rfl)
            rw [HZ.out]; unfold wordOf; rw [hh, if_neg (by omega)])
          clear c HL
          go_wp2_with (go_at_call 201; refine HO.out.mono ?_; rintro e' wx ⟨rfl, hlx, hkx⟩; have HXX := Lib.hid (H.out.1.step hlx (hkx.mono (by simp)) hgh hglt); clear hlx hkx)
          go_ret
          rw [HZ2.out]
          exact ⟨rfl, HXX.out.lex, fun h => by simp at h, HXX.out.keep⟩
      · obtain rfl : n = 4 := by omega
        have HZ2 : Hid (wordF s p = (⟨4, ByteArray.empty, 0, p, p + 4⟩, 0, 0)) := Lib.hid (by have hh : litF s p trueL = -1 := H.out.2.1.trans rfl; rw [HZ.out]; unfold wordOf; rw [hh, if_pos (by omega)]; rfl)
        have tc := cell_blk H.out.1.tok
        have tf := frozen_blk H.out.1.tok
        unfold Tk.cells at tc
        go_wp2
        go_ret
        rw [HZ2.out]
        exact ⟨rfl, hk_set H.out.1.lex (p := ⟨h, 0, none⟩) hgh _, fun _ => set_to H.out.1.tok 0 _ rfl, H.out.1.keep.set (.inl (by simp)) _⟩
  · by_cases d1 : bt s p = 102
    · have HZ : Hid (wordF s p = wordOf s p falseL 5) := Lib.hid (by unfold wordF; rw [if_neg d0, if_pos d1])
      have HF0 := Lib.hid (HC0.out.trans (show (bt s p == 116) = false from by simp [d0]))
      have HT := Lib.hid (HC1.out.trans (show (bt s p == 102) = true from by simp [d1]))
      clear HC0 HC1 HC2 d0 d1
      refine wp_loop_rounds 4 ?_
      rw [rounds_succ]
      go_wp2_with fail
      refine (HX0.out.has hgh hglt h0 (show hasB s p ((⟨#[116, 114, 117, 101]⟩ : ByteArray).extract 0 1) = false from HF0.out)).mono ?_
      rintro e' w1 ⟨rfl, hx1⟩
      have HX1 := Lib.hid hx1
      have wc1 := cell_blk HX1.out.wrd
      clear hx1
      go_wp2_with fail
      rw [rounds_succ]
      go_wp2_with fail
      refine (HX1.out.has hgh hglt h0 (show hasB s p ((⟨#[102, 97, 108, 115, 101]⟩ : ByteArray).extract 0 1) = true from HT.out)).mono ?_
      rintro e' w2 ⟨rfl, hx2⟩
      have HX2 := Lib.hid hx2
      have wc2 := cell_blk HX2.out.wrd
      clear hx2
      go_wp2
      go_loopw [22] (fun k W => ∃ n : Nat, n ≤ 5 ∧ k = .int .i64 n ∧ Hid (WordAt s p g h w (p + n) W ∧ litF s p falseL = litF s (p + n) (falseL.drop n) ∧ p + n ≤ s.size)) (fun k _ => 5 - (intOf k).toNat)
      case atStart => exact ⟨0, by omega, rfl, Lib.hid ⟨by simpa using HX2.out, by simp, by simp; omega⟩⟩
      case round =>
        obtain ⟨n, hn, rfl, H⟩ := hrel
        by_cases hlt : n < 5
        · have HL := Lib.hid (H.out.2.1.trans (lit_false s (p + n) n hlt))
          have HB := Lib.hid (has_cut (s := s) (wd := ⟨#[102, 97, 108, 115, 101]⟩) (j := p + n) (k := n) hlt)
          have hnI : (n : Int) < 5 := by omega
          have hp0 : 0 ≤ p + (n : Int) := by omega
          have hpn := H.out.2.2
          cases c : isAt s (p + n) (bt ⟨#[102, 97, 108, 115, 101]⟩ n) with
          | true =>
            have HO := Lib.hid (one_kyes H.out.1.lex hp0 hs (HB.out.trans c))
            have hlt2 := isAt_lt c
            have HL2 := Lib.hid (HL.out.trans (by rw [c, if_pos rfl]))
            clear c
            go_wp2_with (go_at_call 201; refine HO.out.mono ?_; rintro e' wx ⟨rfl, hlx, hkx⟩; have HXX := Lib.hid (H.out.1.step hlx hkx hgh hglt); clear hlx hkx)
            go_roundw
            case rel => exact ⟨n + 1, by omega, by go_num, Lib.hid ⟨by have := HXX.out; rw [show p + ((n + 1 : Nat) : Int) = p + n + 1 from by omega]; exact this, by rw [show p + ((n + 1 : Nat) : Int) = p + n + 1 from by omega]; exact HL2.out, by omega⟩⟩
            case measure => simp [intOf]; omega
          | false =>
            have HO := Lib.hid (one_kno H.out.1.lex hp0 (HB.out.trans c))
            have HZ2 : Hid (wordF s p = (Tk.zero, p + n, 1)) := Lib.hid (by
              have hh : litF s p falseL = p + n := HL.out.trans (by rw [c]; rfl)
              rw [HZ.out]; unfold wordOf; rw [hh, if_neg (by omega)])
            clear c HL
            go_wp2_with (go_at_call 201; refine HO.out.mono ?_; rintro e' wx ⟨rfl, hlx, hkx⟩; have HXX := Lib.hid (H.out.1.step hlx (hkx.mono (by simp)) hgh hglt); clear hlx hkx)
            go_ret
            rw [HZ2.out]
            exact ⟨rfl, HXX.out.lex, fun h => by simp at h, HXX.out.keep⟩
        · obtain rfl : n = 5 := by omega
          have HZ2 : Hid (wordF s p = (⟨5, ByteArray.empty, 0, p, p + 5⟩, 0, 0)) := Lib.hid (by have hh : litF s p falseL = -1 := H.out.2.1.trans rfl; rw [HZ.out]; unfold wordOf; rw [hh, if_pos (by omega)]; rfl)
          have tc := cell_blk H.out.1.tok
          have tf := frozen_blk H.out.1.tok
          unfold Tk.cells at tc
          go_wp2
          go_ret
          rw [HZ2.out]
          exact ⟨rfl, hk_set H.out.1.lex (p := ⟨h, 0, none⟩) hgh _, fun _ => set_to H.out.1.tok 0 _ rfl, H.out.1.keep.set (.inl (by simp)) _⟩
    · by_cases d2 : bt s p = 110
      · have HZ : Hid (wordF s p = wordOf s p nullL 6) := Lib.hid (by unfold wordF; rw [if_neg d0, if_neg d1, if_pos d2])
        have HF0 := Lib.hid (HC0.out.trans (show (bt s p == 116) = false from by simp [d0]))
        have HF1 := Lib.hid (HC1.out.trans (show (bt s p == 102) = false from by simp [d1]))
        have HT := Lib.hid (HC2.out.trans (show (bt s p == 110) = true from by simp [d2]))
        clear HC0 HC1 HC2 d0 d1 d2
        refine wp_loop_rounds 4 ?_
        rw [rounds_succ]
        go_wp2_with fail
        refine (HX0.out.has hgh hglt h0 (show hasB s p ((⟨#[116, 114, 117, 101]⟩ : ByteArray).extract 0 1) = false from HF0.out)).mono ?_
        rintro e' w1 ⟨rfl, hx1⟩
        have HX1 := Lib.hid hx1
        have wc1 := cell_blk HX1.out.wrd
        clear hx1
        go_wp2_with fail
        rw [rounds_succ]
        go_wp2_with fail
        refine (HX1.out.has hgh hglt h0 (show hasB s p ((⟨#[102, 97, 108, 115, 101]⟩ : ByteArray).extract 0 1) = false from HF1.out)).mono ?_
        rintro e' w2 ⟨rfl, hx2⟩
        have HX2 := Lib.hid hx2
        have wc2 := cell_blk HX2.out.wrd
        clear hx2
        go_wp2_with fail
        rw [rounds_succ]
        go_wp2_with fail
        refine (HX2.out.has hgh hglt h0 (show hasB s p ((⟨#[110, 117, 108, 108]⟩ : ByteArray).extract 0 1) = true from HT.out)).mono ?_
        rintro e' w3 ⟨rfl, hx3⟩
        have HX3 := Lib.hid hx3
        have wc3 := cell_blk HX3.out.wrd
        clear hx3
        go_wp2
        go_loopw [22] (fun k W => ∃ n : Nat, n ≤ 4 ∧ k = .int .i64 n ∧ Hid (WordAt s p g h w (p + n) W ∧ litF s p nullL = litF s (p + n) (nullL.drop n) ∧ p + n ≤ s.size)) (fun k _ => 4 - (intOf k).toNat)
        case atStart => exact ⟨0, by omega, rfl, Lib.hid ⟨by simpa using HX3.out, by simp, by simp; omega⟩⟩
        case round =>
          obtain ⟨n, hn, rfl, H⟩ := hrel
          by_cases hlt : n < 4
          · have HL := Lib.hid (H.out.2.1.trans (lit_null s (p + n) n hlt))
            have HB := Lib.hid (has_cut (s := s) (wd := ⟨#[110, 117, 108, 108]⟩) (j := p + n) (k := n) hlt)
            have hnI : (n : Int) < 4 := by omega
            have hp0 : 0 ≤ p + (n : Int) := by omega
            have hpn := H.out.2.2
            cases c : isAt s (p + n) (bt ⟨#[110, 117, 108, 108]⟩ n) with
            | true =>
              have HO := Lib.hid (one_kyes H.out.1.lex hp0 hs (HB.out.trans c))
              have hlt2 := isAt_lt c
              have HL2 := Lib.hid (HL.out.trans (by rw [c, if_pos rfl]))
              clear c
              go_wp2_with (go_at_call 201; refine HO.out.mono ?_; rintro e' wx ⟨rfl, hlx, hkx⟩; have HXX := Lib.hid (H.out.1.step hlx hkx hgh hglt); clear hlx hkx)
              go_roundw
              case rel => exact ⟨n + 1, by omega, by go_num, Lib.hid ⟨by have := HXX.out; rw [show p + ((n + 1 : Nat) : Int) = p + n + 1 from by omega]; exact this, by rw [show p + ((n + 1 : Nat) : Int) = p + n + 1 from by omega]; exact HL2.out, by omega⟩⟩
              case measure => simp [intOf]; omega
            | false =>
              have HO := Lib.hid (one_kno H.out.1.lex hp0 (HB.out.trans c))
              have HZ2 : Hid (wordF s p = (Tk.zero, p + n, 1)) := Lib.hid (by
                have hh : litF s p nullL = p + n := HL.out.trans (by rw [c]; rfl)
                rw [HZ.out]; unfold wordOf; rw [hh, if_neg (by omega)])
              clear c HL
              go_wp2_with (go_at_call 201; refine HO.out.mono ?_; rintro e' wx ⟨rfl, hlx, hkx⟩; have HXX := Lib.hid (H.out.1.step hlx (hkx.mono (by simp)) hgh hglt); clear hlx hkx)
              go_ret
              rw [HZ2.out]
              exact ⟨rfl, HXX.out.lex, fun h => by simp at h, HXX.out.keep⟩
          · obtain rfl : n = 4 := by omega
            have HZ2 : Hid (wordF s p = (⟨6, ByteArray.empty, 0, p, p + 4⟩, 0, 0)) := Lib.hid (by have hh : litF s p nullL = -1 := H.out.2.1.trans rfl; rw [HZ.out]; unfold wordOf; rw [hh, if_pos (by omega)]; rfl)
            have tc := cell_blk H.out.1.tok
            have tf := frozen_blk H.out.1.tok
            unfold Tk.cells at tc
            go_wp2
            go_ret
            rw [HZ2.out]
            exact ⟨rfl, hk_set H.out.1.lex (p := ⟨h, 0, none⟩) hgh _, fun _ => set_to H.out.1.tok 0 _ rfl, H.out.1.keep.set (.inl (by simp)) _⟩
      · have HZ : Hid (wordF s p = (Tk.zero, p, 1)) := Lib.hid (by unfold wordF; rw [if_neg d0, if_neg d1, if_neg d2])
        have HF0 := Lib.hid (HC0.out.trans (show (bt s p == 116) = false from by simp [d0]))
        have HF1 := Lib.hid (HC1.out.trans (show (bt s p == 102) = false from by simp [d1]))
        have HF2 := Lib.hid (HC2.out.trans (show (bt s p == 110) = false from by simp [d2]))
        clear HC0 HC1 HC2 d0 d1 d2
        refine wp_loop_rounds 4 ?_
        rw [rounds_succ]
        go_wp2_with fail
        refine (HX0.out.has hgh hglt h0 (show hasB s p ((⟨#[116, 114, 117, 101]⟩ : ByteArray).extract 0 1) = false from HF0.out)).mono ?_
        rintro e' w1 ⟨rfl, hx1⟩
        have HX1 := Lib.hid hx1
        have wc1 := cell_blk HX1.out.wrd
        clear hx1
        go_wp2_with fail
        rw [rounds_succ]
        go_wp2_with fail
        refine (HX1.out.has hgh hglt h0 (show hasB s p ((⟨#[102, 97, 108, 115, 101]⟩ : ByteArray).extract 0 1) = false from HF1.out)).mono ?_
        rintro e' w2 ⟨rfl, hx2⟩
        have HX2 := Lib.hid hx2
        have wc2 := cell_blk HX2.out.wrd
        clear hx2
        go_wp2_with fail
        rw [rounds_succ]
        go_wp2_with fail
        refine (HX2.out.has hgh hglt h0 (show hasB s p ((⟨#[110, 117, 108, 108]⟩ : ByteArray).extract 0 1) = false from HF2.out)).mono ?_
        rintro e' w3 ⟨rfl, hx3⟩
        have HX3 := Lib.hid hx3
        have wc3 := cell_blk HX3.out.wrd
        clear hx3
        go_wp2_with fail
        rw [rounds_succ]
        go_wp2
        go_ret
        rw [HZ.out]
        exact ⟨rfl, HX3.out.lex, fun h => by simp at h, HX3.out.keep⟩
end Go.Proofs.YtdlkdecigpaaaaaGreatDoor
namespace Go.Proofs.YtdlkdecigpaaaaaGreatDoor
set_option linter.unusedVariables false
set_option linter.unusedSimpArgs false
open Go.RowKit

theorem lstr_any (s : ByteArray) (p : Int) (g h : Nat) (w : World) (hl : Lex s p g w) (ht : TkAt h (Tk.mk 0 ByteArray.empty 0 p 0).cells w) (hgh : g ≠ h) (h0 : 0 ≤ p) (h1 : p < s.size) (hs : s.size ≤ 1000000) :
    Calls Tryz.prog 196 #[.pointer (some ⟨g, 0, none⟩), .pointer (some ⟨h, 0, none⟩)] w (Read s g h (strF s p) w) := by
  refine (ltext_any s p g h 0 ByteArray.empty 0 p 0 w hl ht hgh h0 h1 hs).mono ?_
  rintro e' w' ⟨rfl, hl', ht', hk'⟩
  unfold Read strF
  by_cases c : (textOf s p).2.2 = 0
  · rw [if_pos c]; exact ⟨by rw [c], by simpa using hl', fun _ => ht' c, hk'⟩
  · rw [if_neg c]; exact ⟨rfl, by simpa [c] using hl', fun h => absurd h c, hk'⟩
/-- The lexer, and the token that it fills. -/
structure NextAt (s : ByteArray) (q : Int) (g r h : Nat) (w W : World) : Prop where
  lex : Lex s q g W
  tok : TkAt h (Tk.mk 0 ByteArray.empty 0 q 0).cells W
  res : TkAt r Tk.zero.cells W
  keep : Keeps [g] w W
  rn : w.heap.size ≤ r
  hn : w.heap.size ≤ h
  rh : r ≠ h
theorem NextAt.step {s : ByteArray} {q : Int} {g r h : Nat} {w W W1 : World} (H : NextAt s q g r h w W) (k : Keeps [] W W1) : NextAt s q g r h w W1 :=
  ⟨lex_keeps H.lex k (by simp), tk_keeps H.tok k (by simp), tk_keeps H.res k (by simp), keeps0 H.keep k, H.rn, H.hn, H.rh⟩
theorem lex_far {s : ByteArray} {i : Int} {g : Nat} {w : World} {p : Addr} (h : Lex s i g w) (hp : g ≠ p.block) (v : Value) : Lex s i g (w.setCell p v) := hk_set h hp v
theorem lex_drewN {s : ByteArray} {i : Int} {g : Nat} {w : World} (h : Lex s i g w) (n : Nat) : Lex s i g (w.drewN n) := h
theorem has_marks {s : ByteArray} {q : Int} (h : q < s.size) : hasB s q marksS = markB (bt s q) := by
  have h2 := (byte_all (p := fun c => memB marksS c = markB c) mark_tab s q)
  unfold hasB; rw [h2]; simp [h]
theorem has_quote {s : ByteArray} {q : Int} (h : q < s.size) : hasB s q ⟨#[34]⟩ = (bt s q == 34) := by
  rw [has_byte]; simp [isAt, h]
theorem has_minus {s : ByteArray} {q : Int} (h : q < s.size) : hasB s q minusS = (bt s q == 45 || digitB (bt s q)) := by
  have h2 := (byte_all (p := fun c => memB minusS c = (c == 45 || digitB c)) minus_tab s q)
  unfold hasB; rw [h2]; simp [h]
/-- With an error there is no token, without one no place. -/
def ErrZ (x : Tk × Int × Int) : Prop := (x.2.2 ≠ 0 → x.1 = Tk.zero) ∧ (x.2.2 = 0 → x.2.1 = 0)
theorem markE (s : ByteArray) (q : Int) : ErrZ (markF s q) := ⟨fun h => absurd rfl h, fun _ => rfl⟩
theorem strE (s : ByteArray) (q : Int) : ErrZ (strF s q) := by
  unfold ErrZ strF; split
  · exact ⟨fun h => by simp at h, fun _ => rfl⟩
  · rename_i h; exact ⟨fun _ => rfl, fun k => absurd k h⟩
theorem numE (s : ByteArray) (q : Int) : ErrZ (numF s q) := by
  unfold ErrZ numF; split
  · exact ⟨fun _ => rfl, fun k => by simp at k⟩
  · split
    · exact ⟨fun _ => rfl, fun k => by simp at k⟩
    · split
      · exact ⟨fun h => by simp at h, fun _ => rfl⟩
      · exact ⟨fun _ => rfl, fun k => by simp at k⟩
theorem wordE (s : ByteArray) (q : Int) : ErrZ (wordF s q) := by
  have h : ∀ l k, ErrZ (wordOf s q l k) := by
    intro l k; unfold ErrZ wordOf; split
    · exact ⟨fun h => by simp at h, fun _ => rfl⟩
    · exact ⟨fun _ => rfl, fun k => by simp at k⟩
  unfold wordF; split
  · exact h _ _
  · split
    · exact h _ _
    · split
      · exact h _ _
      · exact ⟨fun _ => rfl, fun k => by simp at k⟩
theorem err_zero {kd : Int} {tx : ByteArray} {vl hd st pl code : Int} (h : ErrZ (⟨kd, tx, vl, hd, st⟩, pl, code)) (hc : code ≠ 0) : ((⟨kd, tx, vl, hd, st⟩, pl, code) : Tk × Int × Int) = (Tk.zero, pl, code) := by
  have := h.1 hc; simp only at this; rw [this]
theorem ok_zero {kd : Int} {tx : ByteArray} {vl hd st pl : Int} (h : ErrZ (⟨kd, tx, vl, hd, st⟩, pl, 0)) : ((⟨kd, tx, vl, hd, st⟩, pl, 0) : Tk × Int × Int) = (⟨kd, tx, vl, hd, st⟩, 0, 0) := by
  have := h.2 rfl; simp only at this; rw [this]
/-- What Next answers. -/
def NextSays (s : ByteArray) (i : Int) (g : Nat) (r : Tk × Int × Int) (w : World) (e' : Ending) (w' : World) : Prop :=
  e' = .returned (.tuple #[.agg r.1.cells, .int .i64 r.2.1, .int .i64 r.2.2]) ∧ Lex s (if r.2.2 = 0 then r.1.stop else i) g w' ∧ Keeps [g] w w'
set_option maxRecDepth 20000 in
set_option maxHeartbeats 8000000 in
theorem lnext_any (s : ByteArray) (i : Int) (g : Nat) (w : World) (hl : Lex s i g w) (hv : VarOk w) (hg2 : 5 < g) (h0 : 0 ≤ i) (h1 : i ≤ s.size) (hs : s.size ≤ 1000000) :
    Calls Tryz.prog 189 #[.pointer (some ⟨g, 0, none⟩)] w (NextSays s i g (nextF s i) w) := by
  have gc := cell_blk hl
  have gf := frozen_blk hl
  have hglt := hk_lt hl
  have HL := Lib.hid hl
  have HV := Lib.hid hv
  have HP := Lib.hid (pass_any s i g blanksS (w.alloc (.cells Tk.zero.cells 230)) (hk_alloc hl _) h0 h1 (by omega))
  rw [pass_blank] at HP
  have hq0 : i ≤ blanks s i ∧ blanks s i ≤ s.size := by have h2 := pass_ge (s := s) (i := i) (t := blanksS); have h3 := pass_le (t := blanksS) h0 h1; rw [pass_blank] at h2 h3; omega
  obtain ⟨hq0, hq1⟩ := hq0
  have HN : Hid (nextF s i = if blanks s i < s.size then tokF s (blanks s i) else (⟨0, ByteArray.empty, 0, blanks s i, blanks s i⟩, 0, 0)) := Lib.hid rfl
  generalize nextF s i = r at *
  generalize blanks s i = q at *
  clear hl hv
  go_enter Tryz.func189, Tryz.ntmps189
  go_wp2_with (go_at_call 192; refine HP.out.mono ?_; rintro e' w1 ⟨rfl, hl1, hk1⟩; have HX1 := Lib.hid (And.intro hl1 hk1); clear hl1 hk1; have gc1 := cell_blk HX1.out.1; have gf1 := frozen_blk HX1.out.1)
  have hr1 : w.heap.size < w1.heap.size := by have := HX1.out.2.size; rw [World.size_alloc] at this; omega
  refine abs_world (fun W => Hid (NextAt s q g w.heap.size w1.heap.size w W ∧ w1.heap.size < W.heap.size)) (Lib.hid ⟨⟨hk_alloc HX1.out.1 _, new_blk _ _, hk_alloc (tk_keeps (S := [g]) (new_blk w _) HX1.out.2 (by simp; omega)) _, (((Keeps.refl [g] w).alloc _).step HX1.out.2 (by simp)).alloc _, Nat.le_refl _, by omega, by omega⟩, by rw [World.size_alloc]; omega⟩) ?_
  intro W HW
  have hwl := HW.out.2
  clear gc gf gc1 gf1 HX1 HP
  have hgb : g ≠ w1.heap.size := by omega
  have hgr : g ≠ w.heap.size := by omega
  have hrb : w.heap.size ≠ w1.heap.size := by omega
  generalize w1.heap.size = b at *
  have HVW := Lib.hid (HV.out.keeps HW.out.1.keep (by simpa using hg2))
  have gc := cell_blk HW.out.1.lex
  have gf := frozen_blk HW.out.1.lex
  have tc := cell_blk HW.out.1.tok
  have tf := frozen_blk HW.out.1.tok
  have rc := cell_blk HW.out.1.res
  have rf := frozen_blk HW.out.1.res
  unfold Tk.cells at tc
  unfold Tk.zero Tk.cells at rc
  by_cases hq : q = s.size
  · have hqb : (q == (s.size : Int)) = true := by simp [hq]
    have HZ : Hid (r = (⟨0, ByteArray.empty, 0, q, q⟩, 0, 0)) := Lib.hid (by rw [HN.out, if_neg (by omega)])
    clear HN hq
    go_quiet (fail)
    go_wp2
    refine bodyPost_ret (v := .tuple #[.agg #[.int .i64 0, .string ByteArray.empty, .int .i64 0, .int .i64 q, .int .i64 q], .int .i64 0, .int .i64 0]) (by simp [results, Tryz.results189, go_sem, rc]) rfl ?_
    rw [HZ.out]
    refine ⟨rfl, ?_, ?_⟩
    · show Lex s q g _
      repeat (first | with_reducible exact HW.out.1.lex | with_reducible refine lex_drewN ?_ _ | with_reducible refine lex_far ?_ (by show g ≠ _; first | exact hgb | exact hgr) _)
    · repeat (first | with_reducible exact HW.out.1.keep | with_reducible refine Keeps.drewN ?_ _ | with_reducible refine Keeps.set ?_ (.inr (by show _ ≤ _; first | exact Nat.le_refl _ | exact HW.out.1.hn)) _)
  · have hqb : (q == (s.size : Int)) = false := by simp [hq]
    have hql : q < s.size := by omega
    have HZ : Hid (r = tokF s q) := Lib.hid (by rw [HN.out, if_pos hql])
    clear HN hq
    have hq00 : 0 ≤ q := by omega
    go_quiet (fail)
    have H2 := Lib.hid (HW.out.1.step ((Keeps.refl [] W).drewN nq))
    generalize W.drewN nq = W2 at H2 ⊢
    clear HW gc gf tc tf rc rf HVW hqb hwl
    have HM := Lib.hid (has_marks hql)
    have HQ := Lib.hid (has_quote hql)
    have HD := Lib.hid (has_minus hql)
    have HVN := Lib.hid (fun W (H : NextAt s q g w.heap.size b w W) => HV.out.keeps H.keep (by simpa using hg2))
    have hb2 : 5 < b := by omega
    have HT : Hid (tokF s q = if markB (bt s q) = true then markF s q else if bt s q = 34 then strF s q else if (bt s q == 45 || digitB (bt s q)) = true then numF s q else wordF s q) := Lib.hid rfl
    cases c1 : markB (bt s q) with
    | true =>
      rw [c1] at HM
      have HZ2 : Hid (r = markF s q) := Lib.hid (by rw [HZ.out, HT.out, if_pos c1])
      have HZE := Lib.hid (markE s q)
      clear c1 HT HZ
      go_wp2_with fail
      refine (has_k H2.out.lex hq00 HM.out).mono ?_
      rintro e' W3 ⟨rfl, _, hk3⟩
      have H3 := Lib.hid (H2.out.step hk3)
      clear hk3
      have HC := Lib.hid (lmark_any s q g b W3 H3.out.lex H3.out.tok hgb hq00 hql hs)
      generalize markF s q = x at *
      obtain ⟨⟨kd, tx, vl, hd, st⟩, pl, code⟩ := x
      go_wp2_with fail
      refine HC.out.mono ?_
      clear HC
      rintro e' W9 ⟨rfl, hl9, ht9, hk9⟩
      simp only at hl9 ht9
      have H9 : Hid (TkAt w.heap.size Tk.zero.cells W9 ∧ Keeps [g] w W9) := Lib.hid ⟨tk_keeps H3.out.res hk9 (by simp; omega), H3.out.keep.step hk9 (by have := H3.out.hn; simp; omega)⟩
      have hbn := H3.out.hn
      have HL9 := Lib.hid hl9
      have HT9 := Lib.hid ht9
      have rc := cell_blk H9.out.1
      have rf := frozen_blk H9.out.1
      have gc := cell_blk hl9
      have gf := frozen_blk hl9
      unfold Tk.zero Tk.cells at rc
      clear hl9 ht9 hk9
      by_cases hc : code = 0
      · subst hc
        have HT8 := Lib.hid (HT9.out rfl)
        have HL8 : Hid (Lex s st g W9) := Lib.hid HL9.out
        have tc := cell_blk HT8.out
        have tf := frozen_blk HT8.out
        have gc := cell_blk HL8.out
        unfold Tk.cells at tc
        go_wp2
        refine bodyPost_ret (v := .tuple #[.agg #[.int .i64 kd, .string tx, .int .i64 vl, .int .i64 hd, .int .i64 st], .int .i64 0, .int .i64 0]) (by simp [results, Tryz.results189, go_sem, rc]) rfl ?_
        rw [HZ2.out, ok_zero HZE.out]
        refine ⟨rfl, ?_, ?_⟩
        · show Lex s st g _
          repeat (first | with_reducible exact HL8.out | with_reducible refine lex_drewN ?_ _ | with_reducible refine lex_far ?_ (by show g ≠ _; first | exact hgb | exact hgr) _)
        · repeat (first | with_reducible exact H9.out.2 | with_reducible refine Keeps.set ?_ (.inr (by show _ ≤ _; first | exact Nat.le_refl _ | exact hbn)) _)
      · have hcb : (code != 0) = true := by simp [hc]
        have hcb2 : (code == 0) = false := by simp [hc]
        have HL8 : Hid (Lex s pl g W9) := Lib.hid (by have := HL9.out; rw [if_neg hc] at this; exact this)
        have HCN := Lib.hid hc
        have gc := cell_blk HL8.out
        clear hc
        go_wp2
        refine bodyPost_ret (v := .tuple #[.agg #[.int .i64 0, .string ⟨#[]⟩, .int .i64 0, .int .i64 0, .int .i64 0], .int .i64 pl, .int .i64 code]) (by simp [results, Tryz.results189, go_sem, rc]) rfl ?_
        rw [HZ2.out, err_zero HZE.out HCN.out]
        refine ⟨rfl, ?_, ?_⟩
        · show Lex s (if code = 0 then _ else i) g _
          rw [if_neg HCN.out]
          repeat (first | with_reducible exact lex_set HL8.out | with_reducible refine lex_drewN ?_ _ | with_reducible refine lex_far ?_ (by show g ≠ _; first | exact hgb | exact hgr) _)
        · repeat (first | with_reducible exact H9.out.2 | with_reducible refine Keeps.set ?_ (.inr (by show _ ≤ _; first | exact Nat.le_refl _ | exact hbn)) _ | with_reducible refine Keeps.set ?_ (.inl (by simp)) _)
    | false =>
      rw [c1] at HM
      cases c2 : (bt s q == 34) with
      | true =>
        rw [c2] at HQ
        have HZ2 : Hid (r = strF s q) := Lib.hid (by rw [HZ.out, HT.out, if_neg (by simp [c1]), if_pos (by simpa using c2)])
        have HZE := Lib.hid (strE s q)
        clear c1 c2 HT HZ
        go_wp2_with fail
        refine (has_k H2.out.lex hq00 HM.out).mono ?_
        rintro e' W3 ⟨rfl, _, hk3⟩
        have H3 := Lib.hid (H2.out.step hk3)
        clear hk3
        go_wp2_with fail
        refine (has_k H3.out.lex hq00 HQ.out).mono ?_
        rintro e' W4 ⟨rfl, _, hk4⟩
        have H4 := Lib.hid (H3.out.step hk4)
        clear hk4
        have HC := Lib.hid (lstr_any s q g b W4 H4.out.lex H4.out.tok hgb hq00 hql hs)
        generalize strF s q = x at *
        obtain ⟨⟨kd, tx, vl, hd, st⟩, pl, code⟩ := x
        go_wp2_with fail
        refine HC.out.mono ?_
        clear HC
        rintro e' W9 ⟨rfl, hl9, ht9, hk9⟩
        simp only at hl9 ht9
        have H9 : Hid (TkAt w.heap.size Tk.zero.cells W9 ∧ Keeps [g] w W9) := Lib.hid ⟨tk_keeps H4.out.res hk9 (by simp; omega), H4.out.keep.step hk9 (by have := H4.out.hn; simp; omega)⟩
        have hbn := H4.out.hn
        have HL9 := Lib.hid hl9
        have HT9 := Lib.hid ht9
        have rc := cell_blk H9.out.1
        have rf := frozen_blk H9.out.1
        have gc := cell_blk hl9
        have gf := frozen_blk hl9
        unfold Tk.zero Tk.cells at rc
        clear hl9 ht9 hk9
        by_cases hc : code = 0
        · subst hc
          have HT8 := Lib.hid (HT9.out rfl)
          have HL8 : Hid (Lex s st g W9) := Lib.hid HL9.out
          have tc := cell_blk HT8.out
          have tf := frozen_blk HT8.out
          have gc := cell_blk HL8.out
          unfold Tk.cells at tc
          go_wp2
          refine bodyPost_ret (v := .tuple #[.agg #[.int .i64 kd, .string tx, .int .i64 vl, .int .i64 hd, .int .i64 st], .int .i64 0, .int .i64 0]) (by simp [results, Tryz.results189, go_sem, rc]) rfl ?_
          rw [HZ2.out, ok_zero HZE.out]
          refine ⟨rfl, ?_, ?_⟩
          · show Lex s st g _
            repeat (first | with_reducible exact HL8.out | with_reducible refine lex_drewN ?_ _ | with_reducible refine lex_far ?_ (by show g ≠ _; first | exact hgb | exact hgr) _)
          · repeat (first | with_reducible exact H9.out.2 | with_reducible refine Keeps.set ?_ (.inr (by show _ ≤ _; first | exact Nat.le_refl _ | exact hbn)) _)
        · have hcb : (code != 0) = true := by simp [hc]
          have hcb2 : (code == 0) = false := by simp [hc]
          have HL8 : Hid (Lex s pl g W9) := Lib.hid (by have := HL9.out; rw [if_neg hc] at this; exact this)
          have HCN := Lib.hid hc
          have gc := cell_blk HL8.out
          clear hc
          go_wp2
          refine bodyPost_ret (v := .tuple #[.agg #[.int .i64 0, .string ⟨#[]⟩, .int .i64 0, .int .i64 0, .int .i64 0], .int .i64 pl, .int .i64 code]) (by simp [results, Tryz.results189, go_sem, rc]) rfl ?_
          rw [HZ2.out, err_zero HZE.out HCN.out]
          refine ⟨rfl, ?_, ?_⟩
          · show Lex s (if code = 0 then _ else i) g _
            rw [if_neg HCN.out]
            repeat (first | with_reducible exact lex_set HL8.out | with_reducible refine lex_drewN ?_ _ | with_reducible refine lex_far ?_ (by show g ≠ _; first | exact hgb | exact hgr) _)
          · repeat (first | with_reducible exact H9.out.2 | with_reducible refine Keeps.set ?_ (.inr (by show _ ≤ _; first | exact Nat.le_refl _ | exact hbn)) _ | with_reducible refine Keeps.set ?_ (.inl (by simp)) _)
      | false =>
        rw [c2] at HQ
        cases c3 : (bt s q == 45 || digitB (bt s q)) with
        | true =>
          rw [c3] at HD
          have HZ2 : Hid (r = numF s q) := Lib.hid (by rw [HZ.out, HT.out, if_neg (by simp [c1]), if_neg (by simpa using c2), if_pos c3])
          have HZE := Lib.hid (numE s q)
          clear c1 c2 c3 HT HZ
          go_wp2_with fail
          refine (has_k H2.out.lex hq00 HM.out).mono ?_
          rintro e' W3 ⟨rfl, _, hk3⟩
          have H3 := Lib.hid (H2.out.step hk3)
          clear hk3
          go_wp2_with fail
          refine (has_k H3.out.lex hq00 HQ.out).mono ?_
          rintro e' W4 ⟨rfl, _, hk4⟩
          have H4 := Lib.hid (H3.out.step hk4)
          clear hk4
          go_wp2_with fail
          refine (has_k H4.out.lex hq00 HD.out).mono ?_
          rintro e' W5 ⟨rfl, _, hk5⟩
          have H5 := Lib.hid (H4.out.step hk5)
          clear hk5
          have HC := Lib.hid (lnum_any s q g b W5 H5.out.lex H5.out.tok hgb (HVN.out _ H5.out) hg2 hb2 hq00 hql hs)
          generalize numF s q = x at *
          obtain ⟨⟨kd, tx, vl, hd, st⟩, pl, code⟩ := x
          go_wp2_with fail
          refine HC.out.mono ?_
          clear HC
          rintro e' W9 ⟨rfl, hl9, ht9, hk9⟩
          simp only at hl9 ht9
          have H9 : Hid (TkAt w.heap.size Tk.zero.cells W9 ∧ Keeps [g] w W9) := Lib.hid ⟨tk_keeps H5.out.res hk9 (by simp; omega), H5.out.keep.step hk9 (by have := H5.out.hn; simp; omega)⟩
          have hbn := H5.out.hn
          have HL9 := Lib.hid hl9
          have HT9 := Lib.hid ht9
          have rc := cell_blk H9.out.1
          have rf := frozen_blk H9.out.1
          have gc := cell_blk hl9
          have gf := frozen_blk hl9
          unfold Tk.zero Tk.cells at rc
          clear hl9 ht9 hk9
          by_cases hc : code = 0
          · subst hc
            have HT8 := Lib.hid (HT9.out rfl)
            have HL8 : Hid (Lex s st g W9) := Lib.hid HL9.out
            have tc := cell_blk HT8.out
            have tf := frozen_blk HT8.out
            have gc := cell_blk HL8.out
            unfold Tk.cells at tc
            go_wp2
            refine bodyPost_ret (v := .tuple #[.agg #[.int .i64 kd, .string tx, .int .i64 vl, .int .i64 hd, .int .i64 st], .int .i64 0, .int .i64 0]) (by simp [results, Tryz.results189, go_sem, rc]) rfl ?_
            rw [HZ2.out, ok_zero HZE.out]
            refine ⟨rfl, ?_, ?_⟩
            · show Lex s st g _
              repeat (first | with_reducible exact HL8.out | with_reducible refine lex_drewN ?_ _ | with_reducible refine lex_far ?_ (by show g ≠ _; first | exact hgb | exact hgr) _)
            · repeat (first | with_reducible exact H9.out.2 | with_reducible refine Keeps.set ?_ (.inr (by show _ ≤ _; first | exact Nat.le_refl _ | exact hbn)) _)
          · have hcb : (code != 0) = true := by simp [hc]
            have hcb2 : (code == 0) = false := by simp [hc]
            have HL8 : Hid (Lex s pl g W9) := Lib.hid (by have := HL9.out; rw [if_neg hc] at this; exact this)
            have HCN := Lib.hid hc
            have gc := cell_blk HL8.out
            clear hc
            go_wp2
            refine bodyPost_ret (v := .tuple #[.agg #[.int .i64 0, .string ⟨#[]⟩, .int .i64 0, .int .i64 0, .int .i64 0], .int .i64 pl, .int .i64 code]) (by simp [results, Tryz.results189, go_sem, rc]) rfl ?_
            rw [HZ2.out, err_zero HZE.out HCN.out]
            refine ⟨rfl, ?_, ?_⟩
            · show Lex s (if code = 0 then _ else i) g _
              rw [if_neg HCN.out]
              repeat (first | with_reducible exact lex_set HL8.out | with_reducible refine lex_drewN ?_ _ | with_reducible refine lex_far ?_ (by show g ≠ _; first | exact hgb | exact hgr) _)
            · repeat (first | with_reducible exact H9.out.2 | with_reducible refine Keeps.set ?_ (.inr (by show _ ≤ _; first | exact Nat.le_refl _ | exact hbn)) _ | with_reducible refine Keeps.set ?_ (.inl (by simp)) _)
        | false =>
          rw [c3] at HD
          have HZ2 : Hid (r = wordF s q) := Lib.hid (by rw [HZ.out, HT.out, if_neg (by simp [c1]), if_neg (by simpa using c2), if_neg (by rw [c3]; simp)])
          have HZE := Lib.hid (wordE s q)
          clear c1 c2 c3 HT HZ
          go_wp2_with fail
          refine (has_k H2.out.lex hq00 HM.out).mono ?_
          rintro e' W3 ⟨rfl, _, hk3⟩
          have H3 := Lib.hid (H2.out.step hk3)
          clear hk3
          go_wp2_with fail
          refine (has_k H3.out.lex hq00 HQ.out).mono ?_
          rintro e' W4 ⟨rfl, _, hk4⟩
          have H4 := Lib.hid (H3.out.step hk4)
          clear hk4
          go_wp2_with fail
          refine (has_k H4.out.lex hq00 HD.out).mono ?_
          rintro e' W5 ⟨rfl, _, hk5⟩
          have H5 := Lib.hid (H4.out.step hk5)
          clear hk5
          have HC := Lib.hid (lword_any s q g b W5 H5.out.lex H5.out.tok hgb hq00 hql hs)
          generalize wordF s q = x at *
          obtain ⟨⟨kd, tx, vl, hd, st⟩, pl, code⟩ := x
          go_wp2_with fail
          refine HC.out.mono ?_
          clear HC
          rintro e' W9 ⟨rfl, hl9, ht9, hk9⟩
          simp only at hl9 ht9
          have H9 : Hid (TkAt w.heap.size Tk.zero.cells W9 ∧ Keeps [g] w W9) := Lib.hid ⟨tk_keeps H5.out.res hk9 (by simp; omega), H5.out.keep.step hk9 (by have := H5.out.hn; simp; omega)⟩
          have hbn := H5.out.hn
          have HL9 := Lib.hid hl9
          have HT9 := Lib.hid ht9
          have rc := cell_blk H9.out.1
          have rf := frozen_blk H9.out.1
          have gc := cell_blk hl9
          have gf := frozen_blk hl9
          unfold Tk.zero Tk.cells at rc
          clear hl9 ht9 hk9
          by_cases hc : code = 0
          · subst hc
            have HT8 := Lib.hid (HT9.out rfl)
            have HL8 : Hid (Lex s st g W9) := Lib.hid HL9.out
            have tc := cell_blk HT8.out
            have tf := frozen_blk HT8.out
            have gc := cell_blk HL8.out
            unfold Tk.cells at tc
            go_wp2
            refine bodyPost_ret (v := .tuple #[.agg #[.int .i64 kd, .string tx, .int .i64 vl, .int .i64 hd, .int .i64 st], .int .i64 0, .int .i64 0]) (by simp [results, Tryz.results189, go_sem, rc]) rfl ?_
            rw [HZ2.out, ok_zero HZE.out]
            refine ⟨rfl, ?_, ?_⟩
            · show Lex s st g _
              repeat (first | with_reducible exact HL8.out | with_reducible refine lex_drewN ?_ _ | with_reducible refine lex_far ?_ (by show g ≠ _; first | exact hgb | exact hgr) _)
            · repeat (first | with_reducible exact H9.out.2 | with_reducible refine Keeps.set ?_ (.inr (by show _ ≤ _; first | exact Nat.le_refl _ | exact hbn)) _)
          · have hcb : (code != 0) = true := by simp [hc]
            have hcb2 : (code == 0) = false := by simp [hc]
            have HL8 : Hid (Lex s pl g W9) := Lib.hid (by have := HL9.out; rw [if_neg hc] at this; exact this)
            have HCN := Lib.hid hc
            have gc := cell_blk HL8.out
            clear hc
            go_wp2
            refine bodyPost_ret (v := .tuple #[.agg #[.int .i64 0, .string ⟨#[]⟩, .int .i64 0, .int .i64 0, .int .i64 0], .int .i64 pl, .int .i64 code]) (by simp [results, Tryz.results189, go_sem, rc]) rfl ?_
            rw [HZ2.out, err_zero HZE.out HCN.out]
            refine ⟨rfl, ?_, ?_⟩
            · show Lex s (if code = 0 then _ else i) g _
              rw [if_neg HCN.out]
              repeat (first | with_reducible exact lex_set HL8.out | with_reducible refine lex_drewN ?_ _ | with_reducible refine lex_far ?_ (by show g ≠ _; first | exact hgb | exact hgr) _)
            · repeat (first | with_reducible exact H9.out.2 | with_reducible refine Keeps.set ?_ (.inr (by show _ ≤ _; first | exact Nat.le_refl _ | exact hbn)) _ | with_reducible refine Keeps.set ?_ (.inl (by simp)) _)
end Go.Proofs.YtdlkdecigpaaaaaGreatDoor
