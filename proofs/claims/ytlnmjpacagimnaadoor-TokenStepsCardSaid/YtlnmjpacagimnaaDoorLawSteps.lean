/- TokenSteps: asked one by one, the tokens are the document's. -/
import Derived.Test.YtlnmjpacagimnaaDoorLawA
namespace Go.Proofs.YtlnmjpacagimnaaDoor
set_option linter.unusedVariables false
set_option linter.unusedSimpArgs false
open Go.RowKit

theorem u8_rangeT {x : Int} (h : (Lit.int .u8 x).wf = true) : 0 ≤ x ∧ x ≤ 255 := by
  simp only [Lit.wf, Bool.and_eq_true, decide_eq_true_eq] at h
  have h1 : IntKind.u8.min = 0 := rfl
  have h2 : IntKind.u8.max = 255 := rfl
  omega
/-- Asked again, the kind is the end's or there is an error. -/
def endB (x : Tk × Int × Int) : Bool := decide (x.2.2 ≠ 0) || decide (x.1.kind = 0)
set_option maxRecDepth 20000 in
set_option maxHeartbeats 4000000 in
theorem steps_nat (s : ByteArray) (m : Int) (w : World) (hv : VarOk w) (hs63 : s.size ≤ 140737488351232) (hm0 : 0 ≤ m) (hm1 : m ≤ 255) :
    Calls Tryd.prog 8 #[.string s, .int .u8 m] w fun e w' => e = .returned (.bool true) ∧ Below w.heap.size w w' := by
  have HW := Lib.hid (fun W (h : VarOk W) => awake_any W h)
  have HV := Lib.hid hv
  have HK := Lib.hid (fun W (hb : Below w.heap.size w W) => HV.out.keeps (Keeps.below (S := []) hb) (by simp))
  have hw2 : 2 < w.heap.size := by obtain ⟨ev, hc, _⟩ := hv; exact World.block_lt_of_cell? w _ hc
  clear hv
  have HW0 := Lib.hid (HW.out w HV.out)
  by_cases hs : s.size ≤ 400
  · have hgt : ¬ (400 : Int) < s.size := by omega
    go_enter Tryd.func8, Tryd.ntmps8
    go_wp2_with fail
    refine HW0.out.mono ?_
    rintro e' w1 ⟨rfl, hb1⟩
    have HB1 := Lib.hid hb1
    have hb1s := hb1.size
    clear hb1
    go_wp2_with (go_at_call 20; refine (lnew_any s _).mono ?_; rintro e' w2 ⟨rfl, hw2'⟩; have HX2 : Hid (Lex s 0 w1.heap.size w2 ∧ Below w1.heap.size w1 w2) := Lib.hid (by subst hw2'; exact ⟨lnew_lex s w1, bl_alloc (Below.refl _ _) _⟩); clear hw2')
    have HPL := Lib.hid (place_any s 0 w1.heap.size w2 HX2.out.1)
    refine HPL.out.mono ?_
    rintro e' w2' ⟨rfl, rfl⟩
    have HB2 : Hid (Below w.heap.size w w2) := Lib.hid (bl_step HB1.out HX2.out.2)
    have hbl : w.heap.size ≤ w1.heap.size := hb1s
    have hb2s : w1.heap.size < w2.heap.size := hk_lt HX2.out.1
    have HX3 : Hid (Lex s 0 w1.heap.size w2) := Lib.hid HX2.out.1
    clear HPL HX2 HW HW0 HB1 hb1s
    generalize w1.heap.size = b at *
    go_wp2_with fail
    go_loopw [6, 7] (fun p q W => ∃ (i : Int) (n : Nat), p = .int .i64 i ∧ q = .int .i64 n ∧ n ≤ 4 ∧ 0 ≤ i ∧ i ≤ s.size ∧ Hid (Lex s i b W ∧ Below w.heap.size w W)) (fun p q _ => (5 - (intOf q).toNat) * (s.size + 2) + (s.size - (intOf p).toNat))
    case atStart => exact ⟨0, 0, rfl, rfl, by omega, by omega, by omega, Lib.hid ⟨HX3.out, HB2.out⟩⟩
    case round =>
      obtain ⟨i, n, rfl, rfl, hn, hi0, hi1, H⟩ := hrel
      have hm4 : 0 ≤ m % 4 ∧ m % 4 ≤ 3 := by omega
      obtain ⟨hm4a, hm4b⟩ := hm4
      by_cases hle : (n : Int) ≤ m % 4
      · have HN := Lib.hid (lnext_any s i b wr H.out.1 (HV.out.keeps (Keeps.below (S := []) H.out.2) (by simp)) (by omega) hi0 hi1 (by omega))
        have HN5 := Lib.hid (fun W => next5_any s i W hi0 hi1 (by omega))
        have HNS := Lib.hid (fun h => next_step (s := s) hi0 hi1 h)
        have hbr := blanks_range hi0 hi1
        go_wp2_with fail
        refine HN.out.mono ?_
        rintro e' w3 ⟨rfl, hl3, hk3⟩
        generalize nextF s i = x at *
        have HIS := Lib.hid (fun W => is_any x.1 W)
        obtain ⟨⟨kd, tx, vl, hd, st⟩, pl, code⟩ := x
        simp only at hl3 HNS HIS
        have H3 := Lib.hid (And.intro hl3 (below_keeps H.out.2 hk3 H.out.2.size (by simpa using hbl)))
        clear hl3 hk3 HN
        unfold Tk.cells at *
        go_wp2_with fail
        refine (HN5.out _).mono ?_
        rintro e' w4 ⟨rfl, hb4⟩
        have H4 : Hid (Lex s (if code = 0 then st else i) b w4 ∧ Below w.heap.size w w4 ∧ w4.heap[w3.heap.size]? = some (.cells #[.int .i64 kd, .string tx, .int .i64 vl, .int .i64 hd, .int .i64 st] 32 (0, 0))) := Lib.hid ⟨hk_below (hk_alloc H3.out.1 _) hb4, bl_step (bl_alloc H3.out.2 _) hb4, hk_below (new_blk _ _) hb4⟩
        have tc := cell_blk H4.out.2.2
        have hlt := hk_lt H4.out.2.2
        clear hb4 HN5
        unfold Tk.cells at *
        go_wp2_with fail
        refine (HIS.out _).mono ?_
        rintro e' w5 ⟨rfl, hb5⟩
        have H5 : Hid (Lex s (if code = 0 then st else i) b w5 ∧ Below w.heap.size w w5 ∧ w5.heap[w4.heap.size]? = some (.cells #[.int .i64 kd, .string tx, .int .i64 vl, .int .i64 hd, .int .i64 st] 33 (0, 0))) := Lib.hid ⟨hk_below (hk_alloc H4.out.1 _) hb5, bl_step (bl_alloc H4.out.2.1 _) hb5, hk_below (new_blk _ _) hb5⟩
        have wc := cell_blk H5.out.2.2
        clear hb5 HIS
        by_cases hc : code = 0
        · subst hc
          have HPL := Lib.hid (fun (W : World) (h : Lex s st b W) => place_any s st b W h)
          have HP5 := Lib.hid (HPL.out w5 H5.out.1)
          have HNS2 := Lib.hid (HNS.out rfl)
          have hns := HNS2.out
          have hs0 : 0 ≤ st := by omega
          have hs1 : st ≤ s.size := by omega
          have hs2 : i ≤ st := by omega
          clear hns HNS HPL
          go_wp2_with fail
          refine HP5.out.mono ?_
          rintro e' w5' ⟨rfl, rfl⟩
          by_cases hkd : kd = 0
          · have hkb : (kd == 0) = true := by simp [hkd]
            clear hkd
            go_wp2
            go_roundw
            case rel => exact ⟨st, n + 1, rfl, by go_num, by omega, hs0, hs1, Lib.hid ⟨H5.out.1, H5.out.2.1⟩⟩
            case measure =>
              have h3 : n = 0 ∨ n = 1 ∨ n = 2 ∨ n = 3 := by omega
              rcases h3 with rfl | rfl | rfl | rfl <;> simp [intOf] <;> omega
          · have hkb : (kd == 0) = false := by simp [hkd]
            have hs3 : i < st := by have := HNS2.out; omega
            clear hkd
            go_wp2
            go_roundw
            case rel => exact ⟨st, n, rfl, rfl, by omega, hs0, hs1, Lib.hid ⟨H5.out.1, H5.out.2.1⟩⟩
            case measure => simp [intOf]; omega
        · have hcb : (code == 0) = false := by simp [hc]
          have hcb2 : (code != 0) = true := by simp [hc]
          have HL5 : Hid (Lex s i b w5) := Lib.hid (by have := H5.out.1; rw [if_neg hc] at this; exact this)
          have HP5 := Lib.hid (place_any s i b w5 HL5.out)
          clear hc HNS
          go_wp2_with fail
          refine HP5.out.mono ?_
          rintro e' w5' ⟨rfl, rfl⟩
          go_wp2
          go_roundw
          case rel => exact ⟨i, n + 1, rfl, by go_num, by omega, hi0, hi1, Lib.hid ⟨HL5.out, H5.out.2.1⟩⟩
          case measure =>
            have h3 : n = 0 ∨ n = 1 ∨ n = 2 ∨ n = 3 := by omega
            rcases h3 with rfl | rfl | rfl | rfl <;> simp [intOf] <;> omega
      · go_wp2
        go_ret
        exact ⟨rfl, H.out.2⟩
  · have hgt : (400 : Int) < s.size := by omega
    go_enter Tryd.func8, Tryd.ntmps8
    go_wp2_with fail
    refine HW0.out.mono ?_
    rintro e' w1 ⟨rfl, hb1⟩
    have HB1 := Lib.hid hb1
    have HW1 := Lib.hid (HW.out w1 (HK.out w1 hb1))
    clear hb1
    go_wp2_with fail
    refine HW1.out.mono ?_
    rintro e' w2 ⟨rfl, hb2⟩
    have HB2 := Lib.hid (bl_step HB1.out hb2)
    clear hb2
    go_wp2
    go_ret
    exact ⟨rfl, HB2.out⟩
theorem steps_walk (s : ByteArray) (m : Int) (w : World) (hv : VarOk w) (hs63 : s.size ≤ 140737488351232) (hm : (Lit.int .u8 m).wf = true) :
    Calls Tryd.prog 8 #[.string s, .int .u8 m] w fun e w' => e = .returned (.bool true) ∧ Below w.heap.size w w' :=
  steps_nat s m w hv hs63 (u8_rangeT hm).1 (u8_rangeT hm).2
end Go.Proofs.YtlnmjpacagimnaaDoor
