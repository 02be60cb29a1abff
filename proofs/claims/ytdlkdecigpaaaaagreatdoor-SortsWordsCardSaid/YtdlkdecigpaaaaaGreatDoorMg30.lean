/- The lexer's mark and word. -/
import Derived.Test.YtdlkdecigpaaaaaGreatDoorMg29
namespace Go.Proofs.YtdlkdecigpaaaaaGreatDoor
set_option linter.unusedVariables false
set_option linter.unusedSimpArgs false
open Go.RowKit

theorem byte_cut {s : ByteArray} {k : Nat} (h : k < s.size) : s.extract k (k + 1) = ⟨#[s[k]'h]⟩ := by
  apply bytes_ext
  rw [toList_data, toList_data, Lib.extract_data]
  have hl : k < s.data.toList.length := by rw [Array.length_toList]; exact h
  rw [show k + 1 - k = 1 from by omega, List.drop_eq_getElem_cons hl]
  simp [ByteArray.getElem_eq_getElem_data]
theorem byte_cutS {s : ByteArray} {p : Int} (h0 : 0 ≤ p) (h : p < s.size) : s.extract p.toNat (p + 1).toNat = byteS (bt s p) := by
  have hp : p.toNat < s.size := by omega
  rw [show (p + 1).toNat = p.toNat + 1 from by omega, byte_cut hp]
  unfold byteS
  have := bt_at s p hp
  rw [show (bt s p).toNat.toUInt8 = s[p.toNat]'hp from by rw [← this]; simp]
theorem has_cut {s wd : ByteArray} {j : Int} {k : Nat} (h : k < wd.size) : hasB s j (wd.extract k (k + 1)) = isAt s j (bt wd k) := by
  rw [byte_cut h, has_byte, bt_nat wd k h]
set_option maxRecDepth 20000 in
set_option maxHeartbeats 4000000 in
theorem lmark_any (s : ByteArray) (p : Int) (g h : Nat) (w : World) (hl : Lex s p g w) (ht : TkAt h (Tk.mk 0 ByteArray.empty 0 p 0).cells w) (hgh : g ≠ h) (h0 : 0 ≤ p) (h1 : p < s.size) (hs : s.size ≤ 1000000) :
    Calls Tryz.prog 195 #[.pointer (some ⟨g, 0, none⟩), .pointer (some ⟨h, 0, none⟩)] w (Read s g h (markF s p) w) := by
  have HL := Lib.hid hl
  have HT := Lib.hid ht
  have gc := cell_blk hl
  have gf := frozen_blk hl
  have tc := cell_blk ht
  have tf := frozen_blk ht
  unfold Tk.cells at tc
  have HC := Lib.hid (byte_cutS h0 h1)
  have hgh' : h ≠ g := Ne.symm hgh
  have hp1 : 0 ≤ p + 1 := by omega
  have hp2 : p + 1 ≤ s.size := by omega
  have hp3 : p ≤ p + 1 := by omega
  have hw : IntKind.i64.wrap (p + 1) = p + 1 := by
    rw [IntKind.wrap_i64]; omega
  clear hl ht
  go_enter Tryz.func195, Tryz.ntmps195
  go_upto_region 1 with (fail)
  go_region_held3 (fun W' => W'.cell? ⟨g, 0, none⟩ = some (.string s) ∧ W'.cell? ⟨g, 1, none⟩ = some (.int .i64 p)) (go_keep) (fail)
  all_goals
    go_wp2
    go_ret
    unfold Read markF
    try rw [HC.out]
    refine ⟨rfl, ?_, fun _ => ?_, ?_⟩
    · exact lex_set (hk_set (p := ⟨h, _, none⟩) (hk_set (p := ⟨h, _, none⟩) HL.out hgh _) hgh _)
    · first
      | exact hk_set (p := ⟨g, 1, none⟩) (set_to (set_to HT.out 0 _ rfl) 1 _ rfl) hgh' _
      | exact hk_set (p := ⟨g, 1, none⟩) (set_to (set_to HT.out 1 _ rfl) 0 _ rfl) hgh' _
    · repeat (first | exact Keeps.refl _ _ | refine Keeps.drew ?_ | refine Keeps.set ?_ (.inl (by simp)) _)
/-- The lexer, inside a word. -/
structure WordAt (s : ByteArray) (p : Int) (g h : Nat) (w : World) (j : Int) (W : World) : Prop where
  lex : Lex s j g W
  tok : TkAt h (Tk.mk 0 ByteArray.empty 0 p 0).cells W
  keep : Keeps [g, h] w W
  wrd : W.heap[w.heap.size]? = some (.cells #[.string ⟨#[116, 114, 117, 101]⟩, .string ⟨#[102, 97, 108, 115, 101]⟩, .string ⟨#[110, 117, 108, 108]⟩] 9 (0, 0))
theorem WordAt.step {s : ByteArray} {p : Int} {g h : Nat} {w : World} {j j' : Int} {W W1 : World} (H : WordAt s p g h w j W) (hl : Lex s j' g W1) (k : Keeps [g] W W1) (hgh : g ≠ h) (hg : g < w.heap.size) : WordAt s p g h w j' W1 :=
  ⟨hl, tk_keeps H.tok k (by simpa using Ne.symm hgh), keepsg H.keep k (by simp), k.heap H.wrd (by simp; omega)⟩
theorem WordAt.has {s : ByteArray} {p : Int} {g h : Nat} {w : World} {j : Int} {W : World} (H : WordAt s p g h w j W) (hgh : g ≠ h) (hg : g < w.heap.size) (h0 : 0 ≤ j) {t : ByteArray} {b : Bool} (hb : hasB s j t = b) :
    Calls Tryz.prog 194 #[.pointer (some ⟨g, 0, none⟩), .string t] W fun e w' => e = .returned (.bool b) ∧ WordAt s p g h w j w' :=
  (has_k H.lex h0 hb).mono fun _ _ ⟨a, b, c⟩ => ⟨a, H.step b (c.mono (by simp)) hgh hg⟩
theorem lit_true_tab : ∀ n : Nat, n < 4 → trueL.drop n = bt ⟨#[116, 114, 117, 101]⟩ n :: trueL.drop (n + 1) := by decide +kernel
theorem lit_true (s : ByteArray) (j : Int) (n : Nat) (h : n < 4) : litF s j (trueL.drop n) = if isAt s j (bt ⟨#[116, 114, 117, 101]⟩ n) then litF s (j + 1) (trueL.drop (n + 1)) else j := by rw [lit_true_tab n h]; rfl
theorem lit_false_tab : ∀ n : Nat, n < 5 → falseL.drop n = bt ⟨#[102, 97, 108, 115, 101]⟩ n :: falseL.drop (n + 1) := by decide +kernel
theorem lit_false (s : ByteArray) (j : Int) (n : Nat) (h : n < 5) : litF s j (falseL.drop n) = if isAt s j (bt ⟨#[102, 97, 108, 115, 101]⟩ n) then litF s (j + 1) (falseL.drop (n + 1)) else j := by rw [lit_false_tab n h]; rfl
theorem lit_null_tab : ∀ n : Nat, n < 4 → nullL.drop n = bt ⟨#[110, 117, 108, 108]⟩ n :: nullL.drop (n + 1) := by decide +kernel
theorem lit_null (s : ByteArray) (j : Int) (n : Nat) (h : n < 4) : litF s j (nullL.drop n) = if isAt s j (bt ⟨#[110, 117, 108, 108]⟩ n) then litF s (j + 1) (nullL.drop (n + 1)) else j := by rw [lit_null_tab n h]; rfl
set_option maxRecDepth 20000 in
set_option maxHeartbeats 4000000 in
theorem lword_any (s : ByteArray) (p : Int) (g h : Nat) (w : World) (hl : Lex s p g w) (ht : TkAt h (Tk.mk 0 ByteArray.empty 0 p 0).cells w) (hgh : g ≠ h) (h0 : 0 ≤ p) (h1 : p < s.size) (hs : s.size ≤ 1000000) :
    Calls Tryz.prog 193 #[.pointer (some ⟨g, 0, none⟩), .pointer (some ⟨h, 0, none⟩)] w (Read s g h (wordF s p) w) := by
  have hglt := hk_lt hl
  have hhlt := hk_lt ht
  have H0 : Hid (WordAt s p g h w p (w.alloc (.cells #[.string ⟨#[116, 114, 117, 101]⟩, .string ⟨#[102, 97, 108, 115, 101]⟩, .string ⟨#[110, 117, 108, 108]⟩] 9))) := Lib.hid ⟨hk_alloc hl _, hk_alloc ht _, (Keeps.refl _ _).alloc _, new_blk _ _⟩
  have wc0 := cell_blk H0.out.wrd
  clear hl ht
  go_enter Tryz.func193, Tryz.ntmps193
  go_wp2
  have HX0 := H0
  have hb : ∀ c : Int, isAt s p c = (bt s p == c) := fun c => by simp [isAt, h1]
  have HC0 : Hid (hasB s p ((⟨#[116, 114, 117, 101]⟩ : ByteArray).extract 0 1) = (bt s p == 116)) := Lib.hid ((has_cut (wd := ⟨#[116, 114, 117, 101]⟩) (k := 0) (by decide)).trans (hb _))
  have HC1 : Hid (hasB s p ((⟨#[102, 97, 108, 115, 101]⟩ : ByteArray).extract 0 1) = (bt s p == 102)) := Lib.hid ((has_cut (wd := ⟨#[102, 97, 108, 115, 101]⟩) (k := 0) (by decide)).trans (hb _))
  have HC2 : Hid (hasB s p ((⟨#[110, 117, 108, 108]⟩ : ByteArray).extract 0 1) = (bt s p == 110)) := Lib.hid ((has_cut (wd := ⟨#[110, 117, 108, 108]⟩) (k := 0) (by decide)).trans (hb _))
  clear hb
  by_cases d0 : bt s p = 116
  · have HZ : Hid (wordF s p = wordOf s p trueL 4) := Lib.hid (by unfold wordF; rw [if_pos d0])
    have HT := Lib.hid (HC0.out.trans (show (bt s p == 116) = true from by simp [d0]))
    clear HC0 HC1 HC2 d0
    refine wp_loop_rounds 4 ?_
    rw [rounds_succ]
    go_wp2_with fail
    refine (HX0.out.has hgh hglt h0 (show hasB s p ((⟨#[116, 114, 117, 101]⟩ : ByteArray).extract 0 1) = true from HT.out)).mono ?_
    rintro e' w1 ⟨rfl, hx1⟩
    have HX1 := Lib.hid hx1
    have wc1 := cell_blk HX1.out.wrd
    clear hx1
    go_wp2
    go_loopw [22] (fun k W => ∃ n : Nat, n ≤ 4 ∧ k = .int .i64 n ∧ Hid (WordAt s p g h w (p + n) W ∧ litF s p trueL = litF s (p + n) (trueL.drop n) ∧ p + n ≤ s.size)) (fun k _ => 4 - (intOf k).toNat)
    case atStart => exact ⟨0, by omega, rfl, Lib.hid ⟨by simpa using HX1.out, by simp, by simp; omega⟩⟩
    case round =>
      obtain ⟨n, hn, rfl, H⟩ := hrel
      by_cases hlt : n < 4
      · have HL := Lib.hid (H.out.2.1.trans (lit_true s (p + n) n hlt))
        have HB := Lib.hid (has_cut (s := s) (wd := ⟨#[116, 114, 117, 101]⟩) (j := p + n) (k := n) hlt)
        have hnI : (n : Int) < 4 := by omega
        have hp0 : 0 ≤ p + (n : Int) := by omega
        have hpn := H.out.2.2
        cases c : isAt s (p + n) (bt ⟨#[116, 114, 117, 101]⟩ n) with
        | true =>
          have HO := Lib.hid (one_kyes H.out.1.lex hp0 hs (HB.out.trans c))
          have hlt2 := isAt_lt c
          have HL2 := Lib.hid (HL.out.trans (by rw [c, if_pos rfl]))
          clear c
          go_wp2_with (go_at_call 201; refine HO.out.mono ?_; rintro e' wx ⟨rfl, hlx, hkx⟩; have HXX := Lib.hid (H.out.1.step hlx hkx hgh hglt); clear hlx hkx)
          go_roundw
          case rel => exact ⟨n + 1, by omega, by go_num, Lib.hid ⟨by have := HXX.out; rw [show p + ((n + 1 : Nat) : Int) = p + n + 1 from by omega]; exact this, by rw [show p + ((n + 1 : Nat) : Int) = p + n + 1 from by omega]; exact HL2.out, by omega⟩⟩
          case measure => simp [intOf]; omega
        | false =>
          have HO := Lib.hid (one_kno H.out.1.lex hp0 (HB.out.trans c))
          have HZ2 : Hid (wordF s p = (Tk.zero, p + n, 1)) := Lib.hid (by
            have hh : litF s p trueL = p + n := HL.out.trans (by rw [c]; rfl)
            rw [HZ.out]; unfold wordOf; rw [hh, if_neg (by omega)])
          clear c HL
          go_wp2_with (go_at_call 201; refine HO.out.mono ?_; rintro e' wx ⟨rfl, hlx, hkx⟩; have HXX := Lib.hid (H.out.1.step hlx (hkx.mono (by simp)) hgh hglt); clear hlx hkx)
          go_ret
          rw [HZ2.out]
          exact ⟨rfl, HXX.out.lex, fun h => by simp at h, HXX.out.keep⟩
      · obtain rfl : n = 4 := by omega
        have HZ2 : Hid (wordF s p = (⟨4, ByteArray.empty, 0, p, p + 4⟩, 0, 0)) := Lib.hid (by have hh : litF s p trueL = -1 := H.out.2.1.trans rfl; rw [HZ.out]; unfold wordOf; rw [hh, if_pos (by omega)]; rfl)
        have tc := cell_blk H.out.1.tok
        have tf := frozen_blk H.out.1.tok
        unfold Tk.cells at tc
        go_wp2
        go_ret
        rw [HZ2.out]
        exact ⟨rfl, hk_set H.out.1.lex (p := ⟨h, 0, none⟩) hgh _, fun _ => set_to H.out.1.tok 0 _ rfl, H.out.1.keep.set (.inl (by simp)) _⟩
  · by_cases d1 : bt s p = 102
    · have HZ : Hid (wordF s p = wordOf s p falseL 5) := Lib.hid (by unfold wordF; rw [if_neg d0, if_pos d1])
      have HF0 := Lib.hid (HC0.out.trans (show (bt s p == 116) = false from by simp [d0]))
      have HT := Lib.hid (HC1.out.trans (show (bt s p == 102) = true from by simp [d1]))
      clear HC0 HC1 HC2 d0 d1
      refine wp_loop_rounds 4 ?_
      rw [rounds_succ]
      go_wp2_with fail
      refine (HX0.out.has hgh hglt h0 (show hasB s p ((⟨#[116, 114, 117, 101]⟩ : ByteArray).extract 0 1) = false from HF0.out)).mono ?_
      rintro e' w1 ⟨rfl, hx1⟩
      have HX1 := Lib.hid hx1
      have wc1 := cell_blk HX1.out.wrd
      clear hx1
      go_wp2_with fail
      rw [rounds_succ]
      go_wp2_with fail
      refine (HX1.out.has hgh hglt h0 (show hasB s p ((⟨#[102, 97, 108, 115, 101]⟩ : ByteArray).extract 0 1) = true from HT.out)).mono ?_
      rintro e' w2 ⟨rfl, hx2⟩
      have HX2 := Lib.hid hx2
      have wc2 := cell_blk HX2.out.wrd
      clear hx2
      go_wp2
      go_loopw [22] (fun k W => ∃ n : Nat, n ≤ 5 ∧ k = .int .i64 n ∧ Hid (WordAt s p g h w (p + n) W ∧ litF s p falseL = litF s (p + n) (falseL.drop n) ∧ p + n ≤ s.size)) (fun k _ => 5 - (intOf k).toNat)
      case atStart => exact ⟨0, by omega, rfl, Lib.hid ⟨by simpa using HX2.out, by simp, by simp; omega⟩⟩
      case round =>
        obtain ⟨n, hn, rfl, H⟩ := hrel
        by_cases hlt : n < 5
        · have HL := Lib.hid (H.out.2.1.trans (lit_false s (p + n) n hlt))
          have HB := Lib.hid (has_cut (s := s) (wd := ⟨#[102, 97, 108, 115, 101]⟩) (j := p + n) (k := n) hlt)
          have hnI : (n : Int) < 5 := by omega
          have hp0 : 0 ≤ p + (n : Int) := by omega
          have hpn := H.out.2.2
          cases c : isAt s (p + n) (bt ⟨#[102, 97, 108, 115, 101]⟩ n) with
          | true =>
            have HO := Lib.hid (one_kyes H.out.1.lex hp0 hs (HB.out.trans c))
            have hlt2 := isAt_lt c
            have HL2 := Lib.hid (HL.out.trans (by rw [c, if_pos rfl]))
            clear c
            go_wp2_with (go_at_call 201; refine HO.out.mono ?_; rintro e' wx ⟨rfl, hlx, hkx⟩; have HXX := Lib.hid (H.out.1.step hlx hkx hgh hglt); clear hlx hkx)
            go_roundw
            case rel => exact ⟨n + 1, by omega, by go_num, Lib.hid ⟨by have := HXX.out; rw [show p + ((n + 1 : Nat) : Int) = p + n + 1 from by omega]; exact this, by rw [show p + ((n + 1 : Nat) : Int) = p + n + 1 from by omega]; exact HL2.out, by omega⟩⟩
            case measure => simp [intOf]; omega
          | false =>
            have HO := Lib.hid (one_kno H.out.1.lex hp0 (HB.out.trans c))
            have HZ2 : Hid (wordF s p = (Tk.zero, p + n, 1)) := Lib.hid (by
              have hh : litF s p falseL = p + n := HL.out.trans (by rw [c]; rfl)
              rw [HZ.out]; unfold wordOf; rw [hh, if_neg (by omega)])
            clear c HL
            go_wp2_with (go_at_call 201; refine HO.out.mono ?_; rintro e' wx ⟨rfl, hlx, hkx⟩; have HXX := Lib.hid (H.out.1.step hlx (hkx.mono (by simp)) hgh hglt); clear hlx hkx)
            go_ret
            rw [HZ2.out]
            exact ⟨rfl, HXX.out.lex, fun h => by simp at h, HXX.out.keep⟩
        · obtain rfl : n = 5 := by omega
          have HZ2 : Hid (wordF s p = (⟨5, ByteArray.empty, 0, p, p + 5⟩, 0, 0)) := Lib.hid (by have hh : litF s p falseL = -1 := H.out.2.1.trans rfl; rw [HZ.out]; unfold wordOf; rw [hh, if_pos (by omega)]; rfl)
          have tc := cell_blk H.out.1.tok
          have tf := frozen_blk H.out.1.tok
          unfold Tk.cells at tc
          go_wp2
          go_ret
          rw [HZ2.out]
          exact ⟨rfl, hk_set H.out.1.lex (p := ⟨h, 0, none⟩) hgh _, fun _ => set_to H.out.1.tok 0 _ rfl, H.out.1.keep.set (.inl (by simp)) _⟩
    · by_cases d2 : bt s p = 110
      · have HZ : Hid (wordF s p = wordOf s p nullL 6) := Lib.hid (by unfold wordF; rw [if_neg d0, if_neg d1, if_pos d2])
        have HF0 := Lib.hid (HC0.out.trans (show (bt s p == 116) = false from by simp [d0]))
        have HF1 := Lib.hid (HC1.out.trans (show (bt s p == 102) = false from by simp [d1]))
        have HT := Lib.hid (HC2.out.trans (show (bt s p == 110) = true from by simp [d2]))
        clear HC0 HC1 HC2 d0 d1 d2
        refine wp_loop_rounds 4 ?_
        rw [rounds_succ]
        go_wp2_with fail
        refine (HX0.out.has hgh hglt h0 (show hasB s p ((⟨#[116, 114, 117, 101]⟩ : ByteArray).extract 0 1) = false from HF0.out)).mono ?_
        rintro e' w1 ⟨rfl, hx1⟩
        have HX1 := Lib.hid hx1
        have wc1 := cell_blk HX1.out.wrd
        clear hx1
        go_wp2_with fail
        rw [rounds_succ]
        go_wp2_with fail
        refine (HX1.out.has hgh hglt h0 (show hasB s p ((⟨#[102, 97, 108, 115, 101]⟩ : ByteArray).extract 0 1) = false from HF1.out)).mono ?_
        rintro e' w2 ⟨rfl, hx2⟩
        have HX2 := Lib.hid hx2
        have wc2 := cell_blk HX2.out.wrd
        clear hx2
        go_wp2_with fail
        rw [rounds_succ]
        go_wp2_with fail
        refine (HX2.out.has hgh hglt h0 (show hasB s p ((⟨#[110, 117, 108, 108]⟩ : ByteArray).extract 0 1) = true from HT.out)).mono ?_
        rintro e' w3 ⟨rfl, hx3⟩
        have HX3 := Lib.hid hx3
        have wc3 := cell_blk HX3.out.wrd
        clear hx3
        go_wp2
        go_loopw [22] (fun k W => ∃ n : Nat, n ≤ 4 ∧ k = .int .i64 n ∧ Hid (WordAt s p g h w (p + n) W ∧ litF s p nullL = litF s (p + n) (nullL.drop n) ∧ p + n ≤ s.size)) (fun k _ => 4 - (intOf k).toNat)
        case atStart => exact ⟨0, by omega, rfl, Lib.hid ⟨by simpa using HX3.out, by simp, by simp; omega⟩⟩
        case round =>
          obtain ⟨n, hn, rfl, H⟩ := hrel
          by_cases hlt : n < 4
          · have HL := Lib.hid (H.out.2.1.trans (lit_null s (p + n) n hlt))
            have HB := Lib.hid (has_cut (s := s) (wd := ⟨#[110, 117, 108, 108]⟩) (j := p + n) (k := n) hlt)
            have hnI : (n : Int) < 4 := by omega
            have hp0 : 0 ≤ p + (n : Int) := by omega
            have hpn := H.out.2.2
            cases c : isAt s (p + n) (bt ⟨#[110, 117, 108, 108]⟩ n) with
            | true =>
              have HO := Lib.hid (one_kyes H.out.1.lex hp0 hs (HB.out.trans c))
              have hlt2 := isAt_lt c
              have HL2 := Lib.hid (HL.out.trans (by rw [c, if_pos rfl]))
              clear c
              go_wp2_with (go_at_call 201; refine HO.out.mono ?_; rintro e' wx ⟨rfl, hlx, hkx⟩; have HXX := Lib.hid (H.out.1.step hlx hkx hgh hglt); clear hlx hkx)
              go_roundw
              case rel => exact ⟨n + 1, by omega, by go_num, Lib.hid ⟨by have := HXX.out; rw [show p + ((n + 1 : Nat) : Int) = p + n + 1 from by omega]; exact this, by rw [show p + ((n + 1 : Nat) : Int) = p + n + 1 from by omega]; exact HL2.out, by omega⟩⟩
              case measure => simp [intOf]; omega
            | false =>
              have HO := Lib.hid (one_kno H.out.1.lex hp0 (HB.out.trans c))
              have HZ2 : Hid (wordF s p = (Tk.zero, p + n, 1)) := Lib.hid (by
                have hh : litF s p nullL = p + n := HL.out.trans (by rw [c]; rfl)
                rw [HZ.out]; unfold wordOf; rw [hh, if_neg (by omega)])
              clear c HL
              go_wp2_with (go_at_call 201; refine HO.out.mono ?_; rintro e' wx ⟨rfl, hlx, hkx⟩; have HXX := Lib.hid (H.out.1.step hlx (hkx.mono (by simp)) hgh hglt); clear hlx hkx)
              go_ret
              rw [HZ2.out]
              exact ⟨rfl, HXX.out.lex, fun h => by simp at h, HXX.out.keep⟩
          · obtain rfl : n = 4 := by omega
            have HZ2 : Hid (wordF s p = (⟨6, ByteArray.empty, 0, p, p + 4⟩, 0, 0)) := Lib.hid (by have hh : litF s p nullL = -1 := H.out.2.1.trans rfl; rw [HZ.out]; unfold wordOf; rw [hh, if_pos (by omega)]; rfl)
            have tc := cell_blk H.out.1.tok
            have tf := frozen_blk H.out.1.tok
            unfold Tk.cells at tc
            go_wp2
            go_ret
            rw [HZ2.out]
            exact ⟨rfl, hk_set H.out.1.lex (p := ⟨h, 0, none⟩) hgh _, fun _ => set_to H.out.1.tok 0 _ rfl, H.out.1.keep.set (.inl (by simp)) _⟩
      · have HZ : Hid (wordF s p = (Tk.zero, p, 1)) := Lib.hid (by unfold wordF; rw [if_neg d0, if_neg d1, if_neg d2])
        have HF0 := Lib.hid (HC0.out.trans (show (bt s p == 116) = false from by simp [d0]))
        have HF1 := Lib.hid (HC1.out.trans (show (bt s p == 102) = false from by simp [d1]))
        have HF2 := Lib.hid (HC2.out.trans (show (bt s p == 110) = false from by simp [d2]))
        clear HC0 HC1 HC2 d0 d1 d2
        refine wp_loop_rounds 4 ?_
        rw [rounds_succ]
        go_wp2_with fail
        refine (HX0.out.has hgh hglt h0 (show hasB s p ((⟨#[116, 114, 117, 101]⟩ : ByteArray).extract 0 1) = false from HF0.out)).mono ?_
        rintro e' w1 ⟨rfl, hx1⟩
        have HX1 := Lib.hid hx1
        have wc1 := cell_blk HX1.out.wrd
        clear hx1
        go_wp2_with fail
        rw [rounds_succ]
        go_wp2_with fail
        refine (HX1.out.has hgh hglt h0 (show hasB s p ((⟨#[102, 97, 108, 115, 101]⟩ : ByteArray).extract 0 1) = false from HF1.out)).mono ?_
        rintro e' w2 ⟨rfl, hx2⟩
        have HX2 := Lib.hid hx2
        have wc2 := cell_blk HX2.out.wrd
        clear hx2
        go_wp2_with fail
        rw [rounds_succ]
        go_wp2_with fail
        refine (HX2.out.has hgh hglt h0 (show hasB s p ((⟨#[110, 117, 108, 108]⟩ : ByteArray).extract 0 1) = false from HF2.out)).mono ?_
        rintro e' w3 ⟨rfl, hx3⟩
        have HX3 := Lib.hid hx3
        have wc3 := cell_blk HX3.out.wrd
        clear hx3
        go_wp2_with fail
        rw [rounds_succ]
        go_wp2
        go_ret
        rw [HZ.out]
        exact ⟨rfl, HX3.out.lex, fun h => by simp at h, HX3.out.keep⟩
end Go.Proofs.YtdlkdecigpaaaaaGreatDoor
