/- CorpusNames: for every text the law answers true. -/
import Derived.Test.YtbajghjdnjodmaaCorpusPut
namespace Go.Proofs.Ytbajghjdnjodmaa
set_option linter.unusedVariables false
set_option linter.unusedSimpArgs false
open Go.RowKit

theorem wordAt_isName (s : ByteArray) : isNameB s = (decide (s.size ≠ 0) && (decide (wordAt s 0 = s) && (wordAtEnd s 0 == (s.size : Int)))) := by
  by_cases hz : s.size = 0
  · simp [isNameB_nil hz, hz]
  · have hb0 : 0 ≤ blanks s 0 := upTo_ge
    have hbl : blanks s 0 ≤ s.size := upTo_le (by omega) (by omega)
    by_cases hl : letterAt s 0 = true
    · have hnb : isBlank s 0 = false := by
        have h0 : (0 : Int) < s.size := letterAt_lt hl
        simp only [letterAt, h0, decide_true, Bool.true_and, letterB, decide_eq_true_eq] at hl
        simp [isBlank, isAt]
        omega
      have hb : blanks s 0 = 0 := upTo_stop hnb
      have he0 : 0 ≤ wordEnd s 0 := upTo_ge
      have he : wordEnd s 0 ≤ s.size := upTo_le (by omega) (by omega)
      have hw : wordAt s 0 = s.extract 0 (wordEnd s 0).toNat := by simp [wordAt, hb, hl]
      have hwe : wordAtEnd s 0 = wordEnd s 0 := by simp [wordAtEnd, hb, hl]
      rw [hw, hwe, isNameB, hl]
      by_cases hq : wordEnd s 0 = s.size
      · rw [hq]; simp [hz]
      · simp [hz, hq]
    · have hl' : letterAt s 0 = false := by simpa using hl
      rw [isNameB_first hl']
      by_cases hlb : letterAt s (blanks s 0) = true
      · have hne : blanks s 0 ≠ 0 := fun e => hl (e ▸ hlb)
        have he : wordEnd s (blanks s 0) ≤ s.size := upTo_le hb0 hbl
        have hw : wordAt s 0 ≠ s := by
          intro h
          have : (wordAt s 0).size = s.size := by rw [h]
          rw [wordAt, if_pos hlb, ByteArray.size_extract] at this
          omega
        simp [hw]
      · have hw : wordAt s 0 ≠ s := by
          intro h
          have : (wordAt s 0).size = s.size := by rw [h]
          rw [wordAt, if_neg hlb] at this
          exact hz this.symm
        simp [hw]
set_option maxHeartbeats 1000000 in
theorem isname24_any (s : ByteArray) (w : World) (hs : s.size ≤ 9223372036854775807) :
    Calls Try.prog 13 #[.string s] w fun e w' => e = .returned (.bool (isNameB s)) ∧ w = w' := by
  have HR := Lib.hid (wordAt_isName s)
  generalize isNameB s = r at *
  by_cases hz : s.size = 0
  · have e : s.toList = [] := toList_nil hz
    have HZ := Lib.hid hz
    clear hz
    go_enter Try.func13, Try.ntmps13
    go_wp2_with (first | (go_at_call 30; refine (word_any _ _ _ (by omega) ‹_›).mono ?_; rintro e w' ⟨rfl, rfl⟩))
    go_ret
    exact ⟨ret_bool (by rw [HR.out, HZ.out]; simp), rfl⟩
  · have e : s.toList.isEmpty = false := toList_ne hz
    have HZ := Lib.hid hz
    clear hz
    by_cases hw : wordAt s 0 = s
    · have hw2 := str_beq hw
      have HW := Lib.hid hw
      clear hw
      go_enter Try.func13, Try.ntmps13
      go_wp2_with (first | (go_at_call 30; refine (word_any _ _ _ (by omega) ‹_›).mono ?_; rintro e w' ⟨rfl, rfl⟩))
      go_ret
      exact ⟨ret_bool (by rw [HR.out, HW.out]; simp [HZ.out]), rfl⟩
    · have hw2 := str_bne hw
      have HW := Lib.hid hw
      clear hw
      go_enter Try.func13, Try.ntmps13
      go_wp2_with (first | (go_at_call 30; refine (word_any _ _ _ (by omega) ‹_›).mono ?_; rintro e w' ⟨rfl, rfl⟩))
      go_ret
      exact ⟨ret_bool (by rw [HR.out]; simp [HZ.out, HW.out]), rfl⟩

abbrev e0 : Value := flatV 0 false 0 ⟨#[]⟩ false ⟨#[]⟩
theorem name_a : isNameB ⟨#[97]⟩ = true := by decide +kernel
theorem corpus_blk (w : World) : ((w.alloc (.map #[] 0)).alloc (.cells #[.map (some w.heap.size)] 69)).heap[w.heap.size + 1]? = some (.cells #[.map (some w.heap.size)] 69 (0, 0)) := by
  have := new_blk (w.alloc (.map #[] 0)) (.cells #[.map (some w.heap.size)] 69)
  rw [World.size_alloc] at this; exact this
theorem corpus_map (w : World) : ((w.alloc (.map #[] 0)).alloc (.cells #[.map (some w.heap.size)] 69)).heap[w.heap.size]? = some (.map (ents []) 0) := hk_alloc (new_blk _ _) _
theorem corpus_below (w : World) : Below w.heap.size w ((w.alloc (.map #[] 0)).alloc (.cells #[.map (some w.heap.size)] 69)) := bl_alloc (bl_alloc (Below.refl _ _) _) _
theorem grown_below {w W w1 : World} {m : Nat} (h : Below w.heap.size w W) (hm : w.heap.size ≤ m) (hg : W.grownBy w1 (some m)) : Below w.heap.size w w1 := h.grown hg h.size (fun k e => by cases e; exact hm)
theorem grown_blk {W w1 : World} {g m : Nat} {o : Obj} (h : W.heap[g]? = some o) (hne : g ≠ m) (hg : W.grownBy w1 (some m)) : w1.heap[g]? = some o := (hg.block g (hk_lt h) (by simpa using hne)).trans h
set_option maxRecDepth 20000 in
set_option maxHeartbeats 1000000 in
theorem awake24_any (w : World) : Calls Try.prog 9 #[] w fun e w' => e = .returned (.bool true) ∧ Below w.heap.size w w' := by
  have hna := name_a
  go_enter Try.func9, Try.ntmps9
  go_wp2_with (first | (go_at_call 10; refine (cnew_any _).mono ?_; rintro e w' ⟨rfl, rfl⟩))
  have hput := put_ok (w.heap.size + 1) w.heap.size 0 [] ⟨#[97]⟩ 0 false 0 ⟨#[]⟩ false ⟨#[]⟩ false 0 false 0 ⟨#[]⟩ false ⟨#[]⟩ _ (corpus_blk w) (corpus_map w) (by decide) (lookF_none rfl) name_a (.inr (by decide))
  have HP := Lib.hid hput
  clear hput
  go_wp2_with (go_at_call 11; refine HP.out.mono ?_; rintro e w1 ⟨rfl, h1, hg1⟩; have hm1 : w1.heap[w.heap.size]? = some (.map (ents [(⟨#[97]⟩, e0, 0)]) 1) := h1; have hc1 := cell_blk (grown_blk (corpus_blk w) (by omega) hg1); have HG := Lib.hid hg1; clear h1 hg1)
  go_wp2_with (first | (go_at_call 14; refine (clen_any _ _ _ _ _ (by rw [hc1]; rfl) hm1).mono ?_; rintro e w' ⟨rfl, rfl⟩) | (go_at_call 12; refine (isname_any _ _ (by decide)).mono ?_; rintro e w' ⟨rfl, rfl⟩))
  go_ret
  exact ⟨rfl, grown_below (corpus_below w) (Nat.le_refl _) HG.out⟩
set_option maxRecDepth 20000 in
set_option maxHeartbeats 1000000 in
theorem names_walk (s : ByteArray) (w : World) (hs : s.size ≤ 140737488351232) :
    Calls Try.prog 3 #[.string s] w fun e w' => e = .returned (.bool true) ∧ Below w.heap.size w w' := by
  have hsz : s.size ≤ 9223372036854775807 := by omega
  by_cases hl : 60 < s.size
  · go_enter Try.func3, Try.ntmps3
    go_wp2_with fail
    refine (awake24_any _).mono ?_
    rintro e w1 ⟨rfl, hb1⟩
    go_wp2_with fail
    refine (awake24_any _).mono ?_
    rintro e w2 ⟨rfl, hb2⟩
    go_wp2_with fail
    go_ret
    exact ⟨rfl, bl_step hb1 hb2⟩
  · cases hn : isNameB s
    · go_enter Try.func3, Try.ntmps3
      go_wp2_with fail
      refine (awake24_any _).mono ?_
      rintro e w1 ⟨rfl, hb1⟩
      have HB1 := Lib.hid hb1
      clear hb1
      go_wp2_with fail
      refine (cnew_any _).mono ?_
      rintro e w' ⟨rfl, rfl⟩
      go_wp2_with fail
      refine (put_form (w1.heap.size + 1) w1.heap.size 0 [] s 0 false 0 ⟨#[]⟩ false ⟨#[]⟩ false 0 false 0 ⟨#[]⟩ false ⟨#[]⟩ _ (corpus_blk w1) (corpus_map w1) hsz (lookF_none rfl) hn).mono ?_
      rintro e w2 ⟨rfl, hb2⟩
      have HB2 := Lib.hid hb2
      clear hb2
      go_wp2_with (first | (go_at_call 12; refine (isname_any _ _ ‹_›).mono ?_; rintro e w' ⟨rfl, rfl⟩) | (go_at_call 13; refine (isname24_any _ _ ‹_›).mono ?_; rintro e w' ⟨rfl, rfl⟩))
      go_ret
      exact ⟨rfl, bl_step HB1.out (bl_step (corpus_below w1) HB2.out)⟩
    · go_enter Try.func3, Try.ntmps3
      go_wp2_with fail
      refine (awake24_any _).mono ?_
      rintro e w1 ⟨rfl, hb1⟩
      have HB1 := Lib.hid hb1
      clear hb1
      go_wp2_with fail
      refine (cnew_any _).mono ?_
      rintro e w' ⟨rfl, rfl⟩
      go_wp2_with fail
      refine (put_ok (w1.heap.size + 1) w1.heap.size 0 [] s 0 false 0 ⟨#[]⟩ false ⟨#[]⟩ false 0 false 0 ⟨#[]⟩ false ⟨#[]⟩ _ (corpus_blk w1) (corpus_map w1) hsz (lookF_none rfl) hn (.inr (by decide))).mono ?_
      rintro e w2 ⟨rfl, _, hb2⟩
      have HB2 := Lib.hid hb2
      clear hb2
      go_wp2_with (first | (go_at_call 12; refine (isname_any _ _ ‹_›).mono ?_; rintro e w' ⟨rfl, rfl⟩) | (go_at_call 13; refine (isname24_any _ _ ‹_›).mono ?_; rintro e w' ⟨rfl, rfl⟩))
      go_ret
      exact ⟨rfl, bl_step HB1.out (grown_below (corpus_below w1) (Nat.le_refl _) HB2.out)⟩
end Go.Proofs.Ytbajghjdnjodmaa
