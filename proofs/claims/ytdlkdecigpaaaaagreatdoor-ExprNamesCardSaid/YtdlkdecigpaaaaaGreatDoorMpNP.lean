/- Names, and what a text that is one is parsed to. -/
import Derived.Test.YtdlkdecigpaaaaaGreatDoorMpSK
import Derived.Test.YtdlkdecigpaaaaaGreatDoorMp27
import Derived.Test.YtdlkdecigpaaaaaGreatDoorMp30
import Derived.Test.YtdlkdecigpaaaaaGreatDoorMp26
namespace Go.Proofs.YtdlkdecigpaaaaaGreatDoor
set_option linter.unusedVariables false
set_option linter.unusedSimpArgs false
open Go.RowKit

/-- Is a text a name? -/
def nameE (s : ByteArray) : Bool := decide (wordAt s 0 = s) && (decide (s ≠ eS) && !resB s)
section
variable {s : ByteArray}
theorem name_at (h : wordAt s 0 = s) (hne : s ≠ eS) : blanks s 0 = 0 ∧ wordAtEnd s 0 = s.size ∧ letterAt s 0 = true := by
  have hb := blanks_ge s 0
  have hp := word_pos (Int.le_refl 0) (by rw [h]; exact hne)
  unfold wordAt at h
  unfold wordAtEnd at hp ⊢
  cases hl : letterAt s (blanks s 0) with
  | false => rw [hl] at h; exact absurd h.symm (by simpa using hne)
  | true =>
    rw [hl, if_pos rfl] at h hp
    rw [if_pos rfl]
    have hsz := congrArg ByteArray.size h
    rw [ByteArray.size_extract] at hsz
    have e : blanks s 0 = 0 := by omega
    rw [e] at hl
    exact ⟨e, by omega, hl⟩
theorem letter_no {c : Int} (h : letterAt s 0 = true) (hc : letterB c = false) : isAt s 0 c = false := by
  cases hh : isAt s 0 c with
  | false => rfl
  | true =>
    unfold letterAt at h
    unfold isAt at hh
    rw [Bool.and_eq_true] at h hh
    have : bt s 0 = c := by simpa using hh.2
    rw [this] at h
    rw [hc] at h
    exact absurd h.2 (by decide)
theorem name_par (h : nameE s = true) : Par s (.lev 0) 0 (.ok (.mk varS s VT.zero []) s.size) := by
  unfold nameE at h
  rw [Bool.and_eq_true, Bool.and_eq_true, decide_eq_true_eq, decide_eq_true_eq, Bool.not_eq_true'] at h
  obtain ⟨h1, h2, h3⟩ := h
  obtain ⟨hb, he, hl⟩ := name_at h1 h2
  have hr : memL s resL = false ∧ argsN s = 0 := by
    unfold resB at h3
    rw [Bool.or_eq_false_iff, decide_eq_false_iff_not] at h3
    exact ⟨h3.1, by omega⟩
  have hm : ∀ t ∈ resL, s ≠ t := fun t ht e => by
    have := memL_iff.2 (e ▸ ht : s ∈ resL)
    rw [hr.1] at this
    exact absurd this (by decide)
  have hd : digitAt s (blanks s 0) = false := by
    rw [hb]
    cases hh : digitAt s 0 with
    | false => rfl
    | true =>
      unfold letterAt letterB at hl
      unfold digitAt digitB at hh
      simp only [Bool.and_eq_true, decide_eq_true_eq] at hl hh
      omega
  have hmk : ∀ c : UInt8, letterB c.toNat = false → markAt s 0 ⟨#[c]⟩ < 0 := fun c hc => Int.not_le.1 fun hx => by
    have := (mark_iff1 (Int.le_refl 0)).1 hx
    rw [hb, letter_no hl hc] at this
    exact absurd this (by decide)
  have hw : wordR s 0 = .ok (.mk varS s VT.zero []) s.size := by
    unfold wordR
    rw [h1, he, if_neg (hm _ (by simp [resL])), if_neg (hm _ (by simp [resL])), if_neg (hm _ (by simp [resL])), if_neg (hm _ (by simp [resL])), if_neg]
    rintro (e | e)
    · exact h2 e
    · rw [hr.1] at e; exact absurd e (by decide)
  refine par_alone ?_ (hmk 45 (by decide)) (by rw [h1]; exact hm _ (by simp [resL]))
  have := Par.one_word (s := s) (i := 0) hd (by rw [hb]; exact letter_no hl (by decide)) (hmk 40 (by decide)) (by rw [h1]; exact hr.2)
  rw [hw] at this
  exact this
theorem name_parse (h : nameE s = true) : parseR s (.ok (.mk varS s VT.zero []) s.size) = (.mk varS s VT.zero [], 0, 0) := by
  simp only [parseR]
  rw [blanks_end, if_neg (Int.lt_irrefl _), if_neg (by show ¬ 32 < 1; decide)]
end
def stopL : List ByteArray := [eS, orS, andS, notS, trueS, falseS, nullS, thisS]
theorem stop_mem {v : ByteArray} : v ∈ stopL ↔ v = eS ∨ memL v resL = true := by
  rw [memL_iff]
  simp [stopL, resL]
theorem nameE_no {s v : ByteArray} (hv : wordAt s 0 = v) (h : v ∈ stopL) : nameE s = false := by
  unfold nameE
  rw [hv]
  by_cases e : v = s
  · subst e
    rcases stop_mem.1 h with h | h
    · rw [h]; rfl
    · unfold resB; rw [h]; simp
  · rw [decide_eq_false e]; rfl
theorem nameE_or {s v : ByteArray} (hv : wordAt s 0 = v) (h : v ∉ stopL) : nameE s = (decide (v = s) && ((argsN v : Int) == 0)) := by
  unfold nameE
  rw [hv]
  by_cases e : v = s
  · subst e
    have h1 : v ≠ eS := fun e => h (stop_mem.2 (.inl e))
    have h2 : memL v resL = false := by
      cases hm : memL v resL with
      | false => rfl
      | true => exact absurd (stop_mem.2 (.inr hm)) h
    unfold resB
    rw [h2, decide_eq_true (show v ≠ eS from h1), decide_eq_true rfl, Bool.eq_iff_iff]
    simp
  · rw [decide_eq_false e]; rfl
theorem bneL {v t : ByteArray} {l : List UInt8} (ht : t.data.toList = l) (h : v ≠ t) : (v.toList == l) = false := by
  rw [← ht, ← toList_data]; exact str_bne h
theorem size_nil {v : ByteArray} (h : v.size = 0) : v = eS := bytes_ext ((toList_nil h).trans (toList_nil rfl).symm)
section
variable (s : ByteArray) (w : World)
set_option maxRecDepth 20000 in
set_option maxHeartbeats 1000000 in
theorem eisname_any (hs : s.size ≤ 1000000) : Calls Tryz.prog 33 #[.string s] w fun e w' => e = .returned (.bool (nameE s)) ∧ Keeps [] w w' := by
  have HW := Lib.hid (fun (W : World) (h : PAt s 0 0 0 w.heap.size W) => eword_any s 0 0 0 w.heap.size W h (Int.le_refl 0) (by omega) hs)
  have HA := Lib.hid (fun (W : World) => earity_any (wordAt s 0) W)
  have HP0 : Hid (PAt s 0 0 0 w.heap.size (w.alloc (.cells #[.string s, .int .i64 0, .int .i64 0, .int .i64 0] 97))) := Lib.hid (new_blk _ _)
  by_cases hv : wordAt s 0 ∈ stopL
  · have HR := Lib.hid (nameE_no rfl hv)
    generalize nameE s = r at *
    generalize wordAt s 0 = v at *
    have hv2 := hv
    simp only [stopL, List.mem_cons, List.not_mem_nil, or_false] at hv2
    clear hv
    rcases hv2 with rfl | rfl | rfl | rfl | rfl | rfl | rfl | rfl
    all_goals
      go_enter Tryz.func33, Tryz.ntmps33
      go_wp2_with (go_at_call 57; refine (HW.out _ HP0.out).mono ?_; rintro e' w2 ⟨rfl, nq, rfl⟩)
      go_ret
      exact ⟨ret_bool HR.out.symm, ((Keeps.refl _ _).alloc _).drewN _⟩
  · have HR := Lib.hid (nameE_or rfl hv)
    generalize nameE s = r at *
    generalize wordAt s 0 = v at *
    have hne : ∀ t ∈ stopL, v ≠ t := fun t ht e => hv (e ▸ ht)
    have h0 : (v.toList == []) = false := bneL (t := eS) rfl (hne eS (by simp [stopL]))
    have h0b : v.toList.isEmpty = false := toList_ne (fun e => hne eS (by simp [stopL]) (size_nil e))
    have h0c : ¬ v.toList = [] := fun e => hne eS (by simp [stopL]) (bytes_ext (e.trans (toList_nil rfl).symm))
    have h1 : (v.toList == [111, 114]) = false := bneL (t := orS) rfl (hne orS (by simp [stopL]))
    have h2 : (v.toList == [97, 110, 100]) = false := bneL (t := andS) rfl (hne andS (by simp [stopL]))
    have h3 : (v.toList == [110, 111, 116]) = false := bneL (t := notS) rfl (hne notS (by simp [stopL]))
    have h4 : (v.toList == [116, 114, 117, 101]) = false := bneL (t := trueS) rfl (hne trueS (by simp [stopL]))
    have h5 : (v.toList == [102, 97, 108, 115, 101]) = false := bneL (t := falseS) rfl (hne falseS (by simp [stopL]))
    have h6 : (v.toList == [110, 117, 108, 108]) = false := bneL (t := nullS) rfl (hne nullS (by simp [stopL]))
    have h7 : (v.toList == [116, 104, 105, 115]) = false := bneL (t := thisS) rfl (hne thisS (by simp [stopL]))
    clear hne hv
    by_cases e : v = s
    · subst e
      go_enter Tryz.func33, Tryz.ntmps33
      go_wp2_with fail
      refine (HW.out _ HP0.out).mono ?_
      rintro e' w2 ⟨rfl, nq, rfl⟩
      go_wp2_with fail
      refine (HA.out _).mono ?_
      rintro e' w3 ⟨rfl, rfl⟩
      go_wp2_with fail
      go_ret
      exact ⟨ret_bool (by rw [HR.out]; simp), ((Keeps.refl _ _).alloc _).drewN _⟩
    · have he : (v.toList == s.toList) = false := str_bne e
      go_enter Tryz.func33, Tryz.ntmps33
      go_wp2_with (go_at_call 57; refine (HW.out _ HP0.out).mono ?_; rintro e' w2 ⟨rfl, nq, rfl⟩)
      go_ret
      exact ⟨ret_bool (by rw [HR.out, decide_eq_false e]; rfl), ((Keeps.refl _ _).alloc _).drewN _⟩
set_option maxRecDepth 20000 in
set_option maxHeartbeats 1000000 in
theorem risname_any (hs : s.size ≤ 1000000) : Calls Tryz.prog 34 #[.string s] w fun e w' => e = .returned (.bool (nameE s)) ∧ w = w' := by
  have HW := Lib.hid (fun (W : World) => word_any s 0 W (Int.le_refl 0) (by omega))
  have HR := Lib.hid (fun (W : World) => rreserved_any s W)
  by_cases e : wordAt s 0 = s
  · have he : ((wordAt s 0).toList == s.toList) = true := str_beq e
    by_cases h0 : s = eS
    · subst h0
      have hw : wordAt eS 0 = eS := rfl
      have hE : wordAtEnd eS 0 = 0 := rfl
      have hN : nameE eS = false := rfl
      rw [hw, hE] at HW
      rw [hN]
      clear he e
      go_enter Tryz.func34, Tryz.ntmps34
      go_wp2_with (go_at_call 58; refine (HW.out _).mono ?_; rintro e' w2 ⟨rfl, rfl⟩)
      go_ret
      exact ⟨rfl, rfl⟩
    · have hE : wordAtEnd s 0 = s.size := (name_at e h0).2.1
      have hN : Hid (nameE s = !resB s) := Lib.hid (by unfold nameE; rw [decide_eq_true e, decide_eq_true (show s ≠ eS from h0)]; rfl)
      have hz : ¬ s.toList = [] := fun e => h0 (bytes_ext (e.trans (toList_nil rfl).symm))
      have hz2 : (s.toList != []) = true := by rw [bne_iff_ne]; exact hz
      have hz3 : s.toList.isEmpty = false := toList_ne (fun e => h0 (size_nil e))
      have hz4 : (s.toList == []) = false := bneL (t := eS) rfl h0
      generalize nameE s = r at *
      generalize resB s = rb at *
      generalize wordAtEnd s 0 = q at *
      generalize wordAt s 0 = v at *
      subst hE
      clear h0 e
      go_enter Tryz.func34, Tryz.ntmps34
      go_wp2_with (first
        | (go_at_call 58; refine (HW.out _).mono ?_; rintro e' w2 ⟨rfl, rfl⟩)
        | (go_at_call 59; refine (HR.out _).mono ?_; rintro e' w2 ⟨rfl, rfl⟩))
      go_ret
      exact ⟨ret_bool hN.out.symm, rfl⟩
  · have he : ((wordAt s 0).toList == s.toList) = false := str_bne e
    have hN : Hid (nameE s = false) := Lib.hid (by unfold nameE; rw [decide_eq_false e]; rfl)
    generalize nameE s = r at *
    generalize wordAtEnd s 0 = q at *
    generalize wordAt s 0 = v at *
    clear e
    go_enter Tryz.func34, Tryz.ntmps34
    go_wp2_with (go_at_call 58; refine (HW.out _).mono ?_; rintro e' w2 ⟨rfl, rfl⟩)
    go_ret
    exact ⟨ret_bool hN.out.symm, rfl⟩
end
end Go.Proofs.YtdlkdecigpaaaaaGreatDoor
