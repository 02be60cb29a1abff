/- ExprNames: the law's walk. -/
import Derived.Test.YtdlkdecigpaaaaaGreatDoorMp39
import Derived.Test.YtdlkdecigpaaaaaGreatDoorMpNP
namespace Go.Proofs.YtdlkdecigpaaaaaGreatDoor
set_option linter.unusedVariables false
set_option linter.unusedSimpArgs false
open Go.RowKit

section
variable (s : ByteArray) (w : World)
set_option maxRecDepth 20000 in
set_option maxHeartbeats 4000000 in
theorem enames_walk (hv : VarOk w) (hs : s.size ≤ 140737488351232) :
    Calls Tryz.prog 11 #[.string s] w fun e w' => e = .returned (.bool true) ∧ Below w.heap.size w w' := by
  have HA := Lib.hid (fun (W : World) (k : Keeps [] w W) => awake8_any W (hv.keeps k (by simp)))
  obtain ⟨r, hr⟩ := par_any s 0 (Int.le_refl _) (by omega)
  have HN : Hid (nameE s = true → ∃ r, Par s (.lev 0) 0 r ∧ parseR s r = (.mk varS s VT.zero [], 0, 0)) := Lib.hid fun h => ⟨_, name_par h, name_parse h⟩
  have HE := Lib.hid (fun (h : s.size ≤ 100) (W : World) (k : Keeps [] w W) (r : Res) (hr : Par s (.lev 0) 0 r) => eParse_any s W r (by omega) (hv.keeps k (by simp)) hr)
  have HI := Lib.hid (fun (h : s.size ≤ 100) (W : World) => eisname_any s W (by omega))
  have HJ := Lib.hid (fun (h : s.size ≤ 100) (W : World) => risname_any s W (by omega))
  have HR := Lib.hid hr
  clear hr hv
  go_enter Tryz.func11, Tryz.ntmps11
  go_wp2_with fail
  refine (HA.out _ (Keeps.refl _ _)).mono ?_
  rintro e1 w1 ⟨rfl, hk1⟩
  have HK1 : Hid (Keeps [] w w1) := Lib.hid hk1
  clear hk1
  by_cases h1 : s.size ≤ 100
  · have HI1 := Lib.hid (HI.out h1)
    have HJ1 := Lib.hid (HJ.out h1)
    cases hb : nameE s
    · rw [hb] at HI1 HJ1
      clear HN HA HI HJ
      go_wp2_with fail
      refine (HE.out h1 _ HK1.out _ HR.out).mono ?_
      rintro e2 w2 ⟨vi, vk, va, rfl, hrep, hk2⟩
      generalize parseR s r = q at *
      obtain ⟨T, pl, cd⟩ := q
      obtain ⟨x1, y1, x2, y2, x3, y3, rfl, rfl, rfl⟩ := xrep_shape hrep
      have HK2 := Lib.hid ((HK1.out.trans hk2).alloc (.cells (T.nine (.slice x1 T.lit.its.length y1) (.slice x2 T.lit.ks.length y2) (.slice x3 T.args.length y3)) 52))
      clear hrep hk2 HE
      dsimp only
      go_wp2_with (first
        | (go_at_call 33; refine (HI1.out _).mono ?_; rintro e' w3 ⟨rfl, hk3⟩; have HK3 := Lib.hid (HK2.out.trans hk3); clear hk3)
        | (go_at_call 34; refine (HJ1.out _).mono ?_; rintro e' w4 ⟨rfl, rfl⟩))
      go_ret
      exact ⟨rfl, HK3.out.nil_below⟩
    · rw [hb] at HI1 HJ1
      obtain ⟨r2, hp2, hq2⟩ := HN.out hb
      have HE2 := Lib.hid (HE.out h1 w1 HK1.out r2 hp2)
      rw [hq2] at HE2
      clear HN HA HI HJ HE hp2 hq2
      have HLF : Hid (XLeafy (.mk varS s VT.zero []) ∧ (XT.mk varS s VT.zero []).depth ≤ 40) := Lib.hid ⟨.mk rfl rfl (by simp [XT.args]) (fun U h => by cases h), by show 1 ≤ 40; decide⟩
      go_wp2_with fail
      refine HE2.out.mono ?_
      rintro e2 w2 ⟨vi, vk, va, rfl, hrep, hk2⟩
      dsimp only at hrep
      obtain ⟨x1, y1, x2, y2, x3, y3, rfl, rfl, rfl⟩ := xrep_shape hrep
      have H3 := Lib.hid (And.intro ((HK1.out.trans hk2).alloc (.cells ((XT.mk varS s VT.zero []).nine (.slice x1 0 y1) (.slice x2 0 y2) (.slice x3 0 y3)) 52)) (And.intro (new_blk w2 (.cells ((XT.mk varS s VT.zero []).nine (.slice x1 0 y1) (.slice x2 0 y2) (.slice x3 0 y3)) 52)) (hrep.keep (kc_alloc (.cells ((XT.mk varS s VT.zero []).nine (.slice x1 0 y1) (.slice x2 0 y2) (.slice x3 0 y3)) 52)))))
      clear hrep hk2 HE2
      go_wp2_with (first
        | (go_at_call 33; refine (HI1.out _).mono ?_; rintro e' w3 ⟨rfl, hk3⟩; have H4 := Lib.hid (And.intro (H3.out.1.trans hk3) (And.intro (hk3.same H3.out.2.1) (H3.out.2.2.keep (kc_keeps hk3 fun _ _ => by simp)))); have gx := cell_blk H4.out.2.1; clear hk3)
        | (go_at_call 34; refine (HJ1.out _).mono ?_; rintro e' w4 ⟨rfl, rfl⟩)
        | (go_at_call 27; refine (xref_any 40 (XT.mk varS s VT.zero []) _ _ _ _ _ HLF.out.2 HLF.out.1 H4.out.2.2).mono ?_; rintro e' wq hx; obtain ⟨vi, vk, va, rfl, hrep, hk⟩ := xref_at hx; obtain ⟨n1, m1, n2, m2, n3, m3, rfl, rfl, rfl⟩ := xrep_shape hrep; have KR := Lib.hid (H4.out.1.trans hk); have HRR := Lib.hid hrep; clear hrep hk hx)
        | (go_at_call 26; refine (rsame_any 40 (XT.mk varS s VT.zero []) (XT.mk varS s VT.zero []) _ _ _ (.slice none 0 0) (.slice none 0 0) (.slice none 0 0) _ (fun _ => True) _ HLF.out.2 HLF.out.1 HLF.out.1 HRR.out (leaf_xrep _ _ _ _ _ _ _ _)).mono ?_; rintro e' wc hx; obtain ⟨rfl, hk⟩ := sm_at (c := true) hx ⟨fun _ => rfl, fun _ => rfl⟩; have KC := Lib.hid (KR.out.trans hk); clear hk hx))
      go_ret
      exact ⟨rfl, KC.out.nil_below⟩
  · go_wp2_with fail
    refine (HA.out _ HK1.out).mono ?_
    rintro e2 w2 ⟨rfl, hk2⟩
    have HK2 := Lib.hid (HK1.out.trans hk2)
    clear hk2
    go_wp2_with fail
    go_ret
    exact ⟨rfl, HK2.out.nil_below⟩
end
end Go.Proofs.YtdlkdecigpaaaaaGreatDoor
