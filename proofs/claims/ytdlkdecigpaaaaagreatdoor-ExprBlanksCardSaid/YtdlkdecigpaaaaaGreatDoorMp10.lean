/- The document's text of layer 5: the points of a Str. -/
import Derived.Test.YtdlkdecigpaaaaaGreatDoorMp8
import Derived.Test.YtdlkdecigpaaaaaGreatDoorMp9
namespace Go.Proofs.YtdlkdecigpaaaaaGreatDoor
set_option linter.unusedVariables false
set_option linter.unusedSimpArgs false
open Go.RowKit

def textOf (s : ByteArray) (i : Int) : List Int × Int × Int := textAt s (i + 1) []
theorem info_int : (Tryz.prog.info? 3).map (fun i => (i.zero, i.size, i.bytes)) = some (some (.int .i64 0), 1, 8) := by kernel_rfl
set_option maxRecDepth 20000 in
set_option maxHeartbeats 4000000 in
theorem text5_any (s : ByteArray) (i : Int) (w : World) (h0 : 0 ≤ i) (hs : s.size ≤ 1000000) (hi : i < s.size) :
    Calls Tryz.prog 123 #[.string s, .int .i64 i] w fun e w' => ∃ v, e = .returned (.tuple #[v, .int .i64 (textOf s i).2.1, .int .i64 (textOf s i).2.2]) ∧
      w'.ownsRow w.heap.size 3 1 v (textOf s i).1.length (intV (textOf s i).1) ∧ Below w.heap.size w w' := by
  have hi1 : 0 ≤ i + 1 := by omega
  go_enter Tryz.func123, Tryz.ntmps123
  go_wp2
  go_loopw [1, 7] (fun a v W => ∃ (j : Int) (acc : List Int), 0 ≤ j ∧ j ≤ s.size + 1 ∧ a = .int .i64 j ∧ Hid ((acc.length : Int) ≤ j ∧ W.ownsRow w.heap.size 3 1 v acc.length (intV acc) ∧ Below w.heap.size w W ∧ textOf s i = textAt s j acc)) (fun a _ _ => s.size + 1 - (intOf a).toNat)
  case atStart => exact ⟨i + 1, [], hi1, by omega, rfl, Lib.hid ⟨by simp; omega, World.ownsRow_nil _ _ _ _, Below.refl _ _, rfl⟩⟩
  case round =>
    obtain ⟨j, acc, hj0, hj1, rfl, H⟩ := hrel
    have HT := Lib.hid (H.out.2.2.2.trans (textAt_step hj0))
    by_cases c1 : j < s.size
    · have hb := bt_at s j
      by_cases c2 : bt s j < 32
      · have HR := Lib.hid (HT.out.trans (if_pos (.inr c2)))
        go_wp2
        go_ret3
        rw [HR.out]
        exact ⟨_, rfl, World.ownsRow_nil _ _ _ _, H.out.2.2.1⟩
      · have HT2 := Lib.hid (HT.out.trans (if_neg (by omega)))
        by_cases c3 : bt s j = 34
        · have hc3 : (bt s j == 34) = true := by simp [c3]
          have HR := Lib.hid (HT2.out.trans (if_pos c3))
          clear c3
          go_wp2
          go_ret3
          rw [HR.out]
          exact ⟨_, rfl, H.out.2.1, H.out.2.2.1⟩
        · have hc3 : (bt s j == 34) = false := by simp [c3]
          have HT3 := Lib.hid (HT2.out.trans (if_neg c3))
          clear c3
          by_cases c4 : bt s j = 92
          · have hc4 : (bt s j == 92) = true := by simp [c4]
            have HT4 := Lib.hid (HT3.out.trans (if_pos c4))
            clear c4
            have HX := Lib.hid (escape5_any s j wr hj0 (by omega) c1)
            have HO := Lib.hid (escape_ok (s := s) (i := j) hj0 · c1)
            generalize escape s j = x at *
            obtain ⟨n, e1, code⟩ := x
            simp only at HT4 HO HX
            by_cases c5 : code = 0
            · subst c5
              have HR := Lib.hid (HT4.out.trans (if_pos rfl))
              have ho := HO.out rfl
              obtain ⟨o1, o2, _⟩ := ho
              go_wp2_with (first | (go_at_call 144; refine HX.out.mono ?_; rintro e w' ⟨rfl, rfl⟩) | (at_builtin; refine app_one rfl _ _ 153 rfl Tryz.underlying153 info_int rfl w.heap.size _ (intV acc) (.int .i64 n) rfl rfl rfl (by rw [List.length_map]; exact H.out.2.1) H.out.2.2.1.size ?c1 ?c2 ?_))
              case c1 => have := H.out.1; rw [List.length_map]; omega
              case c2 => have := H.out.1; rw [List.length_map]; omega
              rintro v' w1 ho hg g1 cap1 rfl
              have HN := Lib.hid (And.intro ho hg)
              clear ho hg
              go_wp2
              go_roundw
              case rel => exact ⟨e1, acc ++ [n], by omega, by omega, rfl, Lib.hid ⟨by have := H.out.1; simp; omega, by have := HN.out.1; rw [intV_snoc] at this; rw [List.length_append]; exact this, below_grown H.out.2.2.1 HN.out.2 H.out.2.1, HR.out⟩⟩
              case measure => simp [intOf]; omega
            · have hc5 : (code == 0) = false := by simp [c5]
              have HR := Lib.hid (HT4.out.trans (if_neg c5))
              clear c5
              go_wp2_with (first | (go_at_call 144; refine HX.out.mono ?_; rintro e w' ⟨rfl, rfl⟩))
              go_ret3
              rw [HR.out]
              exact ⟨_, rfl, World.ownsRow_nil _ _ _ _, H.out.2.2.1⟩
          · have hc4 : (bt s j == 92) = false := by simp [c4]
            have HT4 := Lib.hid (HT3.out.trans (if_neg c4))
            clear c4
            have HX := Lib.hid (first_any s j wr hj0 (by omega) (by omega))
            have hO := first_range (s := s) (i := j)
            generalize first s j = x at *
            obtain ⟨n, m⟩ := x
            simp only at HT4 hO HX
            by_cases c5 : m = 0
            · subst c5
              have HR := Lib.hid (HT4.out.trans (if_pos rfl))
              clear hO
              go_wp2_with (first | (go_at_call 145; refine HX.out.mono ?_; rintro e w1 ⟨rfl, hb1⟩; have HB1 := Lib.hid hb1; clear hb1))
              go_ret3
              rw [HR.out]
              exact ⟨_, rfl, World.ownsRow_nil _ _ _ _, bl_step H.out.2.2.1 HB1.out⟩
            · have hc5 : (m == 0) = false := by simp [c5]
              have HR := Lib.hid (HT4.out.trans (if_neg c5))
              have ho : 1 ≤ m ∧ m ≤ 4 ∧ j + m ≤ s.size := by omega
              obtain ⟨o1, o2, o3⟩ := ho
              clear c5 hO
              go_wp2_with fail
              refine HX.out.mono ?_
              rintro e w1 ⟨rfl, hb1⟩
              have HB1 := Lib.hid hb1
              have HW1 := Lib.hid (And.intro (own_below H.out.2.1 hb1) (bl_step H.out.2.2.1 hb1))
              clear hb1
              go_wp2_with ((at_builtin; refine app_one rfl _ _ 153 rfl Tryz.underlying153 info_int rfl w.heap.size _ (intV acc) (.int .i64 n) rfl rfl rfl (by rw [List.length_map]; exact HW1.out.1) HW1.out.2.size ?c1 ?c2 ?_))
              case c1 => have := H.out.1; rw [List.length_map]; omega
              case c2 => have := H.out.1; rw [List.length_map]; omega
              rintro v' w2 ho hg g1 cap1 rfl
              have HN := Lib.hid (And.intro ho hg)
              clear ho hg
              go_wp2
              go_roundw
              case rel => exact ⟨j + m, acc ++ [n], by omega, by omega, rfl, Lib.hid ⟨by have := H.out.1; simp; omega, by have := HN.out.1; rw [intV_snoc] at this; rw [List.length_append]; exact this, below_grown HW1.out.2 HN.out.2 HW1.out.1, HR.out⟩⟩
              case measure => simp [intOf]; omega
    · have HR := Lib.hid (HT.out.trans (if_pos (.inl c1)))
      go_wp2
      go_ret3
      rw [HR.out]
      exact ⟨_, rfl, World.ownsRow_nil _ _ _ _, H.out.2.2.1⟩
end Go.Proofs.YtdlkdecigpaaaaaGreatDoor
