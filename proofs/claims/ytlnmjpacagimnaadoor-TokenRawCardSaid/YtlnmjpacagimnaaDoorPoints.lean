/- The document's Points and Valid. -/
import Derived.Test.YtlnmjpacagimnaaDoorRaw
namespace Go.Proofs.YtlnmjpacagimnaaDoor
set_option linter.unusedVariables false
set_option linter.unusedSimpArgs false
open Go.RowKit

def PtsSays (r : Int) (w : World) (e : Ending) (w' : World) : Prop := ∃ A n c, e = .returned (.tuple #[.slice A n c, .int .i64 r]) ∧ Below w.heap.size w w'
set_option maxRecDepth 20000 in
set_option maxHeartbeats 4000000 in
theorem points_any (s : ByteArray) (w : World) (hs : s.size ≤ 1000000) :
    Calls Tryd.prog 26 #[.string s] w (PtsSays (vEnd s) w) := by
  have HE : Hid (vEnd s = vF s (s.size - (0 : Int).toNat) 0) := Lib.hid rfl
  generalize vEnd s = r at *
  go_enter Tryd.func26, Tryd.ntmps26
  go_wp2
  go_loopw [4, 5] (fun vs p W => ∃ (i : Int) (acc : List Int) (v : Value), v = vs ∧ p = .int .i64 i ∧ 0 ≤ i ∧ i ≤ s.size ∧ Hid (W.ownsRow w.heap.size 3 1 v acc.length (intV acc) ∧ Below w.heap.size w W ∧ r = vF s (s.size - i.toNat) i ∧ (acc.length : Int) ≤ i)) (fun _ p _ => s.size - (intOf p).toNat)
  case atStart => exact ⟨0, [], _, rfl, rfl, by omega, by omega, Lib.hid ⟨World.ownsRow_nil _ _ _ _, Below.refl _ _, HE.out, by simp⟩⟩
  case round =>
    obtain ⟨i, acc, v, rfl, rfl, hi0, hi1, H⟩ := hrel
    have HST := Lib.hid (H.out.2.2.1.trans (v_step (s := s) (i := i) hi0))
    obtain ⟨A, cp, rfl⟩ := own_slice H.out.1
    by_cases hlt : i < s.size
    · have HF := Lib.hid (first_any s i wr hi0 (by omega) (by omega))
      have HFR := Lib.hid (first_range (s := s) (i := i))
      have HS2 := Lib.hid (HST.out.trans (if_pos hlt))
      have HFEW := Lib.hid H.out.2.2.2
      generalize first s i = x at *
      obtain ⟨n, m⟩ := x
      simp only at HFR HS2
      go_wp2_with fail
      refine HF.out.mono ?_
      rintro e' w2 ⟨rfl, hb2⟩
      have HB2 := Lib.hid (bl_step H.out.2.1 hb2)
      have HO2 := Lib.hid (own_below H.out.1 hb2)
      clear hb2 HF
      by_cases hm : m = 0
      · have hmb : (m == 0) = true := by simp [hm]
        have HZ := Lib.hid (HS2.out.trans (if_pos hm))
        clear hm HS2 HST HFR
        go_wp2
        go_ret2
        rw [HZ.out]
        exact ⟨_, _, _, rfl, HB2.out⟩
      · have hmb : (m == 0) = false := by simp [hm]
        have HZ := Lib.hid (HS2.out.trans (if_neg hm))
        have ho : 1 ≤ m ∧ m ≤ 4 ∧ i + m ≤ s.size := by have := HFR.out; omega
        obtain ⟨o1, o2, o3⟩ := ho
        clear hm HS2 HST HFR
        go_wp2_with (at_builtin; refine app_one rfl _ _ 37 rfl Tryd.underlying37 info_int rfl w.heap.size _ (intV acc) (.int .i64 n) rfl rfl rfl (by rw [List.length_map]; exact HO2.out) HB2.out.size ?c1 ?c2 ?_)
        case c1 => have := HFEW.out; rw [List.length_map]; omega
        case c2 => have := HFEW.out; rw [List.length_map]; omega
        rintro v' w3 ho hg g1 cap1 rfl
        have HN := Lib.hid (And.intro ho hg)
        clear ho hg
        go_wp2
        go_roundw
        case rel => exact ⟨i + m, acc ++ [n], _, rfl, rfl, by omega, o3, Lib.hid ⟨by have := HN.out.1; rw [intV_snoc] at this; rw [List.length_append]; simpa using this, below_grown HB2.out HN.out.2 HO2.out, HZ.out, by have := HFEW.out; simp; omega⟩⟩
        case measure => simp [intOf]; omega
    · have HZ := Lib.hid (HST.out.trans (if_neg hlt))
      go_wp2
      go_ret2
      rw [HZ.out]
      exact ⟨_, _, _, rfl, H.out.2.1⟩
set_option maxHeartbeats 1000000 in
theorem valid_any (s : ByteArray) (w : World) (hs : s.size ≤ 1000000) :
    Calls Tryd.prog 19 #[.string s] w fun e w' => e = .returned (.bool (vEnd s == (s.size : Int))) ∧ Below w.heap.size w w' := by
  have HP := Lib.hid (points_any s w hs)
  go_enter Tryd.func19, Tryd.ntmps19
  go_wp2_with fail
  refine HP.out.mono ?_
  rintro e' w1 ⟨A, n, c, rfl, hb⟩
  have HB := Lib.hid hb
  clear hb
  go_wp2
  go_ret
  exact ⟨rfl, HB.out⟩
end Go.Proofs.YtlnmjpacagimnaaDoor
