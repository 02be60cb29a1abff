/- The glyph's calls, and the document's Is. -/
import Derived.Test.YtlnmjpacagimnaaDoorUtf
import Derived.Test.YtlnmjpacagimnaaDoorShelf
namespace Go.Proofs.YtlnmjpacagimnaaDoor
set_option linter.unusedVariables false
set_option linter.unusedSimpArgs false
open Go.RowKit

theorem pointB_of {n : Int} : (if n < 0 then false else if n < 55296 then true else if n < 57344 then false else decide (n ≤ 1114111)) = pointB n := by
  rw [Bool.eq_iff_iff]; simp only [pointB, decide_eq_true_eq]
  split
  · simp; omega
  · split
    · simp; omega
    · split
      · simp; omega
      · simp; omega
set_option maxHeartbeats 1000000 in
theorem gis_any (n : Int) (w : World) : Calls Tryd.prog 55 #[.int .i64 n] w fun e w' => e = .returned (.bool (pointB n)) ∧ w = w' := by
  have Hr : Hid (pointB n = decide (0 ≤ n ∧ n < 55296 ∨ 57343 < n ∧ n ≤ 1114111)) := Lib.hid rfl
  generalize pointB n = r at *
  go_enter Tryd.func55, Tryd.ntmps55
  go_wp2
  all_goals
    go_ret
    exact ⟨ret_bool (by rw [Hr.out, Bool.eq_iff_iff]; simp; omega), rfl⟩
set_option maxHeartbeats 1000000 in
theorem ris_any (n : Int) (w : World) : Calls Tryd.prog 17 #[.int .i64 n] w fun e w' => e = .returned (.bool (pointB n)) ∧ w = w' := by
  have Hr : Hid (pointB n = decide (0 ≤ n ∧ n < 55296 ∨ 57343 < n ∧ n ≤ 1114111)) := Lib.hid rfl
  generalize pointB n = r at *
  go_enter Tryd.func17, Tryd.ntmps17
  go_wp2
  all_goals
    go_ret
    exact ⟨ret_bool (by rw [Hr.out, Bool.eq_iff_iff]; simp; omega), rfl⟩
/-- The point of two halves; none: -1. -/
def pairV (a b : Int) : Int := if 55296 ≤ a ∧ a < 56320 ∧ 56320 ≤ b ∧ b < 57344 then 65536 + (a - 55296) * 1024 + b - 56320 else -1
set_option maxHeartbeats 1000000 in
theorem pair_any (a b : Int) (w : World) : Calls Tryd.prog 56 #[.int .i64 a, .int .i64 b] w fun e w' => e = .returned (.int .i64 (pairV a b)) ∧ w = w' := by
  have Hr : Hid (pairV a b = if 55296 ≤ a ∧ a < 56320 ∧ 56320 ≤ b ∧ b < 57344 then 65536 + (a - 55296) * 1024 + b - 56320 else -1) := Lib.hid rfl
  generalize pairV a b = r at *
  go_enter Tryd.func56, Tryd.ntmps56
  go_wp2
  all_goals
    go_ret
    exact ⟨ret_i64 (by rw [Hr.out]; first | (rw [if_neg (by omega)]; done) | (rw [if_pos (by omega)]; try unfold wrap64; omega)), rfl⟩
def encS (n : Int) : ByteArray := if pointB n then Utf8.encode n else ⟨#[]⟩
set_option maxHeartbeats 1000000 in
theorem enc_any (n : Int) (w : World) : Calls Tryd.prog 43 #[.int .i64 n] w fun e w' => e = .returned (.string (encS n)) ∧ w = w' := by
  have Hr : Hid (encS n = if pointB n then Utf8.encode n else ⟨#[]⟩) := Lib.hid rfl
  generalize encS n = r at *
  cases hp : pointB n
  · have HP := Lib.hid hp
    have h := gis_any n w
    rw [hp] at h
    have HI := Lib.hid h
    clear h hp
    go_enter Tryd.func43, Tryd.ntmps43
    go_wp2_with (go_at_call 55; refine HI.out.mono ?_; rintro e w' ⟨rfl, rfl⟩)
    go_ret
    exact ⟨ret_str (by rw [Hr.out, HP.out]; rfl), rfl⟩
  · have HP := Lib.hid hp
    have hb : 0 ≤ n ∧ n ≤ 1114111 := by simp only [pointB, decide_eq_true_eq] at hp; omega
    obtain ⟨h0, h1⟩ := hb
    have h := gis_any n w
    rw [hp] at h
    have HI := Lib.hid h
    clear h hp
    go_enter Tryd.func43, Tryd.ntmps43
    go_wp2_with (go_at_call 55; refine HI.out.mono ?_; rintro e w' ⟨rfl, rfl⟩)
    go_ret
    exact ⟨ret_str (by rw [Hr.out, HP.out]; rfl), rfl⟩
end Go.Proofs.YtlnmjpacagimnaaDoor
