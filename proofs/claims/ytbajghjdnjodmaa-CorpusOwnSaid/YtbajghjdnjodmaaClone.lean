/- slices.Clone, at its three types: a row of the call's own. -/
import Derived.Test.YtbajghjdnjodmaaApp
namespace Go.Proofs.Ytbajghjdnjodmaa
set_option linter.unusedVariables false
set_option linter.unusedSimpArgs false
open Go.RowKit

theorem grown_new {w w' : World} {o : Obj} (h : (w.alloc o).grownBy w' (some w.heap.size)) : Below w.heap.size w w' :=
  (bl_alloc (Below.refl _ w) o).grown h (by simp) (fun k e => by cases e; exact Nat.le_refl _)
section
variable {S : Nat → Prop} {x : Value} {m : Nat} {w : World}
set_option maxHeartbeats 400000 in
theorem clone_i {news : List Value} (hx : Sl w S 1 x m news) (h1 : ∀ u ∈ news, u.oneCell' = true) (hm : m ≤ 40) :
    Calls Try.prog 44 #[x] w fun e w' => ∃ v, e = .returned v ∧ w'.ownsRow w.heap.size 3 1 v m news ∧ Below w.heap.size w w' := by
  obtain ⟨a, c, rfl, hc, hn⟩ := hx.shape
  have hs := fun w => Lib.run_eql_slice_nil (P := Try.prog) w 31 _ a m c 0 0 Try.underlying31
  cases a with
  | none =>
    obtain rfl := hn rfl
    obtain rfl : m = 0 := by omega
    obtain rfl := hx.empty
    go_enter Try.func44, Try.ntmps44
    go_wp2
    go_ret
    exact ⟨_, rfl, World.ownsRow_nil _ _ _ _, Below.refl _ _⟩
  | some ad =>
    have hx' := hx.keep (kc_alloc (.cells #[] 3))
    go_enter Try.func44, Try.ntmps44
    go_wp2_with (at_builtin; refine wpList_append_sl rfl _ _ _ rfl rfl elem_i rfl rfl (own_none w _ 1 (Nat.le_refl _)) hx' h1 (by unfold maxLen; omega) (by omega) (by simp) ?_; intro v w1 ho hg hb)
    go_ret
    exact ⟨_, rfl, by simpa using ho, grown_new hg⟩
set_option maxHeartbeats 400000 in
theorem clone_s {news : List Value} (hx : Sl w S 1 x m news) (h1 : ∀ u ∈ news, u.oneCell' = true) (hm : m ≤ 40) :
    Calls Try.prog 55 #[x] w fun e w' => ∃ v, e = .returned v ∧ w'.ownsRow w.heap.size 9 1 v m news ∧ Below w.heap.size w w' := by
  obtain ⟨a, c, rfl, hc, hn⟩ := hx.shape
  have hs := fun w => Lib.run_eql_slice_nil (P := Try.prog) w 28 _ a m c 0 0 Try.underlying28
  cases a with
  | none =>
    obtain rfl := hn rfl
    obtain rfl : m = 0 := by omega
    obtain rfl := hx.empty
    go_enter Try.func55, Try.ntmps55
    go_wp2
    go_ret
    exact ⟨_, rfl, World.ownsRow_nil _ _ _ _, Below.refl _ _⟩
  | some ad =>
    have hx' := hx.keep (kc_alloc (.cells #[] 9))
    go_enter Try.func55, Try.ntmps55
    go_wp2_with (at_builtin; refine wpList_append_sl rfl _ _ _ rfl rfl elem_s rfl rfl (own_none w _ 1 (Nat.le_refl _)) hx' h1 (by unfold maxLen; omega) (by omega) (by simp) ?_; intro v w1 ho hg hb)
    go_ret
    exact ⟨_, rfl, by simpa using ho, grown_new hg⟩
set_option maxHeartbeats 400000 in
theorem clone_v {news : List Value} (hx : Sl w S 6 x m news) (h1 : ∀ u ∈ news, u.oneCell' = true) (hm : m ≤ 40) :
    Calls Try.prog 56 #[x] w fun e w' => ∃ v, e = .returned v ∧ w'.ownsRow w.heap.size 30 6 v m news ∧ Below w.heap.size w w' := by
  obtain ⟨a, c, rfl, hc, hn⟩ := hx.shape
  have hs := fun w => Lib.run_eql_slice_nil (P := Try.prog) w 27 _ a m c 0 0 Try.underlying27
  cases a with
  | none =>
    obtain rfl := hn rfl
    obtain rfl : m = 0 := by omega
    obtain rfl := hx.empty
    go_enter Try.func56, Try.ntmps56
    go_wp2
    go_ret
    exact ⟨_, rfl, World.ownsRow_nil _ _ _ _, Below.refl _ _⟩
  | some ad =>
    have hx' := hx.keep (kc_alloc (.cells #[] 30))
    go_enter Try.func56, Try.ntmps56
    go_wp2_with (at_builtin; refine wpList_append_sl rfl _ _ _ rfl rfl elem_v rfl rfl (own_none w _ 6 (Nat.le_refl _)) hx' h1 (by unfold maxLen; omega) (by omega) (by simp) ?_; intro v w1 ho hg hb)
    go_ret
    exact ⟨_, rfl, by simpa using ho, grown_new hg⟩
end
theorem head_one {T : VT} {vi vk : Value} (hi : vi.oneCell' = true) (hk : vk.oneCell' = true) : ∀ u ∈ T.head vi vk, u.oneCell' = true := by
  intro u hu; simp only [VT.head, List.mem_cons, List.not_mem_nil, or_false] at hu
  rcases hu with rfl | rfl | rfl | rfl | rfl | rfl
  · rfl
  · rfl
  · rfl
  · rfl
  · exact hi
  · exact hk
theorem Sl.one {w : World} {S : Nat → Prop} {size : Nat} {v : Value} {n : Nat} {cs : List Value} (h : Sl w S size v n cs) : v.oneCell' = true := by
  obtain ⟨a, c, rfl, _⟩ := h.shape; rfl
theorem rep_one {w : World} {S : Nat → Prop} {T : VT} {vi vk : Value} (h : T.Rep w S vi vk) : vi.oneCell' = true ∧ vk.oneCell' = true := by
  obtain ⟨⟨cs, h1, _⟩, h2⟩ := rep_iff.1 h; exact ⟨h1.one, h2.one⟩
theorem rows_one {w : World} {S : Nat → Prop} : ∀ {l : List VT} {cs : List Value}, Rows (VT.Six w S) l cs → ∀ u ∈ cs, u.oneCell' = true
  | [], _, h, u, hu => by rw [show _ = [] from h] at hu; cases hu
  | _ :: _, _, ⟨x, r, h1, ⟨vi, vk, h2, h3⟩, h4⟩, u, hu => by
    rw [h1] at hu
    rcases List.mem_append.1 hu with hu | hu
    · subst h2; exact head_one (rep_one h3).1 (rep_one h3).2 u hu
    · exact rows_one h4 u hu
theorem ten_one {w : World} {S : Nat → Prop} {e : ET} {x : List Value} (h : e.Ten w S x) : ∀ u ∈ x, u.oneCell' = true := by
  obtain ⟨vi, vk, vd, rfl, h1, h2⟩ := h
  have h3 := rep_one h1
  intro u hu; simp only [ET.head, List.mem_cons, List.not_mem_nil, or_false] at hu
  rcases hu with rfl | rfl | rfl | rfl | rfl | rfl | rfl | rfl | rfl | rfl
  · rfl
  · rfl
  · rfl
  · rfl
  · rfl
  · exact h3.1
  · exact h3.2
  · rfl
  · rfl
  · exact h2.one
theorem tens_one {w : World} {S : Nat → Prop} : ∀ {l : List ET} {cs : List Value}, Rows (ET.Ten w S) l cs → ∀ u ∈ cs, u.oneCell' = true
  | [], _, h, u, hu => by rw [show _ = [] from h] at hu; cases hu
  | _ :: _, _, ⟨x, r, h1, h2, h4⟩, u, hu => by
    rw [h1] at hu
    rcases List.mem_append.1 hu with hu | hu
    · exact ten_one h2 u hu
    · exact tens_one h4 u hu
end Go.Proofs.Ytbajghjdnjodmaa
