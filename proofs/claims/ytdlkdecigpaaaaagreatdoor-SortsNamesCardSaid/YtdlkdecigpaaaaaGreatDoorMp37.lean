/- The words of sorts: the walk of Text. -/
import Derived.Lib.SliceRun
import Derived.Test.YtdlkdecigpaaaaaGreatDoorMp36
namespace Go.Proofs.YtdlkdecigpaaaaaGreatDoor
set_option linter.unusedVariables false
set_option linter.unusedSimpArgs false
open Go.RowKit

theorem elem_st : Elem Tryz.prog 25 9 (.string ⟨#[]⟩) 1 16 := ⟨Tryz.underlying25, by kernel_rfl, rfl, by decide⟩
def wordsL : List ByteArray := [⟨#[110, 117, 108, 108]⟩, ⟨#[98, 111, 111, 108]⟩, ⟨#[105, 110, 116]⟩, ⟨#[116, 101, 120, 116]⟩, ⟨#[108, 105, 115, 116]⟩, ⟨#[111, 98, 106, 101, 99, 116]⟩]
abbrev wordsA : Array Value := #[.string ⟨#[110, 117, 108, 108]⟩, .string ⟨#[98, 111, 111, 108]⟩, .string ⟨#[105, 110, 116]⟩, .string ⟨#[116, 101, 120, 116]⟩, .string ⟨#[108, 105, 115, 116]⟩, .string ⟨#[111, 98, 106, 101, 99, 116]⟩]
theorem words_at (j : Nat) (hj : j < 6) : wordsA[j]? = some (.string (wordsL[j]'hj)) := by
  rcases (by omega : j = 0 ∨ j = 1 ∨ j = 2 ∨ j = 3 ∨ j = 4 ∨ j = 5) with rfl | rfl | rfl | rfl | rfl | rfl <;> rfl
def outL (m : Int) : Nat → List ByteArray
  | 0 => []
  | j + 1 => if bitZ m j then outL m j ++ [wordsL.getD j eS] else outL m j
theorem words_get (j : Nat) (hj : j < 6) : wordsL.getD j eS = wordsL[j]'hj := by
  rcases (by omega : j = 0 ∨ j = 1 ∨ j = 2 ∨ j = 3 ∨ j = 4 ∨ j = 5) with rfl | rfl | rfl | rfl | rfl | rfl <;> rfl
theorem outL_len (m : Int) : ∀ j, (outL m j).length ≤ j
  | 0 => Nat.le_refl _
  | j + 1 => by unfold outL; have := outL_len m j; split <;> simp <;> omega
def wordsF (m : Int) : ByteArray := if outL m 6 = [] then ⟨#[110, 111, 110, 101]⟩ else ⟨(Lib.join ((outL m 6).map (·.data.toList)) [124]).toArray⟩
theorem join_len : ∀ m : Fin 64, (Lib.join ((outL (m.val : Int) 6).map (·.data.toList)) [124]).length ≤ 100 := by decide +kernel
/-- What holds in Text's loop. -/
structure TextX (m : Int) (v : Value) (j : Nat) (w W : World) : Prop where
  own : W.ownsRow (w.heap.size + 1) 9 1 v (outL m j).length ((outL m j).map Value.string)
  keeps : Keeps [] w W
  words : W.heap[w.heap.size]? = some (.cells wordsA 9 (0, 0))
  nil : outL m j = [] → v = .slice none 0 0
theorem own_some {w : World} {base : Nat} {e : TypeId} {size n : Nat} {v : Value} {xs : List Value} (h : w.ownsRow base e size v n xs) (hn : 0 < n) : ∃ g cap, v = .slice (some ⟨g, 0, none⟩) n cap ∧ n ≤ cap := by
  rcases h.2 with ⟨_, h0⟩ | ⟨g, cap, cur, h1, _, _, h4, _⟩
  · omega
  · exact ⟨g, cap, h1, h4⟩
section
variable {m : Int} {v : Value} {j : Nat} {w W W' : World}
theorem textx_app {v' : Value} {w3 : World} (h : TextX m v j w W) (hj : j < 6) (hb : bitZ m j = true) (ho : w3.ownsRow (w.heap.size + 1) 9 1 v' ((outL m j).length + 1) ((outL m j).map Value.string ++ [.string (wordsL[j]'hj)]))
    (hgr : (W.alloc (.cells #[.string (wordsL[j]'hj)] 9)).grownBy w3 v.ownBlock) : TextX m v' (j + 1) w w3 := by
  have hrow : ∀ q, v.ownBlock = some q → w.heap.size + 1 ≤ q := fun q hq => (h.own.lt q hq).1
  have e : outL m (j + 1) = outL m j ++ [wordsL[j]'hj] := by rw [outL, if_pos hb, words_get j hj]
  have hsz := hk_lt h.words
  refine ⟨?_, keeps_grown (h.keeps.alloc _) hgr (fun q hq => by have := hrow q hq; omega), hk_grow (hk_alloc h.words _) hgr (fun e => by have := hrow _ e.symm; omega), fun h => by rw [e] at h; simp at h⟩
  rw [e, List.length_append, List.map_append]
  exact ho
theorem textx_no (h : TextX m v j w W) (hb : bitZ m j = false) : TextX m v (j + 1) w W := by
  have e : outL m (j + 1) = outL m j := by rw [outL, hb]; rfl
  exact ⟨by rw [e]; exact h.own, h.keeps, h.words, fun h' => h.nil (by rw [e] at h'; exact h')⟩
end
set_option maxRecDepth 20000 in
set_option maxHeartbeats 2000000 in
theorem stext_any (m : Int) (w : World) (h0 : 0 ≤ m) (h1 : m ≤ 63) : Calls Tryz.prog 23 #[.int .i64 m] w fun e w' => e = .returned (.string (wordsF m)) ∧ Keeps [] w w' := by
  have HX0 : Hid (TextX m (.slice none 0 0) 0 w (w.alloc (.cells wordsA 9))) := Lib.hid ⟨World.ownsRow_nil _ _ _ _, (Keeps.refl _ _).alloc _, new_blk _ _, fun _ => rfl⟩
  obtain ⟨mn, hmn⟩ : ∃ mn : Fin 64, (mn.val : Int) = m := ⟨⟨m.toNat, by omega⟩, by simp; omega⟩
  have HJ := Lib.hid (join_len mn)
  have HB := Lib.hid (fun (j : Nat) (hj : j < 6) => bit_has mn ⟨j, hj⟩)
  rw [hmn] at HJ HB
  clear hmn
  go_enter Tryz.func23, Tryz.ntmps23
  go_wp2_with fail
  go_loopw [3, 8] (fun v i W => ∃ j : Nat, j ≤ 6 ∧ i = .int .i64 j ∧ Hid (TextX m v j w W)) (fun _ i _ => 6 - (intOf i).toNat)
  case atStart => exact ⟨0, by omega, rfl, HX0⟩
  case round =>
    obtain ⟨j, hj, rfl, HX⟩ := hrel
    obtain ⟨A, cp, hvv, hle⟩ := own_slice_len HX.out.own
    subst hvv
    have hol := outL_len m j
    by_cases hlt : j < 6
    · have y0 : wr.cell? ⟨w.heap.size, j, none⟩ = some (.string (wordsL[j]'hlt)) := (cell_blk HX.out.words j).trans (words_at j hlt)
      obtain ⟨b, hb⟩ : ∃ b, bitZ m j = b := ⟨_, rfl⟩
      have HH := Lib.hid (fun W => (show hasK m j = b from (HB.out j hlt).trans hb) ▸ shas_in m j W h0 h1 (by omega) (by omega))
      have HBB := Lib.hid hb
      clear hb
      cases b with
      | true =>
        have hlw := hk_lt HX.out.words
        go_wp2_with (first
          | (go_at_call 21; refine (HH.out _).mono ?_; rintro e' w' ⟨rfl, rfl⟩)
          | (at_builtin; refine wpList_append_sl rfl _ _ _ rfl rfl elem_st (v := .slice A (outL m j).length cp) (base := w.heap.size + 1) (S := fun _ => True) (x := .slice (some ⟨wr.heap.size, 0, none⟩) 1 1) rfl rfl (HX.out.own.alloc _) (Sl.of_blk (n := 1) (new_blk _ _) trivial rfl) (by exact one_str [wordsL[j]'hlt]) (by unfold maxLen; omega) (by omega) (by simp; omega) ?_; intro v' w3 ho hgr hb; obtain ⟨vA, vc, hv, _⟩ := own_slice_len ho; subst hv; have HX3 := Lib.hid (textx_app HX.out hlt HBB.out ho hgr); clear ho hgr hb))
        go_roundw
        case rel => exact ⟨j + 1, by omega, by go_num, HX3⟩
        case measure => simp [intOf]; omega
      | false =>
        go_wp2_with (go_at_call 21; refine (HH.out _).mono ?_; rintro e' w' ⟨rfl, rfl⟩)
        go_roundw
        case rel => exact ⟨j + 1, by omega, by go_num, Lib.hid (textx_no HX.out HBB.out)⟩
        case measure => simp [intOf]; omega
    · obtain rfl : j = 6 := by omega
      by_cases hnil : outL m 6 = []
      · have hv := HX.out.nil hnil
        have HE : Hid (wordsF m = ⟨#[110, 111, 110, 101]⟩) := Lib.hid (by unfold wordsF; rw [if_pos hnil])
        have hn0 : (outL m 6).length = 0 := by rw [hnil]; rfl
        have HK := Lib.hid HX.out.keeps
        generalize outL m 6 = ol at *
        subst hnil
        cases hv
        go_wp2_with fail
        rw [Lib.run_eql_slice_nil wr 25 9 none _ _ _ _ Tryz.underlying25]
        simp only [Result.andThen]
        rw [Oper.upon_value]
        go_wp2_with fail
        go_ret
        exact ⟨ret_str HE.out.symm, HK.out⟩
      · have hpos : 0 < (outL m 6).length := by
          rcases Nat.eq_zero_or_pos (outL m 6).length with h | h
          · exact absurd (List.eq_nil_of_length_eq_zero h) hnil
          · exact h
        obtain ⟨g', cp', hv, _⟩ := own_some HX.out.own hpos
        cases hv
        have HE : Hid (wordsF m = ⟨(Lib.join ((outL m 6).map (·.data.toList)) [124]).toArray⟩) := Lib.hid (by unfold wordsF; rw [if_neg hnil])
        have HSL := Sl.of_own HX.out.own
        obtain ⟨g2, o2, c2, hv2, _, _, hgl, hcells⟩ := HSL.at hpos
        cases hv2
        have HJN := Lib.hid (Tryz.strings_Join g' 0 cp (outL m 6) ⟨#[124]⟩ wr (fun j x hx => hcells j (.string x) (by rw [List.getElem?_map, hx]; rfl)) hgl (by omega) hle (by have := HJ.out; show (Lib.join _ [124]).length ≤ _; omega))
        clear hcells HSL hnil
        go_wp2_with fail
        rw [Lib.run_eql_slice_nil wr 25 9 (some ⟨g', 0, none⟩) _ _ _ _ Tryz.underlying25]
        simp only [Result.andThen]
        rw [Oper.upon_value]
        go_wp2_with (go_at_call 44; refine HJN.out.mono ?_; rintro e' w4 ⟨rfl, hb4⟩; have H4 := Lib.hid (HX.out.keeps.trans (Keeps.below hb4)); clear hb4)
        go_ret
        exact ⟨ret_str HE.out.symm, H4.out⟩
end Go.Proofs.YtdlkdecigpaaaaaGreatDoor
