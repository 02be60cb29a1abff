/- Put together: expr.Print, at leaves and at a sign between two; expr.Print of a sign between two; The fixed fact of the expressions' laws. -/
import Derived.Laws.MakeOwn
import Derived.Test.YtdlkdecigpaaaaaGreatDoorMp5
import Derived.Test.YtdlkdecigpaaaaaGreatDoorMp30
import Derived.Test.YtdlkdecigpaaaaaGreatDoorMp34
import Derived.Test.YtdlkdecigpaaaaaGreatDoorMp26
namespace Go.Proofs.YtdlkdecigpaaaaaGreatDoor
set_option linter.unusedVariables false
set_option linter.unusedSimpArgs false
open Go.RowKit

theorem elem_stE : Elem Tryz.prog 25 9 (.string ⟨#[]⟩) 1 16 := ⟨Tryz.underlying25, by kernel_rfl, rfl, by decide⟩
theorem make_s (W : World) (k : Nat) (hk : k ≤ 100000) : (Instr.makeSlice 25 (.int .i64 k) (.int .i64 k)).run Tryz.prog W = .ok (.slice (some ⟨W.heap.size, 0, none⟩) k k) (W.alloc (.cells (madeCells #[Value.string ⟨#[]⟩] k) 9)) := by
  obtain ⟨i0, hi0, hz0, hz1, hz2⟩ := info_parts elem_stE.hi
  have h := run_make (P := Tryz.prog) W 25 9 i0 _ Tryz.underlying25 hi0 hz0 .i64 .i64 k k (by omega) (Int.le_refl _) (by rw [hz2]; omega) (by omega)
  rw [hz1, show (Value.string ⟨#[]⟩).cells = #[.string ⟨#[]⟩] from rfl, Nat.mul_one] at h
  simpa using h
section
variable (n : Nat) (nm s0 : ByteArray) (k0 i0 : Int) (y1 y2 y3 : Option Addr) (d1 d2 d3 : Nat) (b0 : Bool) (w : World)
set_option maxRecDepth 20000 in
set_option maxHeartbeats 1000000 in
theorem print_lit (hn : n < 100) (hsz : (decB n).size ≤ 100) (hd : Lib.decDigits n ≠ []) :
    Calls Tryz.prog 28 #[.agg #[.string litS, .string nm, .int .i64 2, .bool b0, .int .i64 n, .string s0, .slice y1 0 d1, .slice y2 0 d2, .slice y3 0 d3]] w fun e w' => e = .returned (.string (decB n)) ∧ Keeps [] w w' := by
  have HT := Lib.hid (fun W => rtext_int n s0 y1 y2 0 0 d1 d2 b0 W hn hsz hd)
  have hmk : ∀ W : World, (Instr.makeSlice 25 (.int .i64 0) (.int .i64 0)).run Tryz.prog W = .ok (.slice (some ⟨W.heap.size, 0, none⟩) 0 0) (W.alloc (.cells (madeCells #[Value.string ⟨#[]⟩] 0) 9)) := fun W => make_s W 0 (by omega)
  go_enter Tryz.func28, Tryz.ntmps28
  go_wp2_with fail
  refine wp_loop_once ?_
  go_wp2_with fail
  refine (HT.out _).mono ?_
  rintro e1 w1 ⟨rfl, hb1⟩
  have HB : Hid (Keeps [] w w1) := Lib.hid ((((Keeps.refl [] w).alloc _).alloc _).trans (Keeps.below hb1))
  clear hb1
  go_wp2_with fail
  go_ret
  exact ⟨rfl, HB.out⟩
set_option maxRecDepth 20000 in
set_option maxHeartbeats 1000000 in
theorem print_var :
    Calls Tryz.prog 28 #[.agg #[.string varS, .string nm, .int .i64 k0, .bool b0, .int .i64 i0, .string s0, .slice y1 0 d1, .slice y2 0 d2, .slice y3 0 d3]] w fun e w' => e = .returned (.string nm) ∧ Keeps [] w w' := by
  have hmk : ∀ W : World, (Instr.makeSlice 25 (.int .i64 0) (.int .i64 0)).run Tryz.prog W = .ok (.slice (some ⟨W.heap.size, 0, none⟩) 0 0) (W.alloc (.cells (madeCells #[Value.string ⟨#[]⟩] 0) 9)) := fun W => make_s W 0 (by omega)
  go_enter Tryz.func28, Tryz.ntmps28
  go_wp2_with fail
  refine wp_loop_once ?_
  go_wp2_with fail
  go_ret
  exact ⟨rfl, ((Keeps.refl [] w).alloc _).alloc _⟩
end
end Go.Proofs.YtdlkdecigpaaaaaGreatDoor
namespace Go.Proofs.YtdlkdecigpaaaaaGreatDoor
set_option linter.unusedVariables false
set_option linter.unusedSimpArgs false
open Go.RowKit

/-- The parts' texts, so far. -/
def rowC (ps : List ByteArray) (j : Nat) : Array Value := ((ps.take j).map Value.string ++ List.replicate (ps.length - j) (Value.string ⟨#[]⟩)).toArray
theorem rowC_zero (ps : List ByteArray) : madeCells #[Value.string ⟨#[]⟩] ps.length = rowC ps 0 := by
  unfold rowC madeCells
  apply Array.ext
  · simp
  · intro i h1 h2; simp [Nat.mod_one]
theorem rowC_set {ps : List ByteArray} {j : Nat} (hj : j < ps.length) : (rowC ps j).setIfInBounds j (.string ps[j]) = rowC ps (j + 1) := by
  apply Array.ext'
  unfold rowC
  rw [Array.toList_setIfInBounds]
  show ((ps.take j).map Value.string ++ List.replicate (ps.length - j) (Value.string ⟨#[]⟩)).set j (.string ps[j]) = (ps.take (j + 1)).map Value.string ++ List.replicate (ps.length - (j + 1)) (Value.string ⟨#[]⟩)
  have e : ps.length - j = (ps.length - (j + 1)) + 1 := by omega
  rw [List.set_append_right _ _ (by simp; omega), e, List.replicate_succ, List.take_succ_eq_append_getElem hj, List.map_append]
  simp [Nat.min_eq_left (Nat.le_of_lt hj)]
theorem rowC_at {ps : List ByteArray} {j : Nat} (hj : j < ps.length) : (rowC ps j)[j]? = some (.string ⟨#[]⟩) := by
  unfold rowC
  rw [List.getElem?_toArray, List.getElem?_append_right (by simp; omega), List.getElem?_replicate, if_pos (by simp; omega)]
def PrSays (a : ByteArray) (w : World) (e : Ending) (w' : World) : Prop := e = .returned (.string a) ∧ Keeps [] w w'
theorem bin_size {op : ByteArray} (h : op ∈ binL) : op.size ≤ 3 := by
  have k : ∀ op ∈ binL, op.size ≤ 3 := by decide +kernel
  exact k op h
theorem bin_ops {op : ByteArray} (h : op ∈ binL) : (op.toList == [108, 105, 116]) = false ∧ (op.toList == [116, 104, 105, 115]) = false ∧ (op.toList == [118, 97, 114]) = false ∧ (op.toList == [103, 101, 116]) = false ∧ (op.toList == [97, 116]) = false ∧ (op.toList == [110, 111, 116]) = false ∧ (op.toList == [110, 101, 103]) = false ∧ argsN op = 0 := by
  have k : ∀ op ∈ binL, (op.toList == [108, 105, 116]) = false ∧ (op.toList == [116, 104, 105, 115]) = false ∧ (op.toList == [118, 97, 114]) = false ∧ (op.toList == [103, 101, 116]) = false ∧ (op.toList == [97, 116]) = false ∧ (op.toList == [110, 111, 116]) = false ∧ (op.toList == [110, 101, 103]) = false ∧ argsN op = 0 := by decide +kernel
  exact k op h
section
variable (T : XT) (ps : List ByteArray) (S : Nat → Prop) (w : World)
set_option maxRecDepth 20000 in
set_option maxHeartbeats 4000000 in
theorem print_bin (vi vk va : Value) (ho : T.op ∈ binL) (hn : T.args.length = 2) (hps : ps.length = T.args.length) (hsz : ∀ p ∈ ps, p.size ≤ 100000) (h : T.Rep w S vi vk va)
    (hP : ∀ (j : Nat) (hj : j < T.args.length) (hj2 : j < ps.length) (W : World) (ui uk ua : Value) (S : Nat → Prop), T.args[j].Rep W S ui uk ua → Calls Tryz.prog 28 #[T.args[j].agg ui uk ua] W (PrSays ps[j] W)) :
    Calls Tryz.prog 28 #[T.agg vi vk va] w (PrSays (⟨#[40]⟩ ++ ps[0]! ++ ⟨#[32]⟩ ++ T.op ++ ⟨#[32]⟩ ++ ps[1]! ++ ⟨#[41]⟩) w) := by
  obtain ⟨a1, c1, a2, c2, a3, c3, rfl, rfl, rfl⟩ := xrep_shape h
  obtain ⟨cs, hsl, hrows⟩ := xrep_row h
  have HL := Lib.hid (fun (W : World) (k : Keeps [] w W) => And.intro (hsl.keep (kc_keeps k fun _ _ => by simp)) (nine_go (kc_keeps k fun _ _ => by simp) (fun _ _ _ _ h _ => h) hrows))
  have HP := Lib.hid hP
  have HN := Lib.hid hn
  have HPS := Lib.hid hps
  have HO := Lib.hid (bin_ops ho)
  have HAR := Lib.hid (fun W => earity_any T.op W)
  have hmk : ∀ W : World, (Instr.makeSlice 25 (.int .i64 T.args.length) (.int .i64 T.args.length)).run Tryz.prog W = .ok (.slice (some ⟨W.heap.size, 0, none⟩) T.args.length T.args.length) (W.alloc (.cells (rowC ps 0) 9)) := fun W => by
    rw [← rowC_zero, hps]; exact make_s W T.args.length (by omega)
  have HB0 : Hid (Keeps [] w ((w.alloc (.cells (T.nine (.slice a1 T.lit.its.length c1) (.slice a2 T.lit.ks.length c2) (.slice a3 T.args.length c3)) 52)).alloc (.cells (rowC ps 0) 9)) ∧
      ((w.alloc (.cells (T.nine (.slice a1 T.lit.its.length c1) (.slice a2 T.lit.ks.length c2) (.slice a3 T.args.length c3)) 52)).alloc (.cells (rowC ps 0) 9)).heap[w.heap.size]? = some (.cells (T.nine (.slice a1 T.lit.its.length c1) (.slice a2 T.lit.ks.length c2) (.slice a3 T.args.length c3)) 52 (0, 0)) ∧
      ((w.alloc (.cells (T.nine (.slice a1 T.lit.its.length c1) (.slice a2 T.lit.ks.length c2) (.slice a3 T.args.length c3)) 52)).alloc (.cells (rowC ps 0) 9)).heap[w.heap.size + 1]? = some (.cells (rowC ps 0) 9 (0, 0))) :=
    Lib.hid ⟨((Keeps.refl _ _).alloc _).alloc _, hk_alloc (new_blk _ _) _, new_blk1 _ _ _⟩
  clear h hsl hrows hP hn hps
  go_enter Tryz.func28, Tryz.ntmps28
  go_wp2_with fail
  go_loopw [13] (fun v W => ∃ j : Nat, j ≤ T.args.length ∧ v = .int .i64 j ∧ Hid (Keeps [] w W ∧ W.heap[w.heap.size]? = some (.cells (T.nine (.slice a1 T.lit.its.length c1) (.slice a2 T.lit.ks.length c2) (.slice a3 T.args.length c3)) 52 (0, 0)) ∧ W.heap[w.heap.size + 1]? = some (.cells (rowC ps j) 9 (0, 0)))) (fun v _ => T.args.length - (intOf v).toNat)
  case atStart => exact ⟨0, Nat.zero_le _, rfl, HB0⟩
  case round =>
    obtain ⟨j, hj, rfl, HK⟩ := hrel
    have gbx := cell_blk HK.out.2.1
    by_cases hlt : j < T.args.length
    · have hd : decide ((j : Int) < (T.args.length : Int)) = true := decide_eq_true (by omega)
      obtain ⟨hsl, hrw⟩ := HL.out _ HK.out.1
      obtain ⟨g', o', c', hv, _, _, _, hcells⟩ := hsl.at (by omega)
      cases hv
      obtain ⟨x1, y1, x2, y2, x3, y3, hrep, z0, z1, z2, z3, z4, z5, z6, z7, z8⟩ := nine_cells hrw hcells hlt
      have HR := Lib.hid hrep
      clear hsl hrw hcells hrep
      go_upto_region 5 with fail
      refine abs_world (F := fun W => Keeps [] w W ∧ W.heap[w.heap.size]? = some (.cells (T.nine (.slice a1 T.lit.its.length c1) (.slice a2 T.lit.ks.length c2) (.slice (some ⟨g', o', none⟩) T.args.length c3)) 52 (0, 0)) ∧ W.heap[w.heap.size + 1]? = some (.cells (rowC ps j) 9 (0, 0)) ∧ W.heap[wr.heap.size]? = some (.cells (T.args[j].nine (.slice x1 T.args[j].lit.its.length y1) (.slice x2 T.args[j].lit.ks.length y2) (.slice x3 T.args[j].args.length y3)) 52 (0, 0)) ∧ T.args[j].Rep W S (.slice x1 T.args[j].lit.its.length y1) (.slice x2 T.args[j].lit.ks.length y2) (.slice x3 T.args[j].args.length y3))
        (by exact ⟨HK.out.1.alloc _, hk_alloc HK.out.2.1 _, hk_alloc HK.out.2.2 _, new_blk _ _, HR.out.keep (kc_alloc _)⟩) (fun W4 HW4 => ?_)
      have H4 := Lib.hid HW4
      clear HW4 z0 z1 z2 z3 z4 z5 z6 z7 z8 gbx HK HR
      have gx := cell_blk H4.out.2.2.2.1
      have HC := Lib.hid (HP.out j hlt (by have := HPS.out; omega) W4 _ _ _ S H4.out.2.2.2.2)
      go_wp2_with fail
      refine HC.out.mono ?_
      rintro e5 w5 ⟨rfl, hk5⟩
      have H5 := Lib.hid (And.intro (H4.out.1.trans hk5) (And.intro (hk5.same H4.out.2.1) (hk5.same H4.out.2.2.1)))
      clear hk5 gx H4
      have gr : w5.cell? ⟨w.heap.size + 1, j, none⟩ = some (.string ⟨#[]⟩) := (cell_blk H5.out.2.2 j).trans (rowC_at (by have := HPS.out; omega))
      have gf := frozen_blk H5.out.2.2
      have hl := hk_lt H5.out.2.2
      have hlt2 : (j : Int) < (T.args.length : Int) := by omega
      go_upto_region 6 with fail
      refine abs_world (F := fun W => Keeps [] w W ∧ W.heap[w.heap.size]? = some (.cells (T.nine (.slice a1 T.lit.its.length c1) (.slice a2 T.lit.ks.length c2) (.slice (some ⟨g', o', none⟩) T.args.length c3)) 52 (0, 0)) ∧ W.heap[w.heap.size + 1]? = some (.cells (rowC ps (j + 1)) 9 (0, 0)))
        (by exact ⟨H5.out.1.set (.inr (Nat.le_succ _)) _, hk_set H5.out.2.1 (by dsimp only; omega) _, set_to H5.out.2.2 j _ (rowC_set (by have := HPS.out; omega))⟩) (fun W6 HW6 => ?_)
      have H6 := Lib.hid HW6
      clear HW6 gr gf hl H5 HC
      have hn2 := HN.out
      go_wp2_with fail
      go_roundw
      case rel => exact ⟨j + 1, hlt, by go_num, H6⟩
      case measure => simp [intOf]; omega
    · obtain rfl : j = T.args.length := by omega
      obtain ⟨o1, o2, o3, o4, o5, o6, o7, o8⟩ := HO.out
      rw [o8] at HAR
      have HK3 := Lib.hid HK.out
      go_wp2_with fail
      refine (HAR.out _).mono ?_
      rintro e' w' ⟨rfl, rfl⟩
      have hn2 := HN.out
      have hps2 : ps.length = 2 := HPS.out.trans hn2
      obtain ⟨p0, p1, rfl⟩ : ∃ a b, ps = [a, b] := by
        match ps, hps2 with
        | [a, b], _ => exact ⟨a, b, rfl⟩
      have gr := cell_blk HK3.out.2.2
      have g0 : wr.cell? ⟨w.heap.size + 1, 0, none⟩ = some (.string p0) := (gr 0).trans (by rw [hn2]; rfl)
      have g1 : wr.cell? ⟨w.heap.size + 1, 1, none⟩ = some (.string p1) := (gr 1).trans (by rw [hn2]; rfl)
      have i0 : (0 : Int) < (T.args.length : Int) := by omega
      have i1 : (1 : Int) < (T.args.length : Int) := by omega
      have gbx0 : wr.cell? ⟨w.heap.size, 0, none⟩ = some (.string T.op) := (cell_blk HK3.out.2.1 0).trans rfl
      have hb0 : p0.size ≤ 100000 := hsz _ (by simp)
      have hb1 : p1.size ≤ 100000 := hsz _ (by simp)
      have hbo := bin_size ho
      have n1 : ¬ 9223372036854775807 < 1 + p0.size := by omega
      have n2 : ¬ 9223372036854775807 < 1 + p0.size + 1 := by omega
      have n3 : ¬ 9223372036854775807 < 1 + p0.size + 1 + T.op.size := by omega
      have n4 : ¬ 9223372036854775807 < 1 + p0.size + 1 + T.op.size + 1 := by omega
      have n5 : ¬ 9223372036854775807 < 1 + p0.size + 1 + T.op.size + 1 + p1.size := by omega
      have n6 : ¬ 9223372036854775807 < 1 + p0.size + 1 + T.op.size + 1 + p1.size + 1 := by omega
      clear gr gbx i0 i1 hmk HL HP HK HN HPS
      go_upto_region 24 with fail
      go_region_law (fail)
      all_goals
        go_wp2_with fail
        simp only [Act.put, List.getElem_toArray, List.getElem_cons_succ, List.getElem_cons_zero, List.setIfInBounds_toArray, List.set_cons_zero, List.set_cons_succ]
        go_ret
        exact ⟨rfl, HK3.out.1.drew⟩
end
end Go.Proofs.YtdlkdecigpaaaaaGreatDoor
namespace Go.Proofs.YtdlkdecigpaaaaaGreatDoor
set_option linter.unusedVariables false
set_option linter.unusedSimpArgs false
open Go.RowKit

theorem parseR8 : parseR ex8 (.ok ex8T 9) = (ex8T, 0, 0) := by kernel_rfl
theorem dec1 : decB 1 = ⟨#[49]⟩ := by decide +kernel
theorem dec2 : decB 2 = ⟨#[50]⟩ := by decide +kernel
/-- 2 * x -/
abbrev ex8I : XT := binT ⟨#[42]⟩ (litT (nrV 2)) (.mk varS ⟨#[120]⟩ VT.zero [])
/-- (2 * x) -/
abbrev pr8I : ByteArray := ⟨#[40, 50, 32, 42, 32, 120, 41]⟩
/-- (1 + (2 * x)) -/
abbrev pr8 : ByteArray := ⟨#[40, 49, 32, 43, 32, 40, 50, 32, 42, 32, 120, 41, 41]⟩
theorem print8_lit (n : Nat) (hn : n < 100) (hsz : (decB n).size ≤ 100) (hd : Lib.decDigits n ≠ []) (W : World) (ui uk ua : Value) (S : Nat → Prop) (h : (litT (nrV n)).Rep W S ui uk ua) : Calls Tryz.prog 28 #[(litT (nrV n)).agg ui uk ua] W (PrSays (decB n) W) := by
  obtain ⟨a1, c1, a2, c2, a3, c3, rfl, rfl, rfl⟩ := xrep_shape h
  exact print_lit n eS eS a1 a2 a3 c1 c2 c3 false W hn hsz hd
theorem print8_in (W : World) (vi vk va : Value) (S : Nat → Prop) (h : ex8I.Rep W S vi vk va) : Calls Tryz.prog 28 #[ex8I.agg vi vk va] W (PrSays pr8I W) := by
  have hP : ∀ (j : Nat) (hj : j < ex8I.args.length) (hj2 : j < [decB 2, (⟨#[120]⟩ : ByteArray)].length) (W : World) (ui uk ua : Value) (S : Nat → Prop), ex8I.args[j].Rep W S ui uk ua → Calls Tryz.prog 28 #[ex8I.args[j].agg ui uk ua] W (PrSays [decB 2, (⟨#[120]⟩ : ByteArray)][j] W)
    | 0, _, _, W, ui, uk, ua, S, h => print8_lit 2 (by decide) (by rw [dec2]; decide) (by decide +kernel) W ui uk ua S h
    | 1, _, _, W, ui, uk, ua, S, h => by
      obtain ⟨a1, c1, a2, c2, a3, c3, rfl, rfl, rfl⟩ := xrep_shape h
      exact print_var ⟨#[120]⟩ eS 0 0 a1 a2 a3 c1 c2 c3 false W
    | j + 2, hj, _, _, _, _, _, _, _ => absurd hj (by simp [binT, XT.args])
  have := print_bin ex8I [decB 2, ⟨#[120]⟩] S W vi vk va (by simp [binL, binT, XT.op]) rfl rfl (by intro p hp; simp only [List.mem_cons, List.not_mem_nil, or_false] at hp; rcases hp with rfl | rfl; (rw [dec2]; decide); decide) h hP
  have e : (⟨#[40]⟩ : ByteArray) ++ [decB 2, (⟨#[120]⟩ : ByteArray)][0]! ++ ⟨#[32]⟩ ++ ex8I.op ++ ⟨#[32]⟩ ++ [decB 2, (⟨#[120]⟩ : ByteArray)][1]! ++ ⟨#[41]⟩ = pr8I := by rw [dec2]; decide +kernel
  rw [e] at this
  exact this
theorem print8_any (W : World) (vi vk va : Value) (S : Nat → Prop) (h : ex8T.Rep W S vi vk va) : Calls Tryz.prog 28 #[ex8T.agg vi vk va] W (PrSays pr8 W) := by
  have hP : ∀ (j : Nat) (hj : j < ex8T.args.length) (hj2 : j < [decB 1, pr8I].length) (W : World) (ui uk ua : Value) (S : Nat → Prop), ex8T.args[j].Rep W S ui uk ua → Calls Tryz.prog 28 #[ex8T.args[j].agg ui uk ua] W (PrSays [decB 1, pr8I][j] W)
    | 0, _, _, W, ui, uk, ua, S, h => print8_lit 1 (by decide) (by rw [dec1]; decide) (by decide +kernel) W ui uk ua S h
    | 1, _, _, W, ui, uk, ua, S, h => print8_in W ui uk ua S h
    | j + 2, hj, _, _, _, _, _, _, _ => absurd hj (by simp [binT, XT.args])
  have := print_bin ex8T [decB 1, pr8I] S W vi vk va (by simp [binL, binT, XT.op]) rfl rfl (by intro p hp; simp only [List.mem_cons, List.not_mem_nil, or_false] at hp; rcases hp with rfl | rfl; (rw [dec1]; decide); decide) h hP
  have e : (⟨#[40]⟩ : ByteArray) ++ [decB 1, pr8I][0]! ++ ⟨#[32]⟩ ++ ex8T.op ++ ⟨#[32]⟩ ++ [decB 1, pr8I][1]! ++ ⟨#[41]⟩ = pr8 := by rw [dec1]; decide +kernel
  rw [e] at this
  exact this
set_option maxRecDepth 20000 in
set_option maxHeartbeats 1000000 in
theorem awake8_any (w : World) (hv : VarOk w) : Calls Tryz.prog 24 #[] w fun e w' => e = .returned (.bool true) ∧ Keeps [] w w' := by
  have hP := eParse_any ex8 w _ (by decide) hv ex8_par
  rw [parseR8] at hP
  have HP := Lib.hid hP
  have HPR := Lib.hid (fun (W : World) (vi vk va : Value) (S : Nat → Prop) (h : ex8T.Rep W S vi vk va) => print8_any W vi vk va S h)
  have hlen : ex8T.args.length = 2 := rfl
  clear hP hv
  generalize ex8T = T at *
  go_enter Tryz.func24, Tryz.ntmps24
  go_wp2_with fail
  refine HP.out.mono ?_
  rintro e w1 ⟨vi, vk, va, rfl, hr, hk1⟩
  dsimp only at hr
  obtain ⟨a1, c1, a2, c2, a3, c3, rfl, rfl, rfl⟩ := xrep_shape hr
  have HK1 := Lib.hid (And.intro (hk1.alloc (.cells (T.nine (.slice a1 T.lit.its.length c1) (.slice a2 T.lit.ks.length c2) (.slice a3 T.args.length c3)) 52)) (And.intro (hr.keep (kc_alloc (.cells (T.nine (.slice a1 T.lit.its.length c1) (.slice a2 T.lit.ks.length c2) (.slice a3 T.args.length c3)) 52))) (new_blk w1 (.cells (T.nine (.slice a1 T.lit.its.length c1) (.slice a2 T.lit.ks.length c2) (.slice a3 T.args.length c3)) 52))))
  rw [hlen] at HK1
  clear hr hk1
  go_wp2_with (go_at_call 28; refine (HPR.out _ _ _ _ _ HK1.out.2.1).mono ?_; rintro e' w2 ⟨rfl, hk2⟩; have HK2 := Lib.hid (And.intro (HK1.out.1.trans hk2) (hk2.same HK1.out.2.2)); have gb := cell_blk HK2.out.2; clear hk2)
  go_ret
  exact ⟨rfl, HK2.out.1⟩
end Go.Proofs.YtdlkdecigpaaaaaGreatDoor
