/- The document's parser: what stands between expressions. -/
import Derived.Deep.WholeRow
import Derived.Laws.Tables
import Derived.Test.YtdlkdecigpaaaaaGreatDoorMp27
namespace Go.Proofs.YtdlkdecigpaaaaaGreatDoor
set_option linter.unusedVariables false
set_option linter.unusedSimpArgs false
open Go.RowKit

theorem wo_nl {t : ByteArray} (h : t ≠ eS) : t.toList.isEmpty = false := toList_ne (fun hz => h (by cases hx : t with | mk d => rw [hx] at hz; simp only [ByteArray.size] at hz; rw [show d = #[] from Array.eq_empty_of_size_eq_zero hz]))
def betwV (s : ByteArray) (i : Int) (n : Nat) : ByteArray × Int := match betw s i n with | some x => x | none => (eS, i)
def rowJ (n j : Nat) : ByteArray := (signsL n).getD j eS
abbrev rowA3 : Array Value := #[.string ⟨#[61, 61]⟩, .string ⟨#[33, 61]⟩, .string ⟨#[60, 61]⟩, .string ⟨#[62, 61]⟩, .string ⟨#[60]⟩, .string ⟨#[62]⟩]
abbrev rowA4 : Array Value := #[.string ⟨#[43]⟩, .string ⟨#[45]⟩, .string ⟨#[]⟩, .string ⟨#[]⟩, .string ⟨#[]⟩, .string ⟨#[]⟩]
abbrev rowA5 : Array Value := #[.string ⟨#[42]⟩, .string ⟨#[47]⟩, .string ⟨#[37]⟩, .string ⟨#[]⟩, .string ⟨#[]⟩, .string ⟨#[]⟩]
def sigA : Array Value := #[.string ⟨#[]⟩, .string ⟨#[]⟩, .string ⟨#[]⟩, .string ⟨#[]⟩, .string ⟨#[]⟩, .string ⟨#[]⟩, .string ⟨#[]⟩, .string ⟨#[]⟩, .string ⟨#[]⟩, .string ⟨#[]⟩, .string ⟨#[]⟩, .string ⟨#[]⟩, .string ⟨#[]⟩, .string ⟨#[]⟩, .string ⟨#[]⟩, .string ⟨#[]⟩, .string ⟨#[]⟩, .string ⟨#[]⟩,
  .string ⟨#[61, 61]⟩, .string ⟨#[33, 61]⟩, .string ⟨#[60, 61]⟩, .string ⟨#[62, 61]⟩, .string ⟨#[60]⟩, .string ⟨#[62]⟩, .string ⟨#[43]⟩, .string ⟨#[45]⟩, .string ⟨#[]⟩, .string ⟨#[]⟩, .string ⟨#[]⟩, .string ⟨#[]⟩, .string ⟨#[42]⟩, .string ⟨#[47]⟩, .string ⟨#[37]⟩, .string ⟨#[]⟩, .string ⟨#[]⟩, .string ⟨#[]⟩]
def sigZ : Array Value := #[.string ⟨#[]⟩, .string ⟨#[]⟩, .string ⟨#[]⟩, .string ⟨#[]⟩, .string ⟨#[]⟩, .string ⟨#[]⟩, .string ⟨#[]⟩, .string ⟨#[]⟩, .string ⟨#[]⟩, .string ⟨#[]⟩, .string ⟨#[]⟩, .string ⟨#[]⟩, .string ⟨#[]⟩, .string ⟨#[]⟩, .string ⟨#[]⟩, .string ⟨#[]⟩, .string ⟨#[]⟩, .string ⟨#[]⟩, .string ⟨#[]⟩, .string ⟨#[]⟩, .string ⟨#[]⟩, .string ⟨#[]⟩, .string ⟨#[]⟩, .string ⟨#[]⟩, .string ⟨#[]⟩, .string ⟨#[]⟩, .string ⟨#[]⟩, .string ⟨#[]⟩, .string ⟨#[]⟩, .string ⟨#[]⟩, .string ⟨#[]⟩, .string ⟨#[]⟩, .string ⟨#[]⟩, .string ⟨#[]⟩, .string ⟨#[]⟩, .string ⟨#[]⟩]
section
variable {P : Program} {ops : Array Oper} {Q : Exit → Act → World → Prop} {a : Act} {w w' : World} {rest : List Oper} {o : Oper}
theorem wpl_val {v : Value} (hg : Region.wanted o (yielded ops a.tmps) = true) (hr : (execOp a.eval o).run P w = .ok (.value v) w') (h : wpList P ops Q rest (a.put o.dst v) w') : wpList P ops Q (o :: rest) a w := by
  unfold wpList
  rw [if_pos hg]
  left
  unfold Oper.wp
  rw [hr, Oper.upon_value]
  exact h
theorem wpl_skip (hg : Region.wanted o (yielded ops a.tmps) = true) (hr : (execOp a.eval o).run P w = .ok .skip w') (h : wpList P ops Q rest (a.put o.dst undef) w') : wpList P ops Q (o :: rest) a w := by
  unfold wpList
  rw [if_pos hg]
  left
  unfold Oper.wp
  rw [hr, Oper.upon_skip]
  exact h
theorem exec_build {ρ : Operand → Value} {t : TypeId} {parts : Array (Nat × Operand)} {cells : Array Value} (ho : o.op = .build t parts) (h : P.built t (parts.map fun (i, x) => (i, ρ x)).toList = some cells) : (execOp ρ o).run P w = .ok (.value (.agg cells)) w := by
  unfold execOp
  rw [ho]
  simp [run_build _ _ _ _ h]
theorem exec_store {ρ : Operand → Value} {t : TypeId} {x y : Operand} {vx vy : Value} (ho : o.op = .store t x y) (hx : ρ x = vx) (hy : ρ y = vy) (h : (Instr.storeAt t vx vy).run P w = .ok () w') : (execOp ρ o).run P w = .ok .skip w' := by
  unfold execOp
  rw [ho]
  simp [hx, hy, h]
end
theorem six {j : Nat} (h : j < 6) : j = 0 ∨ j = 1 ∨ j = 2 ∨ j = 3 ∨ j = 4 ∨ j = 5 := by omega
theorem row_ix3 (j : Nat) (hj : j < 6) : ∀ w : World, (Instr.index 58 (.agg rowA3) (.int .i64 (j : Int))).run Tryz.prog w = .ok (.string (rowJ 3 j)) w := by
  rcases six hj with rfl | rfl | rfl | rfl | rfl | rfl <;> intro w <;> kernel_rfl
theorem row_ix4 (j : Nat) (hj : j < 6) : ∀ w : World, (Instr.index 58 (.agg rowA4) (.int .i64 (j : Int))).run Tryz.prog w = .ok (.string (rowJ 4 j)) w := by
  rcases six hj with rfl | rfl | rfl | rfl | rfl | rfl <;> intro w <;> kernel_rfl
theorem row_ix5 (j : Nat) (hj : j < 6) : ∀ w : World, (Instr.index 58 (.agg rowA5) (.int .i64 (j : Int))).run Tryz.prog w = .ok (.string (rowJ 5 j)) w := by
  rcases six hj with rfl | rfl | rfl | rfl | rfl | rfl <;> intro w <;> kernel_rfl
theorem row_in (n j : Nat) (h : rowJ n j ≠ eS) : ∃ hj : j < (signsL n).length, rowJ n j = (signsL n)[j] := by
  unfold rowJ at h ⊢
  rw [List.getD_eq_getElem?_getD] at h ⊢
  by_cases c : j < (signsL n).length
  · exact ⟨c, by rw [List.getElem?_eq_getElem c]; rfl⟩
  · rw [List.getElem?_eq_none (by omega)] at h; exact absurd rfl h
theorem row_out (n j : Nat) (hn : n = 3 ∨ n = 4 ∨ n = 5) (h : rowJ n j = eS) : ¬ j < (signsL n).length := fun c => by
  unfold rowJ at h
  rw [List.getD_eq_getElem?_getD, List.getElem?_eq_getElem c] at h
  have h1 := (signs_size (List.getElem_mem c)).1
  have h2 : (signsL n)[j] = eS := h
  rw [h2] at h1; exact absurd h1 (by decide)
theorem fm_at {s : ByteArray} {i : Int} : ∀ {l : List ByteArray} {q : Nat} (hq : q < l.length), (∀ (k : Nat) (hk : k < l.length), k < q → markAt s i l[k] < 0) → 0 ≤ markAt s i l[q] → firstMark s i l = some (l[q], markAt s i l[q])
  | [], _, hq, _, _ => absurd hq (by simp)
  | a :: l, 0, _, _, h => by unfold firstMark; exact if_pos h
  | a :: l, q + 1, hq, h1, h => by
    unfold firstMark
    have := h1 0 (by simp) (by omega)
    rw [if_neg (by simpa using this)]
    exact fm_at (by simpa using hq) (fun k hk hkq => h1 (k + 1) (Nat.succ_lt_succ hk) (by omega)) h
theorem fm_no {s : ByteArray} {i : Int} : ∀ {l : List ByteArray}, (∀ (k : Nat) (hk : k < l.length), markAt s i l[k] < 0) → firstMark s i l = none
  | [], _ => rfl
  | a :: l, h => by
    unfold firstMark
    have := h 0 (by simp)
    rw [if_neg (by simpa using this)]
    exact fm_no fun k hk => h (k + 1) (Nat.succ_lt_succ hk)
/-- What is known after so many signs. -/
def Missed (s : ByteArray) (i : Int) (n j : Nat) : Prop := ∀ (k : Nat) (hk : k < (signsL n).length), k < j → markAt s i (signsL n)[k] < 0
section
variable {s : ByteArray} {i : Int} {n j : Nat}
theorem missed_out (hn : n = 3 ∨ n = 4 ∨ n = 5) (h : Missed s i n j) (h1 : rowJ n j = eS) : Missed s i n (j + 1) := fun k hk hkj => h k hk (by have := row_out n j hn h1; omega)
theorem missed_on (h : Missed s i n j) (hne : rowJ n j ≠ eS) (h1 : markAt s i (rowJ n j) < 0) : Missed s i n (j + 1) := fun k hk hkj => by
  obtain ⟨hj, e⟩ := row_in n j hne
  by_cases c : k = j
  · subst c; rw [← e]; exact h1
  · exact h k hk (by omega)
theorem betw_ge (hn : n = 3 ∨ n = 4 ∨ n = 5) : betw s i n = firstMark s i (signsL n) := by
  unfold betw; rw [if_neg (by omega), if_neg (by omega)]
theorem betw_hit (hn : n = 3 ∨ n = 4 ∨ n = 5) (h : Missed s i n j) (hne : rowJ n j ≠ eS) (h1 : 0 ≤ markAt s i (rowJ n j)) : betwV s i n = (rowJ n j, markAt s i (rowJ n j)) := by
  obtain ⟨hj, e⟩ := row_in n j hne
  unfold betwV
  rw [betw_ge hn, fm_at hj (fun k hk hkj => h k hk hkj) (by rw [← e]; exact h1), e]
theorem betw_miss (hn : n = 3 ∨ n = 4 ∨ n = 5) (h : Missed s i n 6) : betwV s i n = (eS, i) := by
  have hl : (signsL n).length ≤ 6 := by rcases hn with rfl | rfl | rfl <;> decide
  unfold betwV
  rw [betw_ge hn, fm_no fun k hk => h k hk (by omega)]
theorem betw_zero : betwV s i 0 = if wordAt s i = orS then (wordAt s i, wordAtEnd s i) else (eS, i) := by
  unfold betwV betw
  by_cases c : wordAt s i = orS
  · rw [if_pos rfl, if_pos c, if_pos c, c]
  · rw [if_pos rfl, if_neg c, if_neg c]
theorem betw_uno : betwV s i 1 = if wordAt s i = andS then (wordAt s i, wordAtEnd s i) else (eS, i) := by
  unfold betwV betw
  by_cases c : wordAt s i = andS
  · rw [if_neg (by decide), if_pos rfl, if_pos c, if_pos c, c]
  · rw [if_neg (by decide), if_pos rfl, if_neg c, if_neg c]
end
theorem row_len (n j : Nat) (hn : n = 3 ∨ n = 4 ∨ n = 5) : (rowJ n j).size ≤ 10 := by
  by_cases c : rowJ n j = eS
  · rw [c]; decide
  · obtain ⟨hj, e⟩ := row_in n j c
    rw [e]; have := (signs_size (List.getElem_mem hj)).2; omega
section
variable (s : ByteArray) (i : Int) (w : World)
set_option maxRecDepth 20000 in
set_option maxHeartbeats 2000000 in
theorem rbetw_low (n : Nat) (hn : n < 2) (h0 : 0 ≤ i) (hs : s.size ≤ 1000000) :
    Calls Tryz.prog 68 #[.string s, .int .i64 i, .int .i64 n] w fun e w' => e = .returned (.tuple #[.string (betwV s i n).1, .int .i64 (betwV s i n).2]) ∧ w = w' := by
  have HW := Lib.hid (fun w => word_any s i w h0 (by omega))
  rcases (by omega : n = 0 ∨ n = 1) with rfl | rfl
  · have HV : Hid (betwV s i 0 = if wordAt s i = orS then (wordAt s i, wordAtEnd s i) else (eS, i)) := Lib.hid betw_zero
    generalize betwV s i 0 = v at *
    generalize wordAt s i = x at *
    generalize wordAtEnd s i = y at *
    by_cases c : x = orS
    · have HV2 : Hid (v = (x, y)) := Lib.hid (by rw [HV.out, if_pos c])
      have hq : (x.toList == [111, 114]) = true := by have h := str_beq c; rw [toList_data orS] at h; exact h
      clear c HV
      go_enter Tryz.func68, Tryz.ntmps68
      go_wp2_with (go_at_call 58; refine (HW.out _).mono ?_; rintro e w' ⟨rfl, rfl⟩)
      go_ret2
      exact ⟨by rw [HV2.out]; rfl, rfl⟩
    · have HV2 : Hid (v = (eS, i)) := Lib.hid (by rw [HV.out, if_neg c])
      have hq : (x.toList == [111, 114]) = false := by have h := str_bne c; rw [toList_data orS] at h; exact h
      clear c HV
      go_enter Tryz.func68, Tryz.ntmps68
      go_wp2_with (go_at_call 58; refine (HW.out _).mono ?_; rintro e w' ⟨rfl, rfl⟩)
      go_ret2
      exact ⟨by rw [HV2.out]; rfl, rfl⟩
  · have HV : Hid (betwV s i 1 = if wordAt s i = andS then (wordAt s i, wordAtEnd s i) else (eS, i)) := Lib.hid betw_uno
    generalize betwV s i 1 = v at *
    generalize wordAt s i = x at *
    generalize wordAtEnd s i = y at *
    by_cases c : x = andS
    · have HV2 : Hid (v = (x, y)) := Lib.hid (by rw [HV.out, if_pos c])
      have hq : (x.toList == [97, 110, 100]) = true := by have h := str_beq c; rw [toList_data andS] at h; exact h
      clear c HV
      go_enter Tryz.func68, Tryz.ntmps68
      go_wp2_with (go_at_call 58; refine (HW.out _).mono ?_; rintro e w' ⟨rfl, rfl⟩)
      go_ret2
      exact ⟨by rw [HV2.out]; rfl, rfl⟩
    · have HV2 : Hid (v = (eS, i)) := Lib.hid (by rw [HV.out, if_neg c])
      have hq : (x.toList == [97, 110, 100]) = false := by have h := str_bne c; rw [toList_data andS] at h; exact h
      clear c HV
      go_enter Tryz.func68, Tryz.ntmps68
      go_wp2_with (go_at_call 58; refine (HW.out _).mono ?_; rintro e w' ⟨rfl, rfl⟩)
      go_ret2
      exact ⟨by rw [HV2.out]; rfl, rfl⟩
set_option maxRecDepth 20000 in
set_option maxHeartbeats 2000000 in
theorem rbetw_3 (h0 : 0 ≤ i) (h1 : i ≤ s.size) (hs : s.size ≤ 1000000) :
    Calls Tryz.prog 68 #[.string s, .int .i64 i, .int .i64 3] w fun e w' => e = .returned (.tuple #[.string (betwV s i 3).1, .int .i64 (betwV s i 3).2]) ∧ Keeps [] w w' := by
  have HM := Lib.hid (fun (j : Nat) w => rmark_any s (rowJ 3 j) i w h0 h1 hs (by have := row_len 3 j (by omega); omega))
  go_enter Tryz.func68, Tryz.ntmps68
  go_upto_region 6 with fail
  refine wp_region_lit ?_
  refine wpl_val (v := .agg rowA3) (w' := w) rfl (exec_build rfl (by kernel_rfl)) ?_
  refine wpl_val (v := .agg rowA4) (w' := w) rfl (exec_build rfl (by kernel_rfl)) ?_
  refine wpl_val (v := .agg rowA5) (w' := w) rfl (exec_build rfl (by kernel_rfl)) ?_
  refine wpl_val (v := .agg sigA) (w' := w) rfl (exec_build rfl (by kernel_rfl)) ?_
  refine wpl_val (v := .pointer (some ⟨w.heap.size, 0, none⟩)) (w' := w.alloc (.cells sigZ 146)) rfl (by kernel_rfl) ?_
  refine wpl_skip (w' := w.alloc (.cells sigA 146)) rfl (exec_store rfl rfl rfl (run_storeAt_new w _ sigZ sigA (by kernel_rfl) rfl (by kernel_rfl))) ?_
  refine wpList_nil ?_
  refine ‹∀ (a : Act) (w : World), _ → _› _ _ ?_
  simp only [Act.put, List.getElem_toArray, List.getElem_cons_succ, List.getElem_cons_zero, List.setIfInBounds_toArray, List.set_cons_zero, List.set_cons_succ]
  refine abs_world (F := fun W => Keeps [] w W ∧ W.heap[w.heap.size]? = some (.cells sigA 146 (0, 0))) ⟨(Keeps.refl _ _).alloc _, new_blk _ _⟩ (fun W1 HW1 => ?_)
  have HK := Lib.hid HW1.1
  have gc := cell_blk HW1.2
  have y0 : W1.cell? ⟨w.heap.size, 18, none⟩ = some (.string ⟨#[61, 61]⟩) := (gc 18).trans rfl
  have y1 : W1.cell? ⟨w.heap.size, 19, none⟩ = some (.string ⟨#[33, 61]⟩) := (gc 19).trans rfl
  have y2 : W1.cell? ⟨w.heap.size, 20, none⟩ = some (.string ⟨#[60, 61]⟩) := (gc 20).trans rfl
  have y3 : W1.cell? ⟨w.heap.size, 21, none⟩ = some (.string ⟨#[62, 61]⟩) := (gc 21).trans rfl
  have y4 : W1.cell? ⟨w.heap.size, 22, none⟩ = some (.string ⟨#[60]⟩) := (gc 22).trans rfl
  have y5 : W1.cell? ⟨w.heap.size, 23, none⟩ = some (.string ⟨#[62]⟩) := (gc 23).trans rfl
  clear gc HW1
  go_wp2
  go_loop [45] (fun v => ∃ j : Nat, j ≤ 6 ∧ v = .int .i64 j ∧ Hid (Missed s i 3 j)) (fun v => 6 - (intOf v).toNat)
  case atStart => exact ⟨0, by omega, rfl, Lib.hid fun k hk h => absurd h (by omega)⟩
  case round =>
    obtain ⟨j, hj, rfl, HX⟩ := hrel
    by_cases hlt : j < 6
    · have IX := row_ix3 j hlt
      have HMj := Lib.hid (HM.out j)
      by_cases c0 : rowJ 3 j = eS
      · have HO := Lib.hid (missed_out (n := 3) (.inl rfl) HX.out c0)
        rw [c0] at IX
        clear c0 HMj HM
        go_wp2
        go_round
        case rel => exact ⟨j + 1, by omega, by go_num, HO⟩
        case measure => simp [intOf]; omega
      · by_cases c1 : 0 ≤ markAt s i (rowJ 3 j)
        · have HV := Lib.hid (betw_hit (n := 3) (.inl rfl) HX.out c0 c1)
          have hq := wo_nl c0
          clear c0 HX HM
          generalize rowJ 3 j = x at *
          generalize markAt s i x = m at *
          go_wp2_with (go_at_call 66; refine (HMj.out _).mono ?_; rintro e w' ⟨rfl, rfl⟩)
          go_ret2
          exact ⟨by rw [HV.out]; rfl, HK.out⟩
        · have HO := Lib.hid (missed_on HX.out c0 (by omega))
          have hq := wo_nl c0
          clear c0 HX HM
          generalize hx : rowJ 3 j = x at *
          clear hx
          generalize hm : markAt s i x = m at *
          clear hm
          go_wp2_with (go_at_call 66; refine (HMj.out _).mono ?_; rintro e w' ⟨rfl, rfl⟩)
          go_round
          case rel => exact ⟨j + 1, by omega, by go_num, HO⟩
          case measure => simp [intOf]; omega
    · obtain rfl : j = 6 := by omega
      have HV := Lib.hid (betw_miss (n := 3) (.inl rfl) HX.out)
      clear HX HM
      go_wp2
      go_ret2
      exact ⟨by rw [HV.out]; rfl, HK.out⟩
set_option maxRecDepth 20000 in
set_option maxHeartbeats 2000000 in
theorem rbetw_4 (h0 : 0 ≤ i) (h1 : i ≤ s.size) (hs : s.size ≤ 1000000) :
    Calls Tryz.prog 68 #[.string s, .int .i64 i, .int .i64 4] w fun e w' => e = .returned (.tuple #[.string (betwV s i 4).1, .int .i64 (betwV s i 4).2]) ∧ Keeps [] w w' := by
  have HM := Lib.hid (fun (j : Nat) w => rmark_any s (rowJ 4 j) i w h0 h1 hs (by have := row_len 4 j (by omega); omega))
  go_enter Tryz.func68, Tryz.ntmps68
  go_upto_region 6 with fail
  refine wp_region_lit ?_
  refine wpl_val (v := .agg rowA3) (w' := w) rfl (exec_build rfl (by kernel_rfl)) ?_
  refine wpl_val (v := .agg rowA4) (w' := w) rfl (exec_build rfl (by kernel_rfl)) ?_
  refine wpl_val (v := .agg rowA5) (w' := w) rfl (exec_build rfl (by kernel_rfl)) ?_
  refine wpl_val (v := .agg sigA) (w' := w) rfl (exec_build rfl (by kernel_rfl)) ?_
  refine wpl_val (v := .pointer (some ⟨w.heap.size, 0, none⟩)) (w' := w.alloc (.cells sigZ 146)) rfl (by kernel_rfl) ?_
  refine wpl_skip (w' := w.alloc (.cells sigA 146)) rfl (exec_store rfl rfl rfl (run_storeAt_new w _ sigZ sigA (by kernel_rfl) rfl (by kernel_rfl))) ?_
  refine wpList_nil ?_
  refine ‹∀ (a : Act) (w : World), _ → _› _ _ ?_
  simp only [Act.put, List.getElem_toArray, List.getElem_cons_succ, List.getElem_cons_zero, List.setIfInBounds_toArray, List.set_cons_zero, List.set_cons_succ]
  refine abs_world (F := fun W => Keeps [] w W ∧ W.heap[w.heap.size]? = some (.cells sigA 146 (0, 0))) ⟨(Keeps.refl _ _).alloc _, new_blk _ _⟩ (fun W1 HW1 => ?_)
  have HK := Lib.hid HW1.1
  have gc := cell_blk HW1.2
  have y0 : W1.cell? ⟨w.heap.size, 24, none⟩ = some (.string ⟨#[43]⟩) := (gc 24).trans rfl
  have y1 : W1.cell? ⟨w.heap.size, 25, none⟩ = some (.string ⟨#[45]⟩) := (gc 25).trans rfl
  have y2 : W1.cell? ⟨w.heap.size, 26, none⟩ = some (.string ⟨#[]⟩) := (gc 26).trans rfl
  have y3 : W1.cell? ⟨w.heap.size, 27, none⟩ = some (.string ⟨#[]⟩) := (gc 27).trans rfl
  have y4 : W1.cell? ⟨w.heap.size, 28, none⟩ = some (.string ⟨#[]⟩) := (gc 28).trans rfl
  have y5 : W1.cell? ⟨w.heap.size, 29, none⟩ = some (.string ⟨#[]⟩) := (gc 29).trans rfl
  clear gc HW1
  go_wp2
  go_loop [45] (fun v => ∃ j : Nat, j ≤ 6 ∧ v = .int .i64 j ∧ Hid (Missed s i 4 j)) (fun v => 6 - (intOf v).toNat)
  case atStart => exact ⟨0, by omega, rfl, Lib.hid fun k hk h => absurd h (by omega)⟩
  case round =>
    obtain ⟨j, hj, rfl, HX⟩ := hrel
    by_cases hlt : j < 6
    · have IX := row_ix4 j hlt
      have HMj := Lib.hid (HM.out j)
      by_cases c0 : rowJ 4 j = eS
      · have HO := Lib.hid (missed_out (n := 4) (.inr (.inl rfl)) HX.out c0)
        rw [c0] at IX
        clear c0 HMj HM
        go_wp2
        go_round
        case rel => exact ⟨j + 1, by omega, by go_num, HO⟩
        case measure => simp [intOf]; omega
      · by_cases c1 : 0 ≤ markAt s i (rowJ 4 j)
        · have HV := Lib.hid (betw_hit (n := 4) (.inr (.inl rfl)) HX.out c0 c1)
          have hq := wo_nl c0
          clear c0 HX HM
          generalize rowJ 4 j = x at *
          generalize markAt s i x = m at *
          go_wp2_with (go_at_call 66; refine (HMj.out _).mono ?_; rintro e w' ⟨rfl, rfl⟩)
          go_ret2
          exact ⟨by rw [HV.out]; rfl, HK.out⟩
        · have HO := Lib.hid (missed_on HX.out c0 (by omega))
          have hq := wo_nl c0
          clear c0 HX HM
          generalize hx : rowJ 4 j = x at *
          clear hx
          generalize hm : markAt s i x = m at *
          clear hm
          go_wp2_with (go_at_call 66; refine (HMj.out _).mono ?_; rintro e w' ⟨rfl, rfl⟩)
          go_round
          case rel => exact ⟨j + 1, by omega, by go_num, HO⟩
          case measure => simp [intOf]; omega
    · obtain rfl : j = 6 := by omega
      have HV := Lib.hid (betw_miss (n := 4) (.inr (.inl rfl)) HX.out)
      clear HX HM
      go_wp2
      go_ret2
      exact ⟨by rw [HV.out]; rfl, HK.out⟩
set_option maxRecDepth 20000 in
set_option maxHeartbeats 2000000 in
theorem rbetw_5 (h0 : 0 ≤ i) (h1 : i ≤ s.size) (hs : s.size ≤ 1000000) :
    Calls Tryz.prog 68 #[.string s, .int .i64 i, .int .i64 5] w fun e w' => e = .returned (.tuple #[.string (betwV s i 5).1, .int .i64 (betwV s i 5).2]) ∧ Keeps [] w w' := by
  have HM := Lib.hid (fun (j : Nat) w => rmark_any s (rowJ 5 j) i w h0 h1 hs (by have := row_len 5 j (by omega); omega))
  go_enter Tryz.func68, Tryz.ntmps68
  go_upto_region 6 with fail
  refine wp_region_lit ?_
  refine wpl_val (v := .agg rowA3) (w' := w) rfl (exec_build rfl (by kernel_rfl)) ?_
  refine wpl_val (v := .agg rowA4) (w' := w) rfl (exec_build rfl (by kernel_rfl)) ?_
  refine wpl_val (v := .agg rowA5) (w' := w) rfl (exec_build rfl (by kernel_rfl)) ?_
  refine wpl_val (v := .agg sigA) (w' := w) rfl (exec_build rfl (by kernel_rfl)) ?_
  refine wpl_val (v := .pointer (some ⟨w.heap.size, 0, none⟩)) (w' := w.alloc (.cells sigZ 146)) rfl (by kernel_rfl) ?_
  refine wpl_skip (w' := w.alloc (.cells sigA 146)) rfl (exec_store rfl rfl rfl (run_storeAt_new w _ sigZ sigA (by kernel_rfl) rfl (by kernel_rfl))) ?_
  refine wpList_nil ?_
  refine ‹∀ (a : Act) (w : World), _ → _› _ _ ?_
  simp only [Act.put, List.getElem_toArray, List.getElem_cons_succ, List.getElem_cons_zero, List.setIfInBounds_toArray, List.set_cons_zero, List.set_cons_succ]
  refine abs_world (F := fun W => Keeps [] w W ∧ W.heap[w.heap.size]? = some (.cells sigA 146 (0, 0))) ⟨(Keeps.refl _ _).alloc _, new_blk _ _⟩ (fun W1 HW1 => ?_)
  have HK := Lib.hid HW1.1
  have gc := cell_blk HW1.2
  have y0 : W1.cell? ⟨w.heap.size, 30, none⟩ = some (.string ⟨#[42]⟩) := (gc 30).trans rfl
  have y1 : W1.cell? ⟨w.heap.size, 31, none⟩ = some (.string ⟨#[47]⟩) := (gc 31).trans rfl
  have y2 : W1.cell? ⟨w.heap.size, 32, none⟩ = some (.string ⟨#[37]⟩) := (gc 32).trans rfl
  have y3 : W1.cell? ⟨w.heap.size, 33, none⟩ = some (.string ⟨#[]⟩) := (gc 33).trans rfl
  have y4 : W1.cell? ⟨w.heap.size, 34, none⟩ = some (.string ⟨#[]⟩) := (gc 34).trans rfl
  have y5 : W1.cell? ⟨w.heap.size, 35, none⟩ = some (.string ⟨#[]⟩) := (gc 35).trans rfl
  clear gc HW1
  go_wp2
  go_loop [45] (fun v => ∃ j : Nat, j ≤ 6 ∧ v = .int .i64 j ∧ Hid (Missed s i 5 j)) (fun v => 6 - (intOf v).toNat)
  case atStart => exact ⟨0, by omega, rfl, Lib.hid fun k hk h => absurd h (by omega)⟩
  case round =>
    obtain ⟨j, hj, rfl, HX⟩ := hrel
    by_cases hlt : j < 6
    · have IX := row_ix5 j hlt
      have HMj := Lib.hid (HM.out j)
      by_cases c0 : rowJ 5 j = eS
      · have HO := Lib.hid (missed_out (n := 5) (.inr (.inr rfl)) HX.out c0)
        rw [c0] at IX
        clear c0 HMj HM
        go_wp2
        go_round
        case rel => exact ⟨j + 1, by omega, by go_num, HO⟩
        case measure => simp [intOf]; omega
      · by_cases c1 : 0 ≤ markAt s i (rowJ 5 j)
        · have HV := Lib.hid (betw_hit (n := 5) (.inr (.inr rfl)) HX.out c0 c1)
          have hq := wo_nl c0
          clear c0 HX HM
          generalize rowJ 5 j = x at *
          generalize markAt s i x = m at *
          go_wp2_with (go_at_call 66; refine (HMj.out _).mono ?_; rintro e w' ⟨rfl, rfl⟩)
          go_ret2
          exact ⟨by rw [HV.out]; rfl, HK.out⟩
        · have HO := Lib.hid (missed_on HX.out c0 (by omega))
          have hq := wo_nl c0
          clear c0 HX HM
          generalize hx : rowJ 5 j = x at *
          clear hx
          generalize hm : markAt s i x = m at *
          clear hm
          go_wp2_with (go_at_call 66; refine (HMj.out _).mono ?_; rintro e w' ⟨rfl, rfl⟩)
          go_round
          case rel => exact ⟨j + 1, by omega, by go_num, HO⟩
          case measure => simp [intOf]; omega
    · obtain rfl : j = 6 := by omega
      have HV := Lib.hid (betw_miss (n := 5) (.inr (.inr rfl)) HX.out)
      clear HX HM
      go_wp2
      go_ret2
      exact ⟨by rw [HV.out]; rfl, HK.out⟩
theorem rbetw_any (n : Nat) (m : Int) (hn : lv n) (hm : m = n) (h0 : 0 ≤ i) (h1 : i ≤ s.size) (hs : s.size ≤ 1000000) :
    Calls Tryz.prog 68 #[.string s, .int .i64 i, .int .i64 m] w fun e w' => e = .returned (.tuple #[.string (betwV s i n).1, .int .i64 (betwV s i n).2]) ∧ Keeps [] w w' := by
  subst hm
  rcases hn with rfl | rfl | rfl | rfl | rfl
  · exact (rbetw_low s i w 0 (by decide) h0 hs).mono fun e w' ⟨a, b⟩ => ⟨a, b ▸ Keeps.refl _ _⟩
  · exact (rbetw_low s i w 1 (by decide) h0 hs).mono fun e w' ⟨a, b⟩ => ⟨a, b ▸ Keeps.refl _ _⟩
  · exact rbetw_3 s i w h0 h1 hs
  · exact rbetw_4 s i w h0 h1 hs
  · exact rbetw_5 s i w h0 h1 hs
end
end Go.Proofs.YtdlkdecigpaaaaaGreatDoor
