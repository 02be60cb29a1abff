/- The program's All and the document's All. -/
import Derived.Test.YtlnmjpacagimnaaDoorAllF
namespace Go.Proofs.YtlnmjpacagimnaaDoor
set_option linter.unusedVariables false
set_option linter.unusedSimpArgs false
open Go.RowKit

/-- 'append(v, x)' of a struct: the walk's world is the one with x's own box. -/
theorem app_row {P : Program} {ops : Array Oper} {rest : List Oper} {o : Oper} {a : Act} {Q : Exit → Act → World → Prop} {wr : World} (hgd : o.guard = none) (s y : Operand) (t : TypeId)
    (ho : o.op = .call { callee := .builtin .append, args := #[s, y], argTypes := #[t, t] }) {e : TypeId} {z : Value} {size bytes : Nat} (ht : P.underlying t = some (.slice e))
    (hinfo : (P.info? e).map (fun i => (i.zero, i.size, i.bytes)) = some (some z, size, bytes)) (hz : z.cells.size = size) (hsz : 0 < size) (base : Nat) (v : Value) (n : Nat) (xs : List Value) (cs : Array Value) (hcs : cs.size = size) (hs : a.eval s = v) (H : Nat) (hH : wr.heap.size = H) (hy : a.eval y = .slice (some ⟨H, 0, none⟩) 1 1)
    (hx : ∀ u ∈ cs.toList, u.oneCell' = true) (hown : wr.ownsRow base e size v n xs) (hbase : base ≤ wr.heap.size) (hlen : (n + 1) * bytes ≤ 140737488355328) (h63 : n + 1 ≤ 9223372036854775807)
    (h : ∀ v' w', w'.ownsRow base e size v' (n + 1) (xs ++ cs.toList) → wr.grownBy w' v.ownBlock → (∃ g cap, v' = .slice (some ⟨g, 0, none⟩) (n + 1) cap) → wpList P ops Q rest (a.put o.dst v') w') :
    wpList P ops Q (o :: rest) a (wr.alloc (.cells cs e)) := by
  subst hH
  obtain ⟨i0, hi, hz0, hz1, hz2⟩ := info_parts hinfo
  refine wpList_append_own _ hgd s y t ho base e i0 z size bytes ht hi hz0 hz1 hz2 hz hsz v n xs hs (hown.alloc _) ⟨wr.heap.size, 0, none⟩ 1 1 cs.toList hy (by rw [Array.length_toList, hcs, Nat.one_mul]) ?_ hx (by unfold maxLen; omega) hlen (by rw [World.size_alloc]; omega) ?_
  · intro j u hj
    have hc := cell_blk (new_blk wr (.cells cs e)) j
    have ha : (⟨wr.heap.size, 0, none⟩ : Addr).add j = ⟨wr.heap.size, j, none⟩ := by unfold Addr.add; split <;> simp_all
    rw [ha, hc]; simpa using hj
  · intro v' w' ho' hg' hnil
    refine h v' w' ho' (grown_alloc hg') ?_
    rcases ho'.2 with ⟨_, hn⟩ | ⟨g, cap, cur, hv, _⟩
    · omega
    · exact ⟨g, cap, hv⟩
theorem info_tok : (Tryd.prog.info? 32).map (fun i => (i.zero, i.size, i.bytes)) = some (some (.agg #[.int .i64 0, .string ⟨#[]⟩, .int .i64 0, .int .i64 0, .int .i64 0]), 5, 48) := by kernel_rfl
theorem info_tok5 : (Tryd.prog.info? 33).map (fun i => (i.zero, i.size, i.bytes)) = some (some (.agg #[.int .i64 0, .string ⟨#[]⟩, .int .i64 0, .int .i64 0, .int .i64 0]), 5, 48) := by kernel_rfl
theorem tk_one (t : Tk) : ∀ u ∈ t.cells.toList, u.oneCell' = true := by
  intro u hu
  simp [Tk.cells] at hu
  rcases hu with rfl | rfl | rfl | rfl | rfl <;> rfl
/-- What All answers: the tokens, as a slice of the call's own; the place; the error. -/
def AllSays (e : TypeId) (r : List Tk × Int × Int) (w : World) (e' : Ending) (w' : World) : Prop :=
  ∃ v, e' = .returned (.tuple #[v, .int .i64 r.2.1, .int .i64 r.2.2]) ∧ w'.ownsRow w.heap.size e 5 v r.1.length (tksV r.1) ∧ Below w.heap.size w w'
theorem below_keeps {B : Nat} {S : List Nat} {w w1 w2 : World} (h : Below B w w1) (k : Keeps S w1 w2) (hB : B ≤ w1.heap.size) (hs : ∀ b, b ∈ S → B ≤ b) : Below B w w2 := h.trans (k.to_below hB hs)
theorem own_ne {w : World} {base : Nat} {e T : TypeId} {size n : Nat} {v : Value} {xs : List Value} {b : Nat} {cs : Array Value} {fz : Nat × Nat} (h : w.ownsRow base e size v n xs) (hb : w.heap[b]? = some (.cells cs T fz)) (hT : T ≠ e) : v.ownBlock ≠ some b := by
  rcases h.2 with ⟨rfl, _⟩ | ⟨g, cap, cur, rfl, _, hg, _⟩
  · simp [Value.ownBlock]
  · intro e1
    simp only [Value.ownBlock, Option.some.injEq] at e1
    subst e1
    rw [hg] at hb
    simp only [Option.some.injEq, Obj.cells.injEq] at hb
    exact hT hb.2.1.symm
theorem _root_.Go.World.grownBy.below_of {B : Nat} {w w1 : World} {row : Option Nat} (h : w.grownBy w1 row) (hr : ∀ k, row = some k → B ≤ k) (hB : B ≤ w.heap.size) : Below B w w1 :=
  ⟨h.os, h.tape, h.output, h.size, fun k hk => h.block k (by omega) (fun e => by have := hr k e.symm; omega)⟩
theorem grown_heap {w w1 : World} {row : Option Nat} (h : w.grownBy w1 row) {b : Nat} {o : Obj} (hb : w.heap[b]? = some o) (hn : some b ≠ row) : w1.heap[b]? = some o := (h.block b (hk_lt hb) hn).trans hb
set_option maxRecDepth 20000 in
set_option maxHeartbeats 8000000 in
theorem all_any (s : ByteArray) (w : World) (hs : s.size ≤ 4000) (hv : VarOk w) :
    Calls Tryd.prog 10 #[.string s] w (AllSays 32 (allOf s) w) := by
  have HV := Lib.hid hv
  have hw2 : 2 < w.heap.size := by obtain ⟨ev, hc, _⟩ := hv; exact World.block_lt_of_cell? w _ hc
  have HA : Hid (allOf s = allAt s 0 []) := Lib.hid rfl
  generalize allOf s = r at *
  clear hv
  go_enter Tryd.func10, Tryd.ntmps10
  go_wp2_with (go_at_call 20; refine (lnew_any s _).mono ?_; rintro e' w1 ⟨rfl, rfl⟩)
  go_loopw [5] (fun vs W => ∃ (i : Int) (acc : List Tk) (v : Value), v = vs ∧ 0 ≤ i ∧ i ≤ s.size ∧ Hid (Lex s i w.heap.size W ∧ W.ownsRow w.heap.size 32 5 v acc.length (tksV acc) ∧ Below w.heap.size w W ∧ r = allAt s i acc ∧ (acc.length : Int) ≤ i)) (fun _ W => match W.cell? ⟨w.heap.size, 1, none⟩ with | some (.int _ j) => s.size + 1 - j.toNat | _ => 0)
  case atStart => exact ⟨0, [], _, rfl, by omega, by omega, Lib.hid ⟨lnew_lex s w, World.ownsRow_nil _ _ _ _, bl_alloc (Below.refl _ _) _, HA.out, by simp⟩⟩
  case round =>
    obtain ⟨i, acc, v, rfl, hi0, hi1, H⟩ := hrel
    have HN := Lib.hid (lnext_any s i w.heap.size wr H.out.1 (HV.out.keeps (Keeps.below (S := []) H.out.2.2.1) (by simp)) hw2 hi0 hi1 (by omega))
    have HST := Lib.hid (allAt_step (s := s) (i := i) (acc := acc) hi0 hi1)
    have HNS := Lib.hid (fun h => next_step (s := s) hi0 hi1 h)
    have hbr := blanks_range hi0 hi1
    have HM := Lib.hid (lex_at H.out.1)
    go_wp2_with fail
    refine HN.out.mono ?_
    rintro e' w2 ⟨rfl, hl2, hk2⟩
    generalize nextF s i = x at *
    obtain ⟨⟨kd, tx, vl, hd, st⟩, pl, code⟩ := x
    simp only at hl2 HST HNS
    have H2 := Lib.hid (And.intro hl2 hk2)
    clear hl2 hk2 HN
    have HB2 : Hid (Below w.heap.size w w2) := Lib.hid (below_keeps H.out.2.2.1 H2.out.2 H.out.2.2.1.size (by simp))
    have HO2 := Lib.hid (own_keeps H.out.2.1 H2.out.2 (fun b hb => by simp; rintro rfl; exact own_ne H.out.2.1 H.out.1 (by decide) hb))
    have HFEW := Lib.hid H.out.2.2.2.2
    unfold Tk.cells
    by_cases hc : code = 0
    · subst hc
      have HNS2 := Lib.hid (HNS.out rfl)
      have hst : i ≤ st ∧ st ≤ s.size := by have := HNS2.out; omega
      obtain ⟨hst0, hst1⟩ := hst
      have HLx : Hid (Lex s st w.heap.size w2) := Lib.hid H2.out.1
      have hlo : ∀ k, v.ownBlock = some k → k < w2.heap.size := fun k hk => (HO2.out.lt k hk).2
      have HLO := Lib.hid hlo
      have HNE := Lib.hid (own_ne HO2.out HLx.out (by decide))
      have HRS : Hid (r = if kd = 0 then (acc ++ [⟨kd, tx, vl, hd, st⟩], 0, 0) else allAt s st (acc ++ [⟨kd, tx, vl, hd, st⟩])) := Lib.hid (by rw [H.out.2.2.2.1, HST.out, if_neg (by simp)])
      clear HNS HST hlo
      go_wp2_with (at_builtin; refine app_row rfl _ _ 23 rfl Tryd.underlying23 info_tok rfl (by decide) w.heap.size v acc.length (tksV acc) #[.int .i64 kd, .string tx, .int .i64 vl, .int .i64 hd, .int .i64 st] rfl rfl (w2.heap.size + 1) (World.size_alloc _ _) rfl (tk_one ⟨kd, tx, vl, hd, st⟩) (HO2.out.alloc _) (by have := HB2.out.size; rw [World.size_alloc]; omega) ?c1 ?c2 ?_)
      case c1 => have := HFEW.out; omega
      case c2 => have := HFEW.out; omega
      rintro v' w3 ho hg g1 cap1 rfl
      have HN := Lib.hid (And.intro ho hg)
      clear ho hg
      have HO3 : Hid (w3.ownsRow w.heap.size 32 5 (.slice (some ⟨g1, 0, none⟩) (acc.length + 1) cap1) (acc ++ [Tk.mk kd tx vl hd st]).length (tksV (acc ++ [Tk.mk kd tx vl hd st]))) := Lib.hid (by rw [List.length_append, ← tksV_snoc]; exact HN.out.1)
      have HT3 : Hid (w3.heap[w2.heap.size]? = some (.cells #[.int .i64 kd, .string tx, .int .i64 vl, .int .i64 hd, .int .i64 st] 32 (0, 0))) := Lib.hid (grown_heap HN.out.2 (new_blk _ _) (fun e => by have := HLO.out _ e.symm; omega))
      have HL3 : Hid (Lex s st w.heap.size w3) := Lib.hid (grown_heap HN.out.2 (hk_alloc HLx.out _) (fun e => HNE.out e.symm))
      have HB3 : Hid (Below w.heap.size w w3) := Lib.hid (HB2.out.trans ((grown_alloc HN.out.2).below_of (fun k hk => (HO2.out.lt k hk).1) HB2.out.size))
      have tc := cell_blk HT3.out
      by_cases hkd : kd = 0
      · have hkb : (kd == 0) = true := by simp [hkd]
        have HZ := Lib.hid (HRS.out.trans (if_pos hkd))
        clear hkd HRS
        go_wp2
        go_ret3
        rw [HZ.out]
        exact ⟨_, rfl, HO3.out, HB3.out⟩
      · have hkb : (kd == 0) = false := by simp [hkd]
        have HZ := Lib.hid (HRS.out.trans (if_neg hkd))
        have hsti : i < st := by have := HNS2.out; omega
        clear hkd HRS
        go_wp2
        go_roundw
        case rel => exact ⟨st, acc ++ [⟨kd, tx, vl, hd, st⟩], _, rfl, by omega, hst1, Lib.hid ⟨HL3.out, HO3.out, HB3.out, HZ.out, by have := HFEW.out; simp; omega⟩⟩
        case measure =>
          have m1 := lex_at HL3.out
          have m2 := HM.out
          simp only [m1, m2]
          omega
    · have hcb : (code != 0) = true := by simp [hc]
      have HZ : Hid (r = ([], pl, code)) := Lib.hid (by rw [H.out.2.2.2.1, HST.out, if_pos hc])
      clear hc HNS
      go_wp2
      go_ret3
      rw [HZ.out]
      exact ⟨_, rfl, World.ownsRow_nil _ _ _ _, bl_alloc HB2.out _⟩
set_option maxRecDepth 20000 in
set_option maxHeartbeats 8000000 in
theorem all5_any (s : ByteArray) (w : World) (hs : s.size ≤ 4000) :
    Calls Tryd.prog 11 #[.string s] w (AllSays 33 (allOf s) w) := by
  have HA : Hid (allOf s = allAt s 0 []) := Lib.hid rfl
  generalize allOf s = r at *
  go_enter Tryd.func11, Tryd.ntmps11
  go_wp2
  go_loopw [5, 6] (fun vs p W => ∃ (i : Int) (acc : List Tk) (v : Value), v = vs ∧ p = .int .i64 i ∧ 0 ≤ i ∧ i ≤ s.size ∧ Hid (W.ownsRow w.heap.size 33 5 v acc.length (tksV acc) ∧ Below w.heap.size w W ∧ r = allAt s i acc ∧ (acc.length : Int) ≤ i)) (fun _ p _ => s.size + 1 - (intOf p).toNat)
  case atStart => exact ⟨0, [], _, rfl, rfl, by omega, by omega, Lib.hid ⟨World.ownsRow_nil _ _ _ _, Below.refl _ _, HA.out, by simp⟩⟩
  case round =>
    obtain ⟨i, acc, v, rfl, rfl, hi0, hi1, H⟩ := hrel
    have HN := Lib.hid (next5_any s i wr hi0 hi1 hs)
    have HST := Lib.hid (allAt_step (s := s) (i := i) (acc := acc) hi0 hi1)
    have HNS := Lib.hid (fun h => next_step (s := s) hi0 hi1 h)
    have hbr := blanks_range hi0 hi1
    go_wp2_with fail
    refine HN.out.mono ?_
    rintro e' w2 ⟨rfl, hb2⟩
    generalize nextF s i = x at *
    obtain ⟨⟨kd, tx, vl, hd, st⟩, pl, code⟩ := x
    simp only at HST HNS
    have HB2 : Hid (Below w.heap.size w w2) := Lib.hid (bl_step H.out.2.1 hb2)
    have HO2 := Lib.hid (own_below H.out.1 hb2)
    have HFEW := Lib.hid H.out.2.2.2
    clear hb2 HN
    unfold Tk.cells
    by_cases hc : code = 0
    · subst hc
      have HNS2 := Lib.hid (HNS.out rfl)
      have hst : i ≤ st ∧ st ≤ s.size := by have := HNS2.out; omega
      obtain ⟨hst0, hst1⟩ := hst
      have hlo : ∀ k, v.ownBlock = some k → k < w2.heap.size := fun k hk => (HO2.out.lt k hk).2
      have HLO := Lib.hid hlo
      have HRS : Hid (r = if kd = 0 then (acc ++ [⟨kd, tx, vl, hd, st⟩], 0, 0) else allAt s st (acc ++ [⟨kd, tx, vl, hd, st⟩])) := Lib.hid (by rw [H.out.2.2.1, HST.out, if_neg (by simp)])
      clear HNS HST hlo
      go_wp2_with (at_builtin; refine app_row rfl _ _ 27 rfl Tryd.underlying27 info_tok5 rfl (by decide) w.heap.size v acc.length (tksV acc) #[.int .i64 kd, .string tx, .int .i64 vl, .int .i64 hd, .int .i64 st] rfl rfl (w2.heap.size + 1) (World.size_alloc _ _) rfl (tk_one ⟨kd, tx, vl, hd, st⟩) (HO2.out.alloc _) (by have := HB2.out.size; rw [World.size_alloc]; omega) ?c1 ?c2 ?_)
      case c1 => have := HFEW.out; omega
      case c2 => have := HFEW.out; omega
      rintro v' w3 ho hg g1 cap1 rfl
      have HN := Lib.hid (And.intro ho hg)
      clear ho hg
      have HO3 : Hid (w3.ownsRow w.heap.size 33 5 (.slice (some ⟨g1, 0, none⟩) (acc.length + 1) cap1) (acc ++ [Tk.mk kd tx vl hd st]).length (tksV (acc ++ [Tk.mk kd tx vl hd st]))) := Lib.hid (by rw [List.length_append, ← tksV_snoc]; exact HN.out.1)
      have HT3 : Hid (w3.heap[w2.heap.size]? = some (.cells #[.int .i64 kd, .string tx, .int .i64 vl, .int .i64 hd, .int .i64 st] 33 (0, 0))) := Lib.hid (grown_heap HN.out.2 (new_blk _ _) (fun e => by have := HLO.out _ e.symm; omega))
      have HB3 : Hid (Below w.heap.size w w3) := Lib.hid (HB2.out.trans ((grown_alloc HN.out.2).below_of (fun k hk => (HO2.out.lt k hk).1) HB2.out.size))
      have tc := cell_blk HT3.out
      by_cases hkd : kd = 0
      · have hkb : (kd == 0) = true := by simp [hkd]
        have HZ := Lib.hid (HRS.out.trans (if_pos hkd))
        clear hkd HRS
        go_wp2
        go_ret3
        rw [HZ.out]
        exact ⟨_, rfl, HO3.out, HB3.out⟩
      · have hkb : (kd == 0) = false := by simp [hkd]
        have HZ := Lib.hid (HRS.out.trans (if_neg hkd))
        have hsti : i < st := by have := HNS2.out; omega
        clear hkd HRS
        go_wp2
        go_roundw
        case rel => exact ⟨st, acc ++ [⟨kd, tx, vl, hd, st⟩], _, rfl, rfl, by omega, hst1, Lib.hid ⟨HO3.out, HB3.out, HZ.out, by have := HFEW.out; simp; omega⟩⟩
        case measure => simp [intOf]; omega
    · have hcb : (code != 0) = true := by simp [hc]
      have HZ : Hid (r = ([], pl, code)) := Lib.hid (by rw [H.out.2.2.1, HST.out, if_pos hc])
      clear hc HNS
      go_wp2
      go_ret3
      rw [HZ.out]
      exact ⟨_, rfl, World.ownsRow_nil _ _ _ _, bl_alloc HB2.out _⟩
end Go.Proofs.YtlnmjpacagimnaaDoor
