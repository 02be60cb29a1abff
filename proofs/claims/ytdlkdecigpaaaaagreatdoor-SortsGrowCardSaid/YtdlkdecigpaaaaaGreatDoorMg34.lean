/- Put together: The walk of Check; Where more may be, no less comes out: plain words on sorts; Sorts as truths: the document's Of; the words of sorts; chevallaw09.Env: what this, and the names x and y, may be. -/
import Derived.Test.YtdlkdecigpaaaaaGreatDoorMg33
namespace Go.Proofs.YtdlkdecigpaaaaaGreatDoor
set_option linter.unusedVariables false
set_option linter.unusedSimpArgs false
open Go.RowKit

theorem elem_so : Elem Tryz.prog 34 33 (.int .i64 0) 1 8 := ⟨Tryz.underlying34, by kernel_rfl, rfl, by decide⟩
def nodeOk (T : XT) : Prop := memL T.op (ruleL.map (·.1)) = true ∧ 0 < T.args.length
theorem XGood.node {T : XT} (h : XGood T) : (∃ v, litOk v ∧ T = litT v) ∨ T = .mk thisS eS VT.zero [] ∨ (∃ nm, T = .mk varS nm VT.zero []) ∨ nodeOk T := by
  have hb : ∀ op ∈ binL, memL op (ruleL.map (·.1)) = true := fun op h => by
    simp only [binL, List.mem_cons, List.not_mem_nil, or_false] at h
    rcases h with rfl | rfl | rfl | rfl | rfl | rfl | rfl | rfl | rfl | rfl | rfl | rfl | rfl <;> decide +kernel
  cases h with
  | lit h => exact .inl ⟨_, h, rfl⟩
  | this => exact .inr (.inl rfl)
  | var => exact .inr (.inr (.inl ⟨_, rfl⟩))
  | get h => exact .inr (.inr (.inr ⟨by show memL getS _ = true; decide +kernel, by show 0 < List.length [_]; simp⟩))
  | at_ h k => exact .inr (.inr (.inr ⟨by show memL atS _ = true; decide +kernel, by show 0 < List.length [_, _]; simp⟩))
  | un ho h => exact .inr (.inr (.inr ⟨by rcases ho with rfl | rfl; exact (by decide +kernel : memL notS (ruleL.map (·.1)) = true); exact (by decide +kernel : memL negS (ruleL.map (·.1)) = true), by show 0 < List.length [_]; simp⟩))
  | bin ho h k => exact .inr (.inr (.inr ⟨hb _ ho, by show 0 < List.length [_, _]; simp⟩))
  | call ha hl h =>
    rename_i w l
    refine .inr (.inr (.inr ⟨?_, by show 0 < List.length l; omega⟩))
    show memL w _ = true
    have ha2 : w ∈ oneL ∨ w ∈ twoL := by
      unfold argsN at ha
      split at ha
      · rename_i h; exact .inl (memL_iff.1 h)
      · split at ha
        · rename_i h; exact .inr (memL_iff.1 h)
        · omega
    rcases ha2 with h | h
    · simp only [oneL, List.mem_cons, List.not_mem_nil, or_false] at h
      rcases h with rfl | rfl | rfl | rfl | rfl | rfl | rfl <;> decide +kernel
    · simp only [twoL, List.mem_cons, List.not_mem_nil, or_false] at h
      rcases h with rfl | rfl | rfl | rfl | rfl <;> decide +kernel
theorem rule_ne {t : ByteArray} (h : memL t (ruleL.map (·.1)) = true) : t ≠ litS ∧ t ≠ thisS ∧ t ≠ varS := by
  refine ⟨?_, ?_, ?_⟩ <;> (rintro rfl; revert h; decide +kernel)
/-- What holds in Check's loop. -/
structure ChkX (E : SEnv) (T : XT) (a1 a2 a3 b1 b2 : Option Addr) (c1 c2 c3 d1 d2 : Nat) (v : Value) (j : Nat) (w W : World) : Prop where
  own : W.ownsRow (w.heap.size + 2) 33 1 v j (((T.args.take j).map fun U => (chk E U).1).map (Value.int .i64))
  ok : ∀ i (hi : i < T.args.length), i < j → (chk E T.args[i]).2 = 0
  keeps : Keeps [] w W
  bt : W.heap[w.heap.size]? = some (.cells (T.nine (.slice a1 T.lit.its.length c1) (.slice a2 T.lit.ks.length c2) (.slice a3 T.args.length c3)) 52 (0, 0))
  be : W.heap[w.heap.size + 1]? = some (.cells #[.int .i64 E.this, .slice b1 E.names.length d1, .slice b2 E.sorts.length d2] 36 (0, 0))
section
variable {E : SEnv} {T : XT} {a1 a2 a3 b1 b2 : Option Addr} {c1 c2 c3 d1 d2 : Nat} {v : Value} {j : Nat} {w W W' : World}
theorem ChkX.go (h : ChkX E T a1 a2 a3 b1 b2 c1 c2 c3 d1 d2 v j w W) (k : Keeps [] W W') : ChkX E T a1 a2 a3 b1 b2 c1 c2 c3 d1 d2 v j w W' :=
  ⟨own_below h.own k.nil_below, h.ok, h.keeps.trans k, k.same h.bt, k.same h.be⟩
theorem chkx_new : ChkX E T a1 a2 a3 b1 b2 c1 c2 c3 d1 d2 (.slice none 0 0) 0 w ((w.alloc (.cells (T.nine (.slice a1 T.lit.its.length c1) (.slice a2 T.lit.ks.length c2) (.slice a3 T.args.length c3)) 52)).alloc (.cells #[.int .i64 E.this, .slice b1 E.names.length d1, .slice b2 E.sorts.length d2] 36)) :=
  ⟨World.ownsRow_nil _ _ _ _, fun i hi h => absurd h (Nat.not_lt_zero _), ((Keeps.refl _ _).alloc _).alloc _, hk_alloc (new_blk _ _) _, new_blk1 _ _ _⟩
theorem ChkX.app {v' : Value} {w3 : World} {xv : Int} (h : ChkX E T a1 a2 a3 b1 b2 c1 c2 c3 d1 d2 v j w W) (hj : j < T.args.length) (hx : chk E T.args[j] = (xv, 0)) (ho : w3.ownsRow (w.heap.size + 2) 33 1 v' (j + 1) (((T.args.take j).map fun U => (chk E U).1).map (Value.int .i64) ++ [.int .i64 xv]))
    (hgr : (W.alloc (.cells #[.int .i64 xv] 33)).grownBy w3 v.ownBlock) : ChkX E T a1 a2 a3 b1 b2 c1 c2 c3 d1 d2 v' (j + 1) w w3 := by
  have hrow : ∀ q, v.ownBlock = some q → w.heap.size + 2 ≤ q := fun q hq => (h.own.lt q hq).1
  have hsz := hk_lt h.be
  refine ⟨?_, fun i hi hij => ?_, keeps_grown (h.keeps.alloc _) hgr (fun q hq => by have := hrow q hq; omega), hk_grow (hk_alloc h.bt _) hgr (fun e => by have := hrow _ e.symm; omega), hk_grow (hk_alloc h.be _) hgr (fun e => by have := hrow _ e.symm; omega)⟩
  · rw [List.take_succ_eq_append_getElem hj, List.map_append, List.map_append]
    simpa [hx] using ho
  · by_cases hl : i < j
    · exact h.ok i hi hl
    · obtain rfl : i = j := by omega
      rw [hx]
end
theorem chk_node {E : SEnv} {T : XT} (h : memL T.op (ruleL.map (·.1)) = true) : chk E T = if (chkL E T.args).2 = 0 then ruleOut (ruleF T.op) (chkL E T.args).1 else (0, (chkL E T.args).2) := by
  obtain ⟨o, n, v, l⟩ := T
  have hz := rule_ne h
  simp only [XT.op, XT.args] at *
  rw [chk, if_neg hz.1, if_neg hz.2.1, if_neg hz.2.2]; split <;> rename_i h1 <;> simp only [h1, if_true, if_false]
theorem rule_facts {w W w2 : World} {v : Value} {n : Nat} {S : Nat → Prop} {cs : List Value} {c : Array Value} {t : TypeId} (hk : Keeps [] w w2) (hk2 : Keeps [] W w2) (hs : Sl W S 1 v n cs) (o : Unit) (nq : Nat) :
    Keeps [] w ((w2.alloc (.cells c t)).drewN nq) ∧ ((w2.alloc (.cells c t)).drewN nq).heap[w2.heap.size]? = some (.cells c t (0, 0)) ∧ Sl ((w2.alloc (.cells c t)).drewN nq) S 1 v n cs :=
  ⟨(hk.alloc _).drewN _, new_blk _ _, (hs.keep (kc_keeps hk2 fun _ _ => by simp)).keep ((kc_alloc _).trans (kc_drewN _))⟩
set_option maxRecDepth 20000 in
set_option maxHeartbeats 3000000 in
theorem scheck_any (E : SEnv) : ∀ (k : Nat) (T : XT) (vi vk va vN vS : Value) (S S2 : Nat → Prop) (w : World), T.depth ≤ k → k ≤ 1000000 → XGood T → T.Rep w S vi vk va → EnvAt E vN vS w S2 →
    Calls Tryz.prog 17 #[T.agg vi vk va, envV E vN vS] w (ChkSays (chk E T) w) := by
  intro k
  induction k with
  | zero => intro T _ _ _ _ _ _ _ _ h; have := depth_pos T; omega
  | succ k ih =>
    intro T vi vk va vN vS S S2 w hd hk hg h hE
    obtain ⟨a1, c1, a2, c2, a3, c3, rfl, rfl, rfl⟩ := xrep_shape h
    obtain ⟨b1, d1, rfl, _, _⟩ := hE.names.shape
    obtain ⟨b2, d2, rfl, _, _⟩ := hE.sorts.shape
    rcases hg.node with ⟨v, hv, rfl⟩ | rfl | ⟨nm, rfl⟩ | ⟨hop, hpos⟩
    · exact scheck_lit E b1 b2 d1 d2 w v hv a1 a2 a3 c1 c2 c3
    · exact scheck_this E b1 b2 d1 d2 w a1 a2 a3 c1 c2 c3
    · exact scheck_var E b1 b2 d1 d2 w S2 nm hE a1 a2 a3 c1 c2 c3
    · obtain ⟨cs, hsl, hrows⟩ := xrep_row h
      have hlen := hg.len
      have hdl : XT.deepL T.args ≤ k := by have := depth_args T; omega
      have HI := Lib.hid (fun (j : Nat) (hj : j < T.args.length) (a1 : Option Addr) (c1 : Nat) (a2 : Option Addr) (c2 : Nat) (a3 : Option Addr) (c3 : Nat) (W : World) (hk : Keeps [] w W) (hr : T.args[j].Rep W S (.slice a1 T.args[j].lit.its.length c1) (.slice a2 T.args[j].lit.ks.length c2) (.slice a3 T.args[j].args.length c3)) =>
        ih T.args[j] _ _ _ _ _ S S2 W (by have := deepL_mem (List.getElem_mem hj); omega) (by omega) (hg.arg _ (List.getElem_mem hj)) hr (hE.keep (kc_keeps hk fun _ _ => by simp)))
      have HL := Lib.hid (fun (W : World) (k : Keeps [] w W) => And.intro (hsl.keep (kc_keeps k fun _ _ => by simp)) (nine_go (kc_keeps k fun _ _ => by simp) (fun _ _ _ _ h _ => h) hrows))
      have HC := Lib.hid (chk_node (E := E) hop)
      have HRU := Lib.hid (ruled_any hop)
      have hz := rule_ne hop
      have z1 := tl_ne (l := [108, 105, 116]) hz.1
      have z2 := tl_ne (l := [116, 104, 105, 115]) hz.2.1
      have z3 := tl_ne (l := [118, 97, 114]) hz.2.2
      have HX0 := Lib.hid (chkx_new (E := E) (T := T) (a1 := a1) (a2 := a2) (a3 := a3) (b1 := b1) (b2 := b2) (c1 := c1) (c2 := c2) (c3 := c3) (d1 := d1) (d2 := d2) (w := w))
      clear h hsl hrows hg hd ih hE hz hop
      go_enter Tryz.func17, Tryz.ntmps17
      go_wp2_with fail
      go_loopw [7, 42] (fun v i W => ∃ j : Nat, j ≤ T.args.length ∧ i = .int .i64 j ∧ Hid (ChkX E T a1 a2 a3 b1 b2 c1 c2 c3 d1 d2 v j w W)) (fun _ i _ => T.args.length - (intOf i).toNat)
      case atStart => exact ⟨0, Nat.zero_le _, rfl, HX0⟩
      case round =>
        obtain ⟨j, hj, rfl, HX⟩ := hrel
        obtain ⟨A, cp, hvv, hle⟩ := own_slice_len HX.out.own
        subst hvv
        have gb1 := cell_blk HX.out.bt
        have gb2 := cell_blk HX.out.be
        have hl1 := hk_lt HX.out.be
        by_cases hlt : j < T.args.length
        · obtain ⟨hsl, hrw⟩ := HL.out _ HX.out.keeps
          obtain ⟨g', o', c', hv, _, _, _, hcells⟩ := hsl.at (by omega)
          cases hv
          obtain ⟨x1, y1, x2, y2, x3, y3, hrep, q0, q1, q2, q3, q4, q5, q6, q7, q8⟩ := nine_cells hrw hcells hlt
          have HR := Lib.hid hrep
          obtain ⟨xv, cv, hx⟩ : ∃ xv cv, chk E T.args[j] = (xv, cv) := ⟨_, _, rfl⟩
          have HCJ := Lib.hid hx
          have HCALL := Lib.hid (fun (W : World) (k : Keeps [] wr W) => hx ▸ HI.out j hlt _ _ _ _ _ _ W (HX.out.keeps.trans k) (HR.out.keep (kc_keeps k fun _ _ => by simp)))
          clear hsl hrw hcells hrep hx
          by_cases hc : cv = 0
          · subst hc
            go_wp2_with (first
              | (go_at_call 17; refine (HCALL.out _ ((Keeps.refl _ _).alloc _)).mono ?_; rintro e' w2 ⟨rfl, hk2⟩; have HX2 := Lib.hid (HX.out.go (((Keeps.refl _ _).alloc _).trans hk2)); clear hk2)
              | (at_builtin; refine wpList_append_sl rfl _ _ _ rfl rfl elem_so (v := .slice A j cp) (base := w.heap.size + 2) (S := fun _ => True) (x := .slice (some ⟨w2.heap.size, 0, none⟩) 1 1) rfl rfl (HX2.out.own.alloc _) (Sl.of_blk (n := 1) (new_blk _ _) trivial rfl) (by exact one_int [xv]) (by unfold maxLen; omega) (by omega) (by have := hk_lt HX2.out.be; simp; omega) ?_; intro v' w3 ho hgr hb; obtain ⟨vA, vc, hv, _⟩ := own_slice_len ho; subst hv; have HX3 := Lib.hid (HX2.out.app hlt HCJ.out ho hgr); clear ho hgr hb))
            go_roundw
            case rel => exact ⟨j + 1, by omega, by go_num, HX3⟩
            case measure => simp [intOf]; omega
          · have e1 : (cv != 0) = true := by simpa using hc
            have HCE : Hid (chk E T = (0, cv)) := Lib.hid (by
              have h2 := chkL_err (E := E) hlt (fun i hi => HX.out.ok i (by omega) hi) (by rw [HCJ.out]; exact hc)
              rw [HC.out, if_neg (by rw [h2, HCJ.out]; exact hc), h2, HCJ.out])
            clear hc
            go_wp2_with (go_at_call 17; refine (HCALL.out _ ((Keeps.refl _ _).alloc _)).mono ?_; rintro e' w2 ⟨rfl, hk2⟩; have HX2 := Lib.hid (HX.out.go (((Keeps.refl _ _).alloc _).trans hk2)); clear hk2)
            go_ret2
            rw [HCE.out]
            exact ⟨rfl, HX2.out.keeps⟩
        · obtain rfl : j = T.args.length := by omega
          have hall := chkL_ok (E := E) (l := T.args) (fun U hU => by obtain ⟨i, hi, rfl⟩ := List.getElem_of_mem hU; exact HX.out.ok i hi hi)
          have hcf : chk E T = ruleOut (ruleF T.op) (T.args.map fun U => (chk E U).1) := by rw [HC.out, hall, if_pos rfl]
          have hown := HX.out.own
          rw [List.take_length] at hown
          obtain ⟨g', o', c', hv, _, _, hgl, hcells⟩ := (Sl.of_own hown).at hpos
          cases hv
          have HLX := Lib.hid (show (T.args.map fun U => (chk E U).1).length = T.args.length by simp)
          generalize (T.args.map fun U => (chk E U).1) = xs at *
          generalize ruleF T.op = q at *
          obtain ⟨q1, q2, q3, q4⟩ := q
          have HSL : Hid (Sl wr (w.heap.size + 2 ≤ ·) 1 (.slice (some ⟨g', o', none⟩) T.args.length cp) T.args.length (xs.map (Value.int .i64))) := Lib.hid (Sl.of_own hown)
          clear hall hown hgl
          rcases (by omega : T.args.length = 1 ∨ T.args.length = 2) with hL | hL
          · obtain ⟨x0, rfl⟩ := List.length_eq_one_iff.1 (HLX.out.trans hL)
            have HCF := Lib.hid hcf
            have y0 := hcells 0 (.int .i64 x0) rfl
            rw [Nat.add_zero] at y0
            have hd : decide ((1 : Int) < (T.args.length : Int)) = false := decide_eq_false (by omega)
            clear hcells hcf hL
            cases hf1 : (bits BinOp.and IntKind.i64 x0 q1 != 0)
            all_goals
              go_upto_region 21 with (go_at_call 42; refine (HRU.out _).mono ?_; rintro e' w2 ⟨rfl, hk2⟩; have HX2 := Lib.hid (HX.out.go hk2); have HK2 := Lib.hid hk2; have y2 := (hk2.nil_below.cell (p := ⟨g', o', none⟩) (World.block_lt_of_cell? _ _ y0)).trans y0; have hly := World.block_lt_of_cell? _ _ y2; clear hk2)
              go_quiet (fail)
              refine ‹∀ (a : Act) (w : World), _ → _› _ _ ?_
              refine abs_world (F := fun W => Keeps [] w W ∧ W.heap[w2.heap.size]? = some (.cells #[.int .i64 q1, .int .i64 q2, .int .i64 q3, .bool q4] 91 (0, 0)) ∧ Sl W (w.heap.size + 2 ≤ ·) 1 (.slice (some ⟨g', o', none⟩) T.args.length cp) T.args.length ([x0].map (Value.int .i64))) (rule_facts HX2.out.keeps HK2.out HSL.out () _) (fun W4 HW4 => ?_)
              have H4 := Lib.hid HW4
              have gr := cell_blk H4.out.2.1
              have hlr := hk_lt H4.out.2.1
              clear HW4
              go_wp2_with fail
              go_ret2
              rw [HCF.out]
              exact ⟨by simp [ruleOut, mayB, hf1], H4.out.1⟩
          · obtain ⟨x0, x1, rfl⟩ : ∃ x0 x1, xs = [x0, x1] := by
              have h2 := HLX.out.trans hL
              match xs, h2 with
              | [x0, x1], _ => exact ⟨x0, x1, rfl⟩
            have HCF := Lib.hid hcf
            have y0 := hcells 0 (.int .i64 x0) rfl
            have y1 := hcells 1 (.int .i64 x1) rfl
            rw [Nat.add_zero] at y0
            have hd : decide ((1 : Int) < (T.args.length : Int)) = true := decide_eq_true (by omega)
            have hL1 : 1 < T.args.length := by omega
            clear hcells hcf hL
            cases hf1 : (bits BinOp.and IntKind.i64 x0 q1 != 0) <;> cases hf2 : (bits BinOp.and IntKind.i64 x1 q2 != 0) <;> cases q4 <;> cases hf3 : (bits BinOp.and IntKind.i64 (bits BinOp.and IntKind.i64 x0 x1) q1 != 0)
            all_goals
              go_upto_region 21 with (go_at_call 42; refine (HRU.out _).mono ?_; rintro e' w2 ⟨rfl, hk2⟩; have HX2 := Lib.hid (HX.out.go hk2); have HK2 := Lib.hid hk2; have y2 := (hk2.nil_below.cell (p := ⟨g', o', none⟩) (World.block_lt_of_cell? _ _ y0)).trans y0; have hly := World.block_lt_of_cell? _ _ y2; have y3 := (hk2.nil_below.cell (p := ⟨g', o' + 1, none⟩) (World.block_lt_of_cell? _ _ y1)).trans y1; clear hk2)
              go_quiet (fail)
              refine ‹∀ (a : Act) (w : World), _ → _› _ _ ?_
              refine abs_world (F := fun W => Keeps [] w W ∧ W.heap[w2.heap.size]? = some (.cells #[.int .i64 q1, .int .i64 q2, .int .i64 q3, .bool _] 91 (0, 0)) ∧ Sl W (w.heap.size + 2 ≤ ·) 1 (.slice (some ⟨g', o', none⟩) T.args.length cp) T.args.length ([x0, x1].map (Value.int .i64))) (rule_facts HX2.out.keeps HK2.out HSL.out () _) (fun W4 HW4 => ?_)
              have H4 := Lib.hid HW4
              have gr := cell_blk H4.out.2.1
              have hlr := hk_lt H4.out.2.1
              clear HW4
              obtain ⟨g5, o5, c5, hv5, _, _, hg5, hc5⟩ := H4.out.2.2.at hpos
              cases hv5
              have y4 := hc5 0 (.int .i64 x0) rfl
              have y5 := hc5 1 (.int .i64 x1) rfl
              rw [Nat.add_zero] at y4
              clear hc5
              go_upto_region 23 with fail
              go_quiet (fail)
              refine ‹∀ (a : Act) (w : World), _ → _› _ _ ?_
              refine abs_world (F := fun W => Keeps [] w W ∧ W.heap[w2.heap.size]? = some (.cells #[.int .i64 q1, .int .i64 q2, .int .i64 q3, .bool _] 91 (0, 0))) ⟨H4.out.1.drewN _, H4.out.2.1⟩ (fun W6 HW6 => ?_)
              have H6 := Lib.hid HW6
              have gr6 := cell_blk H6.out.2
              clear HW6
              go_wp2_with fail
              go_ret2
              rw [HCF.out]
              exact ⟨by simp [ruleOut, mayB, hf1, hf2, hf3], H6.out.1⟩
end Go.Proofs.YtdlkdecigpaaaaaGreatDoor
namespace Go.Proofs.YtdlkdecigpaaaaaGreatDoor
set_option linter.unusedVariables false
set_option linter.unusedSimpArgs false
open Go.RowKit

abbrev bvI (x : Int) : BitVec 64 := BitVec.ofInt 64 x
theorem bits_and (x y : Int) : bits BinOp.and IntKind.i64 x y = (bvI x &&& bvI y).toInt := by
  show IntKind.i64.wrap ((bvI x &&& bvI y).toNat : Int) = _
  rw [IntKind.wrap_i64, BitVec.toInt_eq_toNat_cond]
  have := (bvI x &&& bvI y).isLt
  split <;> omega
theorem bvI_bits (x y : Int) : bvI (bits BinOp.and IntKind.i64 x y) = bvI x &&& bvI y := by
  rw [bits_and]; exact BitVec.ofInt_toInt
theorem bits_ne (x y : Int) : (bits BinOp.and IntKind.i64 x y != 0) = true ↔ bvI x &&& bvI y ≠ 0#64 := by
  rw [bits_and, bne_iff_ne, ne_eq, ne_eq, ← BitVec.toInt_zero (w := 64), BitVec.toInt_inj]
/-- All of the one are the other's. -/
def SubS (a b : Int) : Prop := bits BinOp.and IntKind.i64 a b = a
theorem sub_bv {a b : Int} (h : SubS a b) : bvI a &&& bvI b = bvI a := by
  rw [← bvI_bits]; rw [show bits BinOp.and IntKind.i64 a b = a from h]
theorem sub_refl {a : Int} (h0 : 0 ≤ a) (h1 : a ≤ 1000) : SubS a a := by
  unfold SubS
  rw [bits_and, BitVec.and_self, BitVec.toInt_ofInt]
  show Int.bmod a (2 ^ 64) = a
  rw [Int.bmod_def]; split <;> omega
theorem and_grow {a b m : Int} (h : SubS a b) (hm : (bits BinOp.and IntKind.i64 a m != 0) = true) : (bits BinOp.and IntKind.i64 b m != 0) = true := by
  rw [bits_ne] at hm ⊢
  intro e
  apply hm
  rw [← sub_bv h, BitVec.and_assoc, e, BitVec.and_zero]
theorem sub_and {a b c d : Int} (h : SubS a b) (k : SubS c d) : SubS (bits BinOp.and IntKind.i64 a c) (bits BinOp.and IntKind.i64 b d) := by
  show bits BinOp.and IntKind.i64 (bits BinOp.and IntKind.i64 a c) (bits BinOp.and IntKind.i64 b d) = _
  rw [bits_and, bvI_bits, bvI_bits, bits_and a c]
  congr 1
  have e : bvI a &&& bvI c &&& (bvI b &&& bvI d) = (bvI a &&& bvI b) &&& (bvI c &&& bvI d) := by ac_rfl
  rw [e, sub_bv h, sub_bv k]
def SubL : List Int → List Int → Prop
  | [], [] => True
  | a :: l, b :: m => SubS a b ∧ SubL l m
  | _, _ => False
theorem may_grow {q : Int × Int × Int × Bool} : ∀ {l m : List Int}, SubL l m → mayB q l = true → mayB q m = true
  | [], [], _, h => h
  | [a], [b], h, k => and_grow h.1 k
  | [a, a'], [b, b'], h, k => by
    simp only [mayB, Bool.and_eq_true, Bool.or_eq_true] at k ⊢
    exact ⟨and_grow h.1 k.1, and_grow h.2.1 k.2.1, k.2.2.imp id fun z => and_grow (sub_and h.1 h.2.1) z⟩
  | _ :: _ :: _ :: _, _ :: _ :: _ :: _, _, h => (by simp [mayB] at h)
  | [], _ :: _, h, _ => h.elim
  | _ :: _, [], h, _ => h.elim
  | [_], _ :: _ :: _, h, _ => h.2.elim
  | _ :: _ :: _, [_], h, _ => h.2.elim
  | [_, _], _ :: _ :: _ :: _, h, _ => h.2.2.elim
  | _ :: _ :: _ :: _, [_, _], h, _ => h.2.2.elim
theorem rule_out_le (op : ByteArray) : 0 ≤ (ruleF op).2.2.1 ∧ (ruleF op).2.2.1 ≤ 63 := by
  unfold ruleF
  cases h : ruleL.find? fun x => decide (x.1 = op) with
  | none => exact ⟨by decide, by decide⟩
  | some x =>
    have hm := List.mem_of_find?_eq_some h
    have hall : ∀ x ∈ ruleL, 0 ≤ x.2.2.2.1 ∧ x.2.2.2.1 ≤ 63 := by decide +kernel
    exact hall x hm
section
variable {E F : SEnv}
theorem chkL_grow : ∀ {l : List XT}, (∀ T ∈ l, (chk E T).2 = 0 → (chk F T).2 = 0 ∧ SubS (chk E T).1 (chk F T).1) → (chkL E l).2 = 0 → (chkL F l).2 = 0 ∧ SubL (chkL E l).1 (chkL F l).1
  | [], _, _ => by rw [chkL, chkL]; exact ⟨rfl, trivial⟩
  | T :: l, h, k => by
    rw [chkL] at k ⊢
    rw [chkL]
    by_cases c : (chk E T).2 = 0
    · obtain ⟨h1, h2⟩ := h T (.head _) c
      rw [if_pos c] at k ⊢
      rw [if_pos h1]
      by_cases d : (chkL E l).2 = 0
      · obtain ⟨h3, h4⟩ := chkL_grow (fun U hU => h U (.tail _ hU)) d
        rw [if_pos d, if_pos h3]
        exact ⟨rfl, h2, h4⟩
      · rw [if_neg d] at k; exact absurd k d
    · rw [if_neg c] at k; exact absurd k c
theorem chk_grow_node {T : XT} (hop : memL T.op (ruleL.map (·.1)) = true) (h : ∀ U ∈ T.args, (chk E U).2 = 0 → (chk F U).2 = 0 ∧ SubS (chk E U).1 (chk F U).1) (k : (chk E T).2 = 0) : (chk F T).2 = 0 ∧ SubS (chk E T).1 (chk F T).1 := by
  rw [chk_node hop] at k ⊢
  rw [chk_node hop]
  by_cases c : (chkL E T.args).2 = 0
  · obtain ⟨h1, h2⟩ := chkL_grow h c
    rw [if_pos c] at k ⊢
    rw [if_pos h1]
    unfold ruleOut at k ⊢
    by_cases d : mayB (ruleF T.op) (chkL E T.args).1 = true
    · rw [if_pos d, if_pos (may_grow h2 d)]
      have := rule_out_le T.op
      exact ⟨rfl, sub_refl this.1 (by omega)⟩
    · rw [if_neg d] at k; exact absurd k (by decide)
  · rw [if_neg c] at k; exact absurd k c
theorem chk_grow (ht : SubS E.this F.this) (hn : F.names = E.names) (hs : ∀ q, SubS (E.sorts.getD q 0) (F.sorts.getD q 0)) {T : XT} (hg : XGood T) : (chk E T).2 = 0 → (chk F T).2 = 0 ∧ SubS (chk E T).1 (chk F T).1 := by
  have node : ∀ T : XT, nodeOk T → (∀ U ∈ T.args, (chk E U).2 = 0 → (chk F U).2 = 0 ∧ SubS (chk E U).1 (chk F U).1) → (chk E T).2 = 0 → (chk F T).2 = 0 ∧ SubS (chk E T).1 (chk F T).1 := fun T h1 h2 h3 => chk_grow_node h1.1 h2 h3
  have nd : ∀ {T : XT}, XGood T → T.op ≠ litS → T.op ≠ thisS → T.op ≠ varS → nodeOk T := fun {T} h a b c => by
    rcases h.node with ⟨v, _, rfl⟩ | rfl | ⟨nm, rfl⟩ | h
    · exact absurd rfl a
    · exact absurd rfl b
    · exact absurd rfl c
    · exact h
  induction hg with
  | @lit v hv =>
    intro _
    have hk : 0 ≤ v.k ∧ v.k ≤ 5 := by rcases hv with rfl | ⟨b, rfl⟩ | ⟨n, _, _, rfl⟩ | ⟨t, rfl⟩ <;> exact ⟨by show (0 : Int) ≤ _; simp [VT.k, VT.zero, boolV, nrV, textV], by show _ ≤ (5 : Int); simp [VT.k, VT.zero, boolV, nrV, textV]⟩
    have e : ∀ G : SEnv, chk G (litT v) = (2 ^ v.k.toNat, 0) := fun G => by unfold litT; rw [chk]; rfl
    rw [e, e]
    refine ⟨rfl, ?_⟩
    show SubS (2 ^ v.k.toNat) (2 ^ v.k.toNat)
    have h6 : v.k.toNat = 0 ∨ v.k.toNat = 1 ∨ v.k.toNat = 2 ∨ v.k.toNat = 3 ∨ v.k.toNat = 4 ∨ v.k.toNat = 5 := by omega
    rcases h6 with h | h | h | h | h | h <;> rw [h] <;> exact sub_refl (by decide) (by decide)
  | this =>
    intro _
    have e : ∀ G : SEnv, chk G (.mk thisS eS VT.zero []) = (G.this, 0) := fun G => by rw [chk]; rfl
    rw [e, e]; exact ⟨rfl, ht⟩
  | @var nm _ _ _ =>
    have e : ∀ G : SEnv, chk G (.mk varS nm VT.zero []) = (match findL G.names nm with | some q => (G.sorts.getD q 0, 0) | none => (0, 13)) := fun G => by rw [chk]; rfl
    rw [e, e, hn]
    cases findL E.names nm with
    | none => intro h; exact absurd (show (13 : Int) = 0 from h) (by decide)
    | some q => intro _; exact ⟨rfl, hs q⟩
  | get h ih => exact node _ (nd (.get h) (by show getS ≠ _; decide) (by show getS ≠ _; decide) (by show getS ≠ _; decide)) fun U hU => by simp [XT.args, getT] at hU; rw [hU]; exact ih
  | at_ h k ih1 ih2 => exact node _ (nd (.at_ h k) (by show atS ≠ _; decide) (by show atS ≠ _; decide) (by show atS ≠ _; decide)) fun U hU => by simp [XT.args, binT] at hU; rcases hU with rfl | rfl <;> assumption
  | un ho h ih =>
    have hb : ∀ op, (op = notS ∨ op = negS) → op ≠ litS ∧ op ≠ thisS ∧ op ≠ varS := by rintro op (rfl | rfl) <;> decide
    obtain ⟨b1, b2, b3⟩ := hb _ ho
    exact node _ (nd (.un ho h) b1 b2 b3) fun U hU => by simp [XT.args, unT] at hU; rw [hU]; exact ih
  | bin ho h k ih1 ih2 =>
    have hb : ∀ op ∈ binL, op ≠ litS ∧ op ≠ thisS ∧ op ≠ varS := by decide +kernel
    obtain ⟨b1, b2, b3⟩ := hb _ ho
    exact node _ (nd (.bin ho h k) b1 b2 b3) fun U hU => by simp [XT.args, binT] at hU; rcases hU with rfl | rfl <;> assumption
  | @call w l ha hl h ih =>
    have hx : ∀ t, argsN t = 0 → w ≠ t := fun t ht e => by rw [e, ht] at ha; omega
    exact node _ (nd (.call ha hl h) (hx _ (by decide +kernel)) (hx _ (by decide +kernel)) (hx _ (by decide +kernel))) fun U hU => ih U hU
end
end Go.Proofs.YtdlkdecigpaaaaaGreatDoor
namespace Go.Proofs.YtdlkdecigpaaaaaGreatDoor
set_option linter.unusedVariables false
set_option linter.unusedSimpArgs false
open Go.RowKit

def bitZ (m : Int) (i : Nat) : Bool := m / 2 ^ i % 2 == 1
def arrB (m : Int) (j : Nat) : Array Value := #[.bool (decide (0 < j) && bitZ m 0), .bool (decide (1 < j) && bitZ m 1), .bool (decide (2 < j) && bitZ m 2), .bool (decide (3 < j) && bitZ m 3), .bool (decide (4 < j) && bitZ m 4), .bool (decide (5 < j) && bitZ m 5)]
abbrev bit6 (m : Int) : Array Value := #[.bool (bitZ m 0), .bool (bitZ m 1), .bool (bitZ m 2), .bool (bitZ m 3), .bool (bitZ m 4), .bool (bitZ m 5)]
theorem bit_has : ∀ m : Fin 64, ∀ i : Fin 6, hasK (m.val : Int) (i.val : Int) = bitZ m.val i.val := by decide +kernel
theorem arr_set (m : Int) (j : Nat) (hj : j < 6) (x : Int) (hx : x = m / 2 ^ j) : (arrB m j).setIfInBounds j (.bool (x % 2 == 1)) = arrB m (j + 1) := by
  subst hx
  rcases (by omega : j = 0 ∨ j = 1 ∨ j = 2 ∨ j = 3 ∨ j = 4 ∨ j = 5) with rfl | rfl | rfl | rfl | rfl | rfl <;> rfl
theorem half_pow (m : Int) (j : Nat) (hj : j < 6) : m / 2 ^ j / 2 = m / 2 ^ (j + 1) := by
  rcases (by omega : j = 0 ∨ j = 1 ∨ j = 2 ∨ j = 3 ∨ j = 4 ∨ j = 5) with rfl | rfl | rfl | rfl | rfl | rfl <;> simp <;> omega
set_option maxRecDepth 20000 in
set_option maxHeartbeats 1000000 in
theorem rof_any (m : Int) (w : World) (h0 : 0 ≤ m) (h1 : m ≤ 63) : Calls Tryz.prog 20 #[.int .i64 m] w fun e w' => e = .returned (.agg (bit6 m)) ∧ Keeps [] w w' := by
  have HX0 : Hid (Keeps [] w ((w.alloc (.cells #[.bool false, .bool false, .bool false, .bool false, .bool false, .bool false] 38)).alloc (.cells #[.bool false, .bool false, .bool false, .bool false, .bool false, .bool false] 38)) ∧
      ((w.alloc (.cells #[.bool false, .bool false, .bool false, .bool false, .bool false, .bool false] 38)).alloc (.cells #[.bool false, .bool false, .bool false, .bool false, .bool false, .bool false] 38)).heap[w.heap.size]? = some (.cells #[.bool false, .bool false, .bool false, .bool false, .bool false, .bool false] 38 (0, 0)) ∧
      ((w.alloc (.cells #[.bool false, .bool false, .bool false, .bool false, .bool false, .bool false] 38)).alloc (.cells #[.bool false, .bool false, .bool false, .bool false, .bool false, .bool false] 38)).heap[w.heap.size + 1]? = some (.cells (arrB m 0) 38 (0, 0))) := Lib.hid ⟨((Keeps.refl _ _).alloc _).alloc _, hk_alloc (new_blk _ _) _, new_blk1 _ _ _⟩
  have HM : Hid ((m : Int) = m / 2 ^ 0) := Lib.hid (by simp)
  go_enter Tryz.func20, Tryz.ntmps20
  go_wp2
  go_loopw [0, 5] (fun n i W => ∃ (j : Nat) (x : Int), j ≤ 6 ∧ 0 ≤ x ∧ x ≤ 63 ∧ i = .int .i64 j ∧ n = .int .i64 x ∧ Hid (x = m / 2 ^ j ∧ Keeps [] w W ∧ W.heap[w.heap.size]? = some (.cells #[.bool false, .bool false, .bool false, .bool false, .bool false, .bool false] 38 (0, 0)) ∧ W.heap[w.heap.size + 1]? = some (.cells (arrB m j) 38 (0, 0)))) (fun _ i _ => 6 - (intOf i).toNat)
  case atStart => exact ⟨0, m, by omega, h0, h1, rfl, rfl, Lib.hid ⟨HM.out, HX0.out⟩⟩
  case round =>
    obtain ⟨j, x, hj, hx0, hx1, rfl, rfl, HX⟩ := hrel
    have gb1 := cell_blk HX.out.2.2.1
    have gf1 := frozen_blk HX.out.2.2.1
    have gb2 := cell_blk HX.out.2.2.2
    have gf2 := frozen_blk HX.out.2.2.2
    have hl1 := hk_lt HX.out.2.2.1
    have hl2 := hk_lt HX.out.2.2.2
    by_cases hlt : j < 6
    · have HS := Lib.hid (set_to (cs' := arrB m (j + 1)) HX.out.2.2.2 j (.bool (x % 2 == 1)) (arr_set m j hlt x HX.out.1))
      have HN : Hid (x / 2 = m / 2 ^ (j + 1)) := Lib.hid (by rw [HX.out.1]; exact half_pow m j hlt)
      have hx2 : 0 ≤ x / 2 ∧ x / 2 ≤ 63 := by omega
      have HK := Lib.hid (HX.out.2.1.set (p := ⟨w.heap.size + 1, j, none⟩) (.inr (by dsimp only; omega)) (.bool (x % 2 == 1)))
      have HB := Lib.hid (hk_set HX.out.2.2.1 (p := ⟨w.heap.size + 1, j, none⟩) (by dsimp only; omega) (.bool (x % 2 == 1)))
      have hcell : wr.cell? ⟨w.heap.size + 1, j, none⟩ = some ((arrB m j)[j]'hlt) := by rw [gb2 j]; exact Array.getElem?_eq_getElem hlt
      clear gb2
      go_wp2
      go_roundw
      case rel => exact ⟨j + 1, x / 2, by omega, hx2.1, hx2.2, by go_num, rfl, Lib.hid ⟨HN.out, HK.out, HB.out, HS.out⟩⟩
      case measure => simp [intOf]; omega
    · obtain rfl : j = 6 := by omega
      have hbb : wr.heap[w.heap.size + 1]? = some (.cells (bit6 m) 38 (0, 0)) := HX.out.2.2.2
      have HE := Lib.hid (And.intro (six_set HX.out.2.2.1 (.bool (bitZ m 0)) (.bool (bitZ m 1)) (.bool (bitZ m 2)) (.bool (bitZ m 3)) (.bool (bitZ m 4)) (.bool (bitZ m 5))) ((((((HX.out.2.1.set (p := ⟨w.heap.size, 0, none⟩) (.inr (Nat.le_refl _)) (.bool (bitZ m 0))).set (p := ⟨w.heap.size, 1, none⟩) (.inr (Nat.le_refl _)) (.bool (bitZ m 1))).set (p := ⟨w.heap.size, 2, none⟩) (.inr (Nat.le_refl _)) (.bool (bitZ m 2))).set (p := ⟨w.heap.size, 3, none⟩) (.inr (Nat.le_refl _)) (.bool (bitZ m 3))).set (p := ⟨w.heap.size, 4, none⟩) (.inr (Nat.le_refl _)) (.bool (bitZ m 4))).set (p := ⟨w.heap.size, 5, none⟩) (.inr (Nat.le_refl _)) (.bool (bitZ m 5))))
      clear gb2
      have gb2 := cell_blk hbb
      clear hbb
      go_wp2
      refine abs_post (F := fun W => W.heap[w.heap.size]? = some (.cells (bit6 m) 38 (0, 0)) ∧ Keeps [] w W) HE.out (fun W hW => ?_)
      have cr := cell_blk hW.1
      exact bodyPost_ret (v := .agg (bit6 m)) (by simp [results, Tryz.results20, go_sem, cr]) rfl ⟨rfl, hW.2⟩
end Go.Proofs.YtdlkdecigpaaaaaGreatDoor
namespace Go.Proofs.YtdlkdecigpaaaaaGreatDoor
set_option linter.unusedVariables false
set_option linter.unusedSimpArgs false
open Go.RowKit

abbrev xS : ByteArray := ⟨#[120]⟩
abbrev yS : ByteArray := ⟨#[121]⟩
def env3 (a b c : Int) : SEnv := ⟨a % 64, [xS, yS], [b % 64, c % 64]⟩
/-- What it answers: the program's, and the document's. -/
def EnvSays (a b c : Int) (w : World) (e : Ending) (w' : World) : Prop :=
  ∃ (n1 n2 : Nat) (q : Array Value), e = .returned (.tuple #[.agg #[.int .i64 (a % 64), .slice (some ⟨n1, 0, none⟩) 2 2, .slice (some ⟨n2, 0, none⟩) 2 2], .agg q]) ∧ (∃ q0 q1 q2 q3 q4 q5 n6 n7, q = #[.bool q0, .bool q1, .bool q2, .bool q3, .bool q4, .bool q5, .slice (some ⟨n6, 0, none⟩) 2 2, .slice (some ⟨n7, 0, none⟩) 2 2]) ∧ EnvAt (env3 a b c) (.slice (some ⟨n1, 0, none⟩) 2 2) (.slice (some ⟨n2, 0, none⟩) 2 2) w' (w.heap.size ≤ ·) ∧ Keeps [] w w'
theorem env_end {W : World} {r1 r2 : Nat} {t1 t2 : TypeId} {x0 x1 x2 y0 y1 y2 y3 y4 y5 y6 y7 : Value} (h1 : W.heap[r1]? = some (.cells #[x0, x1, x2] t1 (0, 0))) (h2 : W.heap[r2]? = some (.cells #[y0, y1, y2, y3, y4, y5, y6, y7] t2 (0, 0))) (hne : r1 ≠ r2) (o : Obj) (v0 v1 v2 u0 u1 u2 u3 u4 u5 u6 u7 : Value) :
    ((((((((((((W.setCell ⟨r1, 0, none⟩ v0).setCell ⟨r1, 1, none⟩ v1).setCell ⟨r1, 2, none⟩ v2).setCell ⟨r2, 0, none⟩ u0).setCell ⟨r2, 1, none⟩ u1).setCell ⟨r2, 2, none⟩ u2).setCell ⟨r2, 3, none⟩ u3).setCell ⟨r2, 4, none⟩ u4).setCell ⟨r2, 5, none⟩ u5).setCell ⟨r2, 6, none⟩ u6).setCell ⟨r2, 7, none⟩ u7).alloc o).heap[r1]? = some (.cells #[v0, v1, v2] t1 (0, 0)) ∧
    ((((((((((((W.setCell ⟨r1, 0, none⟩ v0).setCell ⟨r1, 1, none⟩ v1).setCell ⟨r1, 2, none⟩ v2).setCell ⟨r2, 0, none⟩ u0).setCell ⟨r2, 1, none⟩ u1).setCell ⟨r2, 2, none⟩ u2).setCell ⟨r2, 3, none⟩ u3).setCell ⟨r2, 4, none⟩ u4).setCell ⟨r2, 5, none⟩ u5).setCell ⟨r2, 6, none⟩ u6).setCell ⟨r2, 7, none⟩ u7).alloc o).heap[r2]? = some (.cells #[u0, u1, u2, u3, u4, u5, u6, u7] t2 (0, 0)) ∧
    Keeps [r1, r2] W ((((((((((((W.setCell ⟨r1, 0, none⟩ v0).setCell ⟨r1, 1, none⟩ v1).setCell ⟨r1, 2, none⟩ v2).setCell ⟨r2, 0, none⟩ u0).setCell ⟨r2, 1, none⟩ u1).setCell ⟨r2, 2, none⟩ u2).setCell ⟨r2, 3, none⟩ u3).setCell ⟨r2, 4, none⟩ u4).setCell ⟨r2, 5, none⟩ u5).setCell ⟨r2, 6, none⟩ u6).setCell ⟨r2, 7, none⟩ u7).alloc o) := by
  have k3 : Keeps [r1, r2] W (((W.setCell ⟨r1, 0, none⟩ v0).setCell ⟨r1, 1, none⟩ v1).setCell ⟨r1, 2, none⟩ v2) := (((Keeps.refl _ _).set (.inl (by simp)) _).set (.inl (by simp)) _).set (.inl (by simp)) _
  have b1 : (((W.setCell ⟨r1, 0, none⟩ v0).setCell ⟨r1, 1, none⟩ v1).setCell ⟨r1, 2, none⟩ v2).heap[r1]? = some (.cells #[v0, v1, v2] t1 (0, 0)) := set_to (cs' := #[v0, v1, v2]) (set_to (cs' := #[v0, v1, x2]) (set_to (cs' := #[v0, x1, x2]) h1 0 v0 rfl) 1 v1 rfl) 2 v2 rfl
  have b2 : (((W.setCell ⟨r1, 0, none⟩ v0).setCell ⟨r1, 1, none⟩ v1).setCell ⟨r1, 2, none⟩ v2).heap[r2]? = some (.cells #[y0, y1, y2, y3, y4, y5, y6, y7] t2 (0, 0)) := hk_set (hk_set (hk_set h2 (fun e => hne e.symm) _) (fun e => hne e.symm) _) (fun e => hne e.symm) _
  generalize ((W.setCell ⟨r1, 0, none⟩ v0).setCell ⟨r1, 1, none⟩ v1).setCell ⟨r1, 2, none⟩ v2 = X at *
  have k8 : Keeps [r2] X ((((((((X.setCell ⟨r2, 0, none⟩ u0).setCell ⟨r2, 1, none⟩ u1).setCell ⟨r2, 2, none⟩ u2).setCell ⟨r2, 3, none⟩ u3).setCell ⟨r2, 4, none⟩ u4).setCell ⟨r2, 5, none⟩ u5).setCell ⟨r2, 6, none⟩ u6).setCell ⟨r2, 7, none⟩ u7) := ((((((((Keeps.refl _ _).set (.inl (by simp)) _).set (.inl (by simp)) _).set (.inl (by simp)) _).set (.inl (by simp)) _).set (.inl (by simp)) _).set (.inl (by simp)) _).set (.inl (by simp)) _).set (.inl (by simp)) _
  have b3 : ((((((((X.setCell ⟨r2, 0, none⟩ u0).setCell ⟨r2, 1, none⟩ u1).setCell ⟨r2, 2, none⟩ u2).setCell ⟨r2, 3, none⟩ u3).setCell ⟨r2, 4, none⟩ u4).setCell ⟨r2, 5, none⟩ u5).setCell ⟨r2, 6, none⟩ u6).setCell ⟨r2, 7, none⟩ u7).heap[r2]? = some (.cells #[u0, u1, u2, u3, u4, u5, u6, u7] t2 (0, 0)) :=
    set_to (cs' := #[u0, u1, u2, u3, u4, u5, u6, u7]) (set_to (cs' := #[u0, u1, u2, u3, u4, u5, u6, y7]) (set_to (cs' := #[u0, u1, u2, u3, u4, u5, y6, y7]) (set_to (cs' := #[u0, u1, u2, u3, u4, y5, y6, y7]) (set_to (cs' := #[u0, u1, u2, u3, y4, y5, y6, y7]) (set_to (cs' := #[u0, u1, u2, y3, y4, y5, y6, y7]) (set_to (cs' := #[u0, u1, y2, y3, y4, y5, y6, y7]) (set_to (cs' := #[u0, y1, y2, y3, y4, y5, y6, y7]) b2 0 u0 rfl) 1 u1 rfl) 2 u2 rfl) 3 u3 rfl) 4 u4 rfl) 5 u5 rfl) 6 u6 rfl) 7 u7 rfl
  exact ⟨hk_alloc (k8.heap b1 (by simpa using hne)) _, hk_alloc b3 _, (k3.trans (k8.mono (by simp))).alloc _⟩
theorem env_rep {a b c : Int} {m1 m2 m3 : Int} (hm : m1 = a % 64 ∧ m2 = b % 64 ∧ m3 = c % 64) {w W : World} {n : Nat} (hn : w.heap.size ≤ n) (h1 : W.heap[n]? = some (.cells #[.string xS, .string yS] 9 (0, 0))) (h2 : W.heap[n + 1]? = some (.cells #[.int .i64 m2, .int .i64 m3] 33 (0, 0))) :
    EnvAt (env3 a b c) (.slice (some ⟨n, 0, none⟩) 2 2) (.slice (some ⟨n + 1, 0, none⟩) 2 2) W (w.heap.size ≤ ·) := by
  obtain ⟨rfl, rfl, rfl⟩ := hm
  exact ⟨Sl.of_blk (n := 2) (size := 1) h1 hn rfl, Sl.of_blk (n := 2) (size := 1) h2 (Nat.le_succ_of_le hn) rfl, rfl, (by show 2 ≤ 1000000; decide)⟩
set_option maxRecDepth 20000 in
set_option maxHeartbeats 2000000 in
theorem env_any (a b c : Int) (w : World) (a0 : 0 ≤ a) (a1 : a ≤ 255) (b0 : 0 ≤ b) (b1 : b ≤ 255) (c0 : 0 ≤ c) (c1 : c ≤ 255) :
    Calls Tryz.prog 16 #[.agg #[.int .u8 a, .int .u8 b, .int .u8 c]] w (EnvSays a b c w) := by
  have HO := Lib.hid (fun (m : Int) W (h0 : 0 ≤ m) (h1 : m ≤ 63) => rof_any m W h0 h1)
  have ra : 0 ≤ a % 64 ∧ a % 64 ≤ 63 := by omega
  have rb : 0 ≤ b % 64 ∧ b % 64 ≤ 63 := by omega
  have rc : 0 ≤ c % 64 ∧ c % 64 ≤ 63 := by omega
  have ta : a.tmod 64 = a % 64 := Int.tmod_eq_emod_of_nonneg a0
  have tb : b.tmod 64 = b % 64 := Int.tmod_eq_emod_of_nonneg b0
  have tc : c.tmod 64 = c % 64 := Int.tmod_eq_emod_of_nonneg c0
  obtain ⟨ra0, ra1⟩ := ra
  obtain ⟨rb0, rb1⟩ := rb
  obtain ⟨rc0, rc1⟩ := rc
  go_enter Tryz.func16, Tryz.ntmps16
  go_upto_region 1 with fail
  refine abs_world (F := fun W => Keeps [] w W ∧ W.heap[w.heap.size]? = some (.cells #[.int .u8 a, .int .u8 b, .int .u8 c] 22 (0, 0)) ∧ W.heap[w.heap.size + 1]? = some (.cells #[.int .i64 0, .slice none 0 0, .slice none 0 0] 36 (0, 0)) ∧ W.heap[w.heap.size + 2]? = some (.cells #[.bool false, .bool false, .bool false, .bool false, .bool false, .bool false, .slice none 0 0, .slice none 0 0] 41 (0, 0))) ⟨(((Keeps.refl _ _).alloc _).alloc _).alloc _, hk_alloc (hk_alloc (new_blk _ _) _) _, hk_alloc (new_blk1 _ _ _) _, new_blk2 _ _ _ _⟩ (fun W1 HW1 => ?_)
  have H1 := Lib.hid HW1
  clear HW1
  have gn := cell_blk H1.out.2.1
  go_quiet (fail)
  refine ‹∀ (a : Act) (w : World), _ → _› _ _ ?_
  refine abs_world (F := fun W => Keeps [] w W ∧ W.heap[w.heap.size + 1]? = some (.cells #[.int .i64 0, .slice none 0 0, .slice none 0 0] 36 (0, 0)) ∧ W.heap[w.heap.size + 2]? = some (.cells #[.bool false, .bool false, .bool false, .bool false, .bool false, .bool false, .slice none 0 0, .slice none 0 0] 41 (0, 0))) (by exact ⟨H1.out.1.drewN _, H1.out.2.2.1, H1.out.2.2.2⟩) (fun W2 HW2 => ?_)
  have H2 := Lib.hid HW2
  clear HW2 H1 gn ta tb tc
  generalize hma : a % 64 = ma at *
  generalize hmb : b % 64 = mb at *
  generalize hmc : c % 64 = mc at *
  have HMM := Lib.hid (And.intro hma.symm (And.intro hmb.symm hmc.symm))
  clear hma hmb hmc
  have HO1 := Lib.hid (fun W => HO.out ma W ra0 ra1)
  have HO2 := Lib.hid (fun W => HO.out mb W rb0 rb1)
  have HO3 := Lib.hid (fun W => HO.out mc W rc0 rc1)
  clear HO
  go_wp2_with fail
  refine (HO1.out _).mono ?_
  rintro e3 w3 ⟨rfl, hk3⟩
  have K3 := Lib.hid hk3
  clear hk3
  go_wp2_with fail
  refine (HO2.out _).mono ?_
  rintro e4 w4 ⟨rfl, hk4⟩
  have K4 := Lib.hid hk4
  clear hk4
  go_wp2_with fail
  refine (HO3.out _).mono ?_
  rintro e5 w5 ⟨rfl, hk5⟩
  have K35 : Hid (Keeps [] ((W2.alloc (.cells #[.string xS, .string yS] 9)).alloc (.cells #[.int .i64 mb, .int .i64 mc] 33)) w5) := Lib.hid ((K3.out.alloc _).trans (K4.out.trans hk5))
  clear hk5
  have HB1 := Lib.hid (K35.out.same (hk_alloc (hk_alloc H2.out.2.1 _) _))
  have HB2 := Lib.hid (K35.out.same (hk_alloc (hk_alloc H2.out.2.2 _) _))
  have gb1 := cell_blk HB1.out
  have gf1 := frozen_blk HB1.out
  have gb2 := cell_blk HB2.out
  have gf2 := frozen_blk HB2.out
  have hl1 := hk_lt HB1.out
  have hl2 := hk_lt HB2.out
  have HBN := Lib.hid (K35.out.same (hk_alloc (new_blk W2 (.cells #[.string xS, .string yS] 9)) (.cells #[.int .i64 mb, .int .i64 mc] 33)))
  have HBS := Lib.hid (K35.out.same (new_blk1 W2 (.cells #[.string xS, .string yS] 9) (.cells #[.int .i64 mb, .int .i64 mc] 33)))
  have HKW : Hid (Keeps [] w w5) := Lib.hid (((H2.out.1.alloc _).alloc _).trans K35.out)
  have hz2 := hk_lt H2.out.2.2
  have HE := Lib.hid (fun (o : Obj) (u6 u7 : Value) => env_end HB1.out HB2.out (by omega) o (.int .i64 ma) (.slice (some ⟨W2.heap.size, 0, none⟩) 2 2) (.slice (some ⟨W2.heap.size + 1, 0, none⟩) 2 2) (.bool (bitZ ma 0)) (.bool (bitZ ma 1)) (.bool (bitZ ma 2)) (.bool (bitZ ma 3)) (.bool (bitZ ma 4)) (.bool (bitZ ma 5)) u6 u7)
  go_wp2_with fail
  refine abs_post (F := fun W => W.heap[w.heap.size + 1]? = some (.cells #[.int .i64 ma, .slice (some ⟨W2.heap.size, 0, none⟩) 2 2, .slice (some ⟨W2.heap.size + 1, 0, none⟩) 2 2] 36 (0, 0)) ∧ W.heap[w.heap.size + 2]? = some (.cells #[.bool (bitZ ma 0), .bool (bitZ ma 1), .bool (bitZ ma 2), .bool (bitZ ma 3), .bool (bitZ ma 4), .bool (bitZ ma 5), .slice (some ⟨w3.heap.size, 0, none⟩) 2 2, .slice (some ⟨w5.heap.size, 0, none⟩) 2 2] 41 (0, 0)) ∧ Keeps [w.heap.size + 1, w.heap.size + 2] w5 W) (HE.out _ _ _) (fun W hW => ?_)
  have cr1 := cell_blk hW.1
  have cr2 := cell_blk hW.2.1
  have hn : w.heap.size ≤ W2.heap.size := by omega
  have he := env_rep HMM.out hn (hW.2.2.heap HBN.out (by simp; omega)) (hW.2.2.heap HBS.out (by simp; omega))
  have hk := HKW.out.step hW.2.2 (S := []) (fun k h1 h2 => by simp at h1; omega)
  exact bodyPost_ret (v := .tuple #[.agg #[.int .i64 ma, .slice (some ⟨W2.heap.size, 0, none⟩) 2 2, .slice (some ⟨W2.heap.size + 1, 0, none⟩) 2 2], .agg #[.bool (bitZ ma 0), .bool (bitZ ma 1), .bool (bitZ ma 2), .bool (bitZ ma 3), .bool (bitZ ma 4), .bool (bitZ ma 5), .slice (some ⟨w3.heap.size, 0, none⟩) 2 2, .slice (some ⟨w5.heap.size, 0, none⟩) 2 2]]) (by simp [results, Tryz.results16, go_sem, cr1, cr2]) rfl
    ⟨_, _, _, by rw [← HMM.out.1], ⟨_, _, _, _, _, _, _, _, rfl⟩, he, hk⟩
end Go.Proofs.YtdlkdecigpaaaaaGreatDoor
