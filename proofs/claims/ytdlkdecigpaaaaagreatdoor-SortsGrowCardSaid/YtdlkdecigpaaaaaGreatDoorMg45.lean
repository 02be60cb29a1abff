/- Put together: A literal's value, turned: chevallaw03.Real at a value without items; chevallaw08.Real: the program's tree of the document's; SortsGrow: the law's walk. -/
import Derived.Deep.Upon
import Derived.Test.YtdlkdecigpaaaaaGreatDoorMg43
import Derived.Test.YtdlkdecigpaaaaaGreatDoorMg44
import Derived.Test.YtdlkdecigpaaaaaGreatDoorMg34
namespace Go.Proofs.YtdlkdecigpaaaaaGreatDoor
set_option linter.unusedVariables false
set_option linter.unusedSimpArgs false
open Go.RowKit

theorem u_strs : Tryz.prog.underlying 25 = some (.slice 9) := Tryz.underlying25
theorem src_none {P : Program} {tx e' : TypeId} {size : Nat} (hk : P.underlying tx = some (.slice e')) (a : Option Addr) (c : Nat) (w : World) : Src P size tx (.slice a 0 c) 0 [] w := by
  refine ⟨.inl ⟨e', hk⟩, fun _ => rfl, ?_, ?_, by simp, fun _ h => by cases h⟩ <;> cases a <;> simp [Builtin.firstCells, loadCells, loadCellsFrom]
theorem app_nil (A a2 : Option Addr) (c2 : Nat) (w : World) : (Builtin.append_ #[25, 25] 25 #[.slice A 0 0, .slice a2 0 c2]).run Tryz.prog w = .ok (.slice A 0 0) w := by
  obtain ⟨i0, hi, _⟩ := info_parts elem_st.hi
  exact run_append_nothing w _ _ _ _ i0 u_strs hi A 0 0 (Nat.le_refl _) _ (src_none u_strs a2 c2 w)
theorem step_append_no {P : Program} {ops : Array Oper} {o : Oper} {a : Act} {K : Act → World → Prop} {Q : Exit → Act → World → Prop} {E' : Prop} {w : World} (hgd : o.guard = none) (s y : Operand) (t0 : TypeId) (ho : o.op = .call { callee := .builtin .append, args := #[s, y], argTypes := #[t0, t0] })
    {vs vy : Value} (hs : a.eval s = vs) (hy : a.eval y = vy) (hr : (Builtin.append_ #[t0, t0] o.type #[vs, vy]).run P w = .ok vs w) (h : K (a.put o.dst vs) w) :
    if Region.wanted o (yielded ops a.tmps) = true then Oper.wp P o a w K Q else E' := by
  have hw : Region.wanted o (yielded ops a.tmps) = true := by simp [Region.wanted, hgd]
  rw [if_pos hw]
  unfold Oper.wp execOp
  simp only [ho, resolve, invoke, builtin, Sem.run_bind, Sem.run_pure, Result.andThen_ok, List.map_toArray, List.map_cons, List.map_nil, hs, hy, hr]
  exact h
/-- A leaf, turned: the argument's block, the result's, the variable's. -/
structure LitF (k : Int) (b : Bool) (n : Int) (s : ByteArray) (a1 : Option Addr) (c1 : Nat) (a2 : Option Addr) (c2 B A : Nat) (tS tR : TypeId) (w W : World) : Prop where
  arg : W.heap[w.heap.size]? = some (.cells #[.int .i64 k, .bool b, .int .i64 n, .string s, .slice a1 0 c1, .slice a2 0 c2] tS (0, 0))
  res : W.heap[w.heap.size + 1]? = some (.cells #[.int .i64 0, .bool false, .int .i64 0, .string eS, .slice none 0 0, .slice none 0 0] tR (0, 0))
  out_ : W.heap[B]? = some (.cells #[.int .i64 k, .bool b, .int .i64 n, .string s, .slice none 0 0, .slice (some ⟨A, 0, none⟩) 0 0] tR (0, 0))
  keeps : Keeps [] w W
section
variable {k : Int} {b : Bool} {n : Int} {s : ByteArray} {a1 : Option Addr} {c1 : Nat} {a2 : Option Addr} {c2 B A : Nat} {tS tR : TypeId} {w W : World}
theorem litf_1 {o : Obj} (h1 : Keeps [] w W) (h2 : W.heap[w.heap.size]? = some (.cells #[.int .i64 k, .bool b, .int .i64 n, .string s, .slice a1 0 c1, .slice a2 0 c2] tS (0, 0))) (h3 : W.heap[w.heap.size + 1]? = some (.cells #[.int .i64 0, .bool false, .int .i64 0, .string eS, .slice none 0 0, .slice none 0 0] tR (0, 0))) :
    LitF k b n s a1 c1 a2 c2 (W.heap.size + 1) W.heap.size tS tR w ((W.alloc o).alloc (.cells #[.int .i64 k, .bool b, .int .i64 n, .string s, .slice none 0 0, .slice (some ⟨W.heap.size, 0, none⟩) 0 0] tR)).drew :=
  ⟨hk_alloc (hk_alloc h2 _) _, hk_alloc (hk_alloc h3 _) _, new_blk1 _ _ _, ((h1.alloc _).alloc _).drew⟩
theorem litf_2 {o : Obj} (h1 : Keeps [] w W) (h2 : W.heap[w.heap.size]? = some (.cells #[.int .i64 k, .bool b, .int .i64 n, .string s, .slice a1 0 c1, .slice a2 0 c2] tS (0, 0))) (h3 : W.heap[w.heap.size + 1]? = some (.cells #[.int .i64 0, .bool false, .int .i64 0, .string eS, .slice none 0 0, .slice none 0 0] tR (0, 0))) :
    LitF k b n s a1 c1 a2 c2 W.heap.size (W.heap.size + 1) tS tR w ((W.alloc (.cells #[.int .i64 k, .bool b, .int .i64 n, .string s, .slice none 0 0, .slice (some ⟨W.heap.size + 1, 0, none⟩) 0 0] tR)).alloc o).drew :=
  ⟨hk_alloc (hk_alloc h2 _) _, hk_alloc (hk_alloc h3 _) _, hk_alloc (new_blk _ _) _, ((h1.alloc _).alloc _).drew⟩
theorem LitF.fin (h : LitF k b n s a1 c1 a2 c2 B A tS tR w W) : ((((((W.setCell ⟨w.heap.size + 1, 0, none⟩ (.int .i64 k)).setCell ⟨w.heap.size + 1, 1, none⟩ (.bool b)).setCell ⟨w.heap.size + 1, 2, none⟩ (.int .i64 n)).setCell ⟨w.heap.size + 1, 3, none⟩ (.string s)).setCell ⟨w.heap.size + 1, 4, none⟩ (.slice none 0 0)).setCell ⟨w.heap.size + 1, 5, none⟩ (.slice (some ⟨A, 0, none⟩) 0 0)).heap[w.heap.size + 1]? = some (.cells #[.int .i64 k, .bool b, .int .i64 n, .string s, .slice none 0 0, .slice (some ⟨A, 0, none⟩) 0 0] tR (0, 0)) ∧
    Keeps [] w ((((((W.setCell ⟨w.heap.size + 1, 0, none⟩ (.int .i64 k)).setCell ⟨w.heap.size + 1, 1, none⟩ (.bool b)).setCell ⟨w.heap.size + 1, 2, none⟩ (.int .i64 n)).setCell ⟨w.heap.size + 1, 3, none⟩ (.string s)).setCell ⟨w.heap.size + 1, 4, none⟩ (.slice none 0 0)).setCell ⟨w.heap.size + 1, 5, none⟩ (.slice (some ⟨A, 0, none⟩) 0 0)) :=
  ⟨six_set h.res _ _ _ _ _ _, (((((h.keeps.set (.inr (by dsimp only; omega)) _).set (.inr (by dsimp only; omega)) _).set (.inr (by dsimp only; omega)) _).set (.inr (by dsimp only; omega)) _).set (.inr (by dsimp only; omega)) _).set (.inr (by dsimp only; omega)) _⟩
end
section
variable (k : Int) (b : Bool) (n : Int) (s : ByteArray) (a1 a2 : Option Addr) (c1 c2 : Nat) (w : World)
set_option maxRecDepth 20000 in
set_option maxHeartbeats 2000000 in
theorem lreal_any : Calls Tryz.prog 43 #[.agg #[.int .i64 k, .bool b, .int .i64 n, .string s, .slice a1 0 c1, .slice a2 0 c2]] w fun e w' =>
    ∃ A, e = .returned (.agg #[.int .i64 k, .bool b, .int .i64 n, .string s, .slice none 0 0, .slice (some A) 0 0]) ∧ Keeps [] w w' := by
  go_enter Tryz.func43, Tryz.ntmps43
  go_upto_region 1 with fail
  refine abs_world (F := fun W => Keeps [] w W ∧ W.heap[w.heap.size]? = some (.cells #[.int .i64 k, .bool b, .int .i64 n, .string s, .slice a1 0 c1, .slice a2 0 c2] 27 (0, 0)) ∧ W.heap[w.heap.size + 1]? = some (.cells #[.int .i64 0, .bool false, .int .i64 0, .string eS, .slice none 0 0, .slice none 0 0] 49 (0, 0))) ⟨((Keeps.refl _ _).alloc _).alloc _, hk_alloc (new_blk _ _) _, new_blk1 _ _ _⟩ (fun W1 HW1 => ?_)
  have H1 := Lib.hid HW1
  clear HW1
  have gb := cell_blk H1.out.2.1
  have hl0 := hk_lt H1.out.2.1
  have hl1 := hk_lt H1.out.2.2
  go_region_held3 (fun W' => ∀ o, W'.cell? ⟨w.heap.size, o, none⟩ = W1.cell? ⟨w.heap.size, o, none⟩)
    ((refine one_held hl0 ?_; (repeat (first | with_reducible exact Keeps.refl _ _ | with_reducible refine Keeps.drew ?_ | with_reducible refine Keeps.alloc ?_ _ | (refine Keeps.set ?_ (.inr (by simp)) _))); done))
    (first
      | (refine step_append_no rfl _ _ _ rfl rfl rfl (app_nil _ _ _ _) ?_))
  all_goals
    refine ‹∀ (a : Act) (w : World), _ → _› _ _ ?_
    first
    | (refine abs_world (F := fun W => LitF k b n s a1 c1 a2 c2 (W1.heap.size + 1) W1.heap.size 27 49 w W) (by exact litf_1 H1.out.1 H1.out.2.1 H1.out.2.2) (fun W2 HW2 => ?_))
    | (refine abs_world (F := fun W => LitF k b n s a1 c1 a2 c2 W1.heap.size (W1.heap.size + 1) 27 49 w W) (by exact litf_2 H1.out.1 H1.out.2.1 H1.out.2.2) (fun W2 HW2 => ?_))
    have H2 := Lib.hid HW2
    clear HW2
    have g2 := cell_blk H2.out.arg
    go_wp2_with fail
    go_loopw [22] (fun v W => v = .int .i64 0 ∧ Hid (LitF k b n s a1 c1 a2 c2 _ _ 27 49 w W)) (fun _ _ => 0)
    case atStart => exact ⟨rfl, H2⟩
    case round =>
      obtain ⟨rfl, H3⟩ := hrel
      have g3 := cell_blk H3.out.out_
      have gb3 := cell_blk H3.out.res
      have gf3 := frozen_blk H3.out.res
      have hb3 := hk_lt H3.out.res
      have HE := Lib.hid H3.out.fin
      go_wp2_with fail
      refine abs_post (F := fun W => W.heap[w.heap.size + 1]? = some (.cells #[.int .i64 k, .bool b, .int .i64 n, .string s, .slice none 0 0, .slice (some ⟨_, 0, none⟩) 0 0] 49 (0, 0)) ∧ Keeps [] w W) HE.out (fun W hW => ?_)
      have cr := cell_blk hW.1
      exact bodyPost_ret (v := .agg #[.int .i64 k, .bool b, .int .i64 n, .string s, .slice none 0 0, .slice (some ⟨_, 0, none⟩) 0 0]) (by simp [results, Tryz.results43, go_sem, cr]; rfl) rfl ⟨_, rfl, hW.2⟩
end
end Go.Proofs.YtdlkdecigpaaaaaGreatDoor
namespace Go.Proofs.YtdlkdecigpaaaaaGreatDoor
set_option linter.unusedVariables false
set_option linter.unusedSimpArgs false
open Go.RowKit

theorem xreal_elem : Elem Tryz.prog 50 52 (.agg zero9) 9 144 := ⟨Tryz.underlying50, by kernel_rfl, rfl, by decide⟩
/-- What it answers: the tree, in cells of its own. -/
def xreal_says (T : XT) (w : World) (e : Ending) (w' : World) : Prop := ∃ vi vk va, e = .returned (T.agg vi vk va) ∧ T.Rep w' (w.heap.size ≤ ·) vi vk va ∧ Keeps [] w w'
theorem xreal_at {T : XT} {w : World} {e : Ending} {w' : World} (h : xreal_says T w e w') : ∃ vi vk va, e = .returned (T.agg vi vk va) ∧ T.Rep w' (w.heap.size ≤ ·) vi vk va ∧ Keeps [] w w' := h
set_option maxRecDepth 20000 in
set_option maxHeartbeats 4000000 in
theorem xreal_any : ∀ (d : Nat) (T : XT) (vi vk va : Value) (S : Nat → Prop) (w : World), T.depth ≤ d → XGood T → T.Rep w S vi vk va →
    Calls Tryz.prog 18 #[T.agg vi vk va] w (xreal_says T w) := by
  intro d
  induction d with
  | zero => intro T _ _ _ _ _ h; have := depth_pos T; omega
  | succ d ih =>
    intro T vi vk va S w hd hg h
    obtain ⟨a1, c1, a2, c2, a3, c3, rfl, rfl, rfl⟩ := xrep_shape h
    obtain ⟨cs, hsl, hrows⟩ := xrep_row h
    obtain ⟨hlo, hl1, hl2⟩ := good_lit hg
    have hlen := hg.len
    have HI := Lib.hid (fun (j : Nat) (hj : j < T.args.length) (a1 : Option Addr) (c1 : Nat) (a2 : Option Addr) (c2 : Nat) (a3 : Option Addr) (c3 : Nat) (W : World) (hr : T.args[j].Rep W S (.slice a1 T.args[j].lit.its.length c1) (.slice a2 T.args[j].lit.ks.length c2) (.slice a3 T.args[j].args.length c3)) =>
      ih T.args[j] _ _ _ S W (by have := deepL_mem (List.getElem_mem hj); have := depth_args T; omega) (hg.arg _ (List.getElem_mem hj)) hr)
    have HL := Lib.hid (fun (W : World) (k : Keeps [] w W) => And.intro (hsl.keep (kc_keeps k fun _ _ => by simp)) (nine_go (kc_keeps k fun _ _ => by simp) (fun _ _ _ _ h _ => h) hrows))
    clear h hsl hrows hg hd ih hlo
    obtain ⟨o, nm, ⟨k, b, n, s, its, ks⟩, l⟩ := T
    simp only [XT.lit, VT.its, VT.ks] at hl1 hl2
    subst hl1
    subst hl2
    have hlen2 : l.length ≤ 2 := hlen
    have HLR := Lib.hid (fun (W : World) => lreal_any k b n s a1 a2 c1 c2 W)
    clear hlen
    go_enter Tryz.func18, Tryz.ntmps18
    go_upto_region 1 with fail
    refine abs_world (F := fun W => W.heap[w.heap.size]? = some (.cells ((XT.mk o nm (VT.mk k b n s [] []) l).nine (.slice a1 0 c1) (.slice a2 0 c2) (.slice a3 l.length c3)) 30 (0, 0)) ∧ W.heap[w.heap.size + 1]? = some (.cells zero9 52 (0, 0)) ∧ Keeps [] w W) ⟨hk_alloc (new_blk _ _) _, new_blk1 _ _ _, ((Keeps.refl _ _).alloc _).alloc _⟩ (fun W1 HW1 => ?_)
    have H1 := Lib.hid HW1
    clear HW1
    have gb := cell_blk H1.out.1
    have hl0 := hk_lt H1.out.1
    have hl1 := hk_lt H1.out.2.1
    go_region_held3 (fun W' => ∀ o, W'.cell? ⟨w.heap.size, o, none⟩ = W1.cell? ⟨w.heap.size, o, none⟩)
      ((refine one_held hl0 ?_; (repeat (first | with_reducible exact Keeps.refl _ _ | with_reducible exact (KL.out).1 | with_reducible refine Keeps.drew ?_ | with_reducible refine Keeps.alloc ?_ _ | refine Keeps.set ?_ (.inr (by simp)) _)); done))
      (first
        | (go_at_call 43; refine (HLR.out _).mono ?_; rintro e' w5 ⟨A, rfl, hk5⟩; (try (have hA : w5.heap[W1.heap.size]? = some (.cells zero9 52 (0, 0)) := hk5.same (by exact new_blk W1 (.cells zero9 52)); have gA := cell_blk hA; have gfA := frozen_blk hA; have hlA := hk_lt hA; have HA := Lib.hid hA; clear hA)); have KL : Hid (Keeps [] W1 w5 ∧ True) := Lib.hid ⟨Keeps.trans (by (repeat (first | with_reducible exact Keeps.refl _ _ | with_reducible refine Keeps.drew ?_ | with_reducible refine Keeps.alloc ?_ _))) hk5, trivial⟩; clear hk5))
    all_goals
      refine ‹∀ (a : Act) (w : World), _ → _› _ _ ?_
      have hz1 := KL.out.1.size
      have HLA := Lib.hid (leaf_all (o := o) (nm := nm) (k := k) (b := b) (n := n) (s := s) (l := l) none (some A) 0 0 (fun _ => rfl) (fun h => by cases h))
      first
      | (have hAA := HA.out; clear hAA; refine abs_world (F := fun W => ArgL 52 W1.heap.size (XT.mk o nm (VT.mk k b n s [] []) l) none (some A) 0 0 0 (.slice none 0 0) [] w W ∧ w.heap.size + 1 < W1.heap.size ∧ W.heap[w.heap.size]? = some (.cells ((XT.mk o nm (VT.mk k b n s [] []) l).nine (.slice a1 0 c1) (.slice a2 0 c2) (.slice a3 l.length c3)) 30 (0, 0))) (by exact ⟨argl_set HA.out rfl (by omega) (H1.out.2.2.trans KL.out.1) (KL.out.1.same H1.out.2.1) HLA.out, by omega, (keeps_sets9 _ _ _ _ _ _ _ _ _ _ _).heap (KL.out.1.same H1.out.1) (by simp; omega)⟩) (fun W2 HW2 => ?_); clear HA gA gfA hlA; generalize W1.heap.size = B at *)
      | (refine abs_world (F := fun W => ArgL 52 w5.heap.size (XT.mk o nm (VT.mk k b n s [] []) l) none (some A) 0 0 0 (.slice none 0 0) [] w W ∧ w.heap.size + 1 < w5.heap.size ∧ W.heap[w.heap.size]? = some (.cells ((XT.mk o nm (VT.mk k b n s [] []) l).nine (.slice a1 0 c1) (.slice a2 0 c2) (.slice a3 l.length c3)) 30 (0, 0))) (by exact ⟨argl_new rfl (H1.out.2.2.trans KL.out.1) (KL.out.1.same H1.out.2.1) HLA.out, by omega, hk_alloc (KL.out.1.same H1.out.1) _⟩) (fun W2 HW2 => ?_); generalize w5.heap.size = B at *)
      have H2 := Lib.hid HW2.1
      have hwB := HW2.2.1
      have g2 := cell_blk HW2.2.2
      clear HW2 gb hl0 hl1 KL H1 hz1 HLA
      go_wp2_with fail
      clear g2
      go_loopw [17] (fun v W => ∃ (j : Nat) (va : Value) (xs : List Value), j ≤ l.length ∧ v = .int .i64 j ∧ Hid (ArgL 52 B (XT.mk o nm (VT.mk k b n s [] []) l) none (some A) 0 0 j va xs w W)) (fun v _ => l.length - (intOf v).toNat)
      case atStart => exact ⟨0, _, _, Nat.zero_le _, rfl, H2⟩
      case round =>
        obtain ⟨j, va, xs, hj, rfl, HQ⟩ := hrel
        obtain ⟨b3, d3, rfl, hld⟩ := own_slice_len HQ.out.own
        by_cases hlt : j < l.length
        · obtain ⟨hsl, hrw⟩ := HL.out _ HQ.out.keeps
          obtain ⟨g', o', c', hv, _, _, _, hcells⟩ := hsl.at (Nat.lt_of_le_of_lt (Nat.zero_le _) hlt)
          cases hv
          obtain ⟨x1, y1, x2, y2, x3, y3, hrep, z0, z1, z2, z3, z4, z5, z6, z7, z8⟩ := nine_cells hrw hcells hlt
          have HI2 := Lib.hid (fun (W : World) (k : Keeps [] wr W) => HI.out j hlt x1 y1 x2 y2 x3 y3 W (hrep.keep (kc_keeps k fun _ _ => by simp)))
          dsimp only [XT.args] at z0 z1 z2 z3 z4 z5 z6 z7 z8
          clear hsl hrw hcells hrep
          have HXB := Lib.hid (new_blk wr (.cells (l[j].nine (.slice x1 l[j].lit.its.length y1) (.slice x2 l[j].lit.ks.length y2) (.slice x3 l[j].args.length y3)) 30))
          have hwz : wr.heap.size = wr.heap.size := rfl
          go_upto_region 5 with fail
          refine abs_world (F := fun W => ArgL 52 B (XT.mk o nm (VT.mk k b n s [] []) l) none (some A) 0 0 j (.slice b3 j d3) xs w W ∧ W.heap[wr.heap.size]? = some (.cells (l[j].nine (.slice x1 l[j].lit.its.length y1) (.slice x2 l[j].lit.ks.length y2) (.slice x3 l[j].args.length y3)) 30 (0, 0)) ∧ Keeps [] wr W) (by exact ⟨HQ.out.go ((Keeps.refl _ _).alloc _), HXB.out, (Keeps.refl _ _).alloc _⟩) (fun W4 HW4 => ?_)
          have H4 := Lib.hid HW4
          clear HW4 z0 z1 z2 z3 z4 z5 z6 z7 z8 HXB
          have gx := cell_blk H4.out.2.1
          have gb := cell_blk H4.out.1.blk
          have gbf := frozen_blk H4.out.1.blk
          have hlb := hk_lt H4.out.1.blk
          have hlx := hk_lt H4.out.2.1
          have HIC := Lib.hid (fun (W : World) (k : Keeps [] W4 W) => HI2.out W (H4.out.2.2.trans k))
          go_region_law (first
            | (refine step_append_sl rfl _ _ _ rfl rfl xreal_elem (v := .slice b3 j d3) (base := B + 1) (x := .slice (some ⟨w7.heap.size, 0, none⟩) 1 1) (S := fun _ => True) rfl rfl (HX7.out.own.alloc _) (Sl.of_blk (n := 1) (new_blk _ _) trivial rfl) (by exact head_one9 rfl rfl rfl) (by unfold maxLen; omega) (by omega) (by have := hk_lt HX7.out.blk; simp only [World.size_alloc] at *; omega) ?_; intro va' w8 ho hgr hv; obtain ⟨b5, d5, rfl, hld5⟩ := own_slice_len ho; have HA := Lib.hid (H4.out.1.app hlt hwB H7.out.1 H7.out.2 ho hv hgr); have gb6 := cell_blk HA.out.2; have gbf6 := frozen_blk HA.out.2; clear ho hgr hv)
            | (refine step_call rfl 18 _ _ rfl (enters_of Tryz.func18 (by kernel_rfl) rfl) rfl (HIC.out _ (by exact (Keeps.refl _ _).drew)) ?_; rintro e7 w7 hx; obtain ⟨ui, uk, ua, rfl, hrep, hk7⟩ := xreal_at hx; obtain ⟨p1, q1, p2, q2, p3, q3, rfl, rfl, rfl⟩ := xrep_shape hrep; refine ⟨_, rfl, ?_⟩; have hk8 := kdrew hk7; have HX7 := Lib.hid (H4.out.1.go hk8); have gb7 := cell_blk HX7.out.blk; have gbf7 := frozen_blk HX7.out.blk; have hl7 := hk_lt HX7.out.blk; have H7 := Lib.hid (And.intro hk8 hrep); clear hk7 hk8 hrep hx))
          all_goals
            refine ‹∀ (a : Act) (w : World), _ → _› _ _ ?_
            refine abs_world (F := fun W => ArgL 52 B (XT.mk o nm (VT.mk k b n s [] []) l) none (some A) 0 0 (j + 1) (.slice b5 (j + 1) d5) (xs ++ l[j].head (.slice p1 l[j].lit.its.length q1) (.slice p2 l[j].lit.ks.length q2) (.slice p3 l[j].args.length q3)) w W) (by exact HA.out.1) (fun W9 HW9 => ?_)
            have H9 := Lib.hid HW9
            clear HW9 HA H7 HX7 gb7 gbf7 hl7 gb6 gbf6 gx gb gbf hlb hlx HIC H4 HI2
            go_wp2_with fail
            go_roundw
            case rel => exact ⟨j + 1, _, _, hlt, by go_num, H9⟩
            case measure => simp [intOf]; omega
        · obtain rfl : j = l.length := by omega
          have gb := cell_blk HQ.out.blk
          have gr := cell_blk HQ.out.box
          have grf := frozen_blk HQ.out.box
          have hlb := hk_lt HQ.out.box
          have HF := Lib.hid (HQ.out.fin hwB)
          go_wp2_with fail
          refine abs_post (F := fun W => W.heap[w.heap.size + 1]? = some (.cells ((XT.mk o nm (VT.mk k b n s [] []) l).nine (.slice none 0 0) (.slice (some A) 0 0) (.slice b3 l.length d3)) 52 (0, 0)) ∧ (XT.mk o nm (VT.mk k b n s [] []) l).Rep W (w.heap.size ≤ ·) (.slice none 0 0) (.slice (some A) 0 0) (.slice b3 l.length d3) ∧ Keeps [] w W) HF.out (fun W hW => ?_)
          have cr := cell_blk hW.1
          exact bodyPost_ret (v := (XT.mk o nm (VT.mk k b n s [] []) l).agg (.slice none 0 0) (.slice (some A) 0 0) (.slice b3 l.length d3)) (by simp [results, Tryz.results18, go_sem, cr]) rfl ⟨_, _, _, rfl, hW.2.1, hW.2.2⟩
end Go.Proofs.YtdlkdecigpaaaaaGreatDoor
namespace Go.Proofs.YtdlkdecigpaaaaaGreatDoor
set_option linter.unusedVariables false
set_option linter.unusedSimpArgs false
open Go.RowKit

theorem par_ex (s : ByteArray) : ∃ r, Par s (.lev 0) 0 r := par_all s _ (.lev 0) 0 (Nat.le_refl _) (Int.le_refl _) (by omega) (by simp [goodG])
/-- What is known of a tree that was parsed. -/
theorem parse_good {s : ByteArray} {r : Res} (hr : Par s (.lev 0) 0 r) (hc : (parseR s r).2.2 = 0) : XGood (parseR s r).1 ∧ (parseR s r).1.depth ≤ 32 := by
  cases r with
  | err p c => exact absurd (show c = 0 from hc) (par_code hr)
  | ok T p =>
    simp only [parseR] at hc ⊢
    by_cases h1 : blanks s p < s.size
    · rw [if_pos h1] at hc; exact absurd (show (1 : Int) = 0 from hc) (by decide)
    · rw [if_neg h1] at hc ⊢
      by_cases h2 : 32 < T.depth
      · rw [if_pos h2] at hc; exact absurd (show (6 : Int) = 0 from hc) (by decide)
      · rw [if_neg h2]
        exact ⟨par_good hr (by simp [goodG]) (Int.le_refl _) (by omega), by show T.depth ≤ 32; omega⟩
theorem two_held0 {g y : Nat} {W W' : World} (h1 : g < W.heap.size) (h2 : y < W.heap.size) (h : Keeps [] W W') : (∀ o, W'.cell? ⟨g, o, none⟩ = W.cell? ⟨g, o, none⟩) ∧ (∀ o, W'.cell? ⟨y, o, none⟩ = W.cell? ⟨y, o, none⟩) := ⟨one_held h1 h, one_held h2 h⟩
theorem nat_sub (a b : Nat) : (a % 64) &&& ((a ||| b) % 64) = a % 64 := by
  apply Nat.eq_of_testBit_eq
  intro i
  rw [Nat.testBit_and, show (64 : Nat) = 2 ^ 6 from rfl, Nat.testBit_mod_two_pow, Nat.testBit_mod_two_pow, Nat.testBit_or]
  cases decide (i < 6) <;> cases a.testBit i <;> simp
theorem u8_or (x y : Int) (hx0 : 0 ≤ x) (hx1 : x ≤ 255) (hy0 : 0 ≤ y) (hy1 : y ≤ 255) : (0 ≤ bits BinOp.or IntKind.u8 x y ∧ bits BinOp.or IntKind.u8 x y ≤ 255) ∧ SubS (x % 64) (bits BinOp.or IntKind.u8 x y % 64) := by
  obtain ⟨a, rfl⟩ := Int.eq_ofNat_of_zero_le hx0
  obtain ⟨b, rfl⟩ := Int.eq_ofNat_of_zero_le hy0
  have ha : a < 2 ^ 8 := by omega
  have hb : b < 2 ^ 8 := by omega
  have hab : a ||| b < 2 ^ 8 := Nat.or_lt_two_pow ha hb
  have e : bits BinOp.or IntKind.u8 (a : Int) (b : Int) = ((a ||| b : Nat) : Int) := by
    show IntKind.u8.wrap ((BitVec.ofInt 8 (a : Int) ||| BitVec.ofInt 8 (b : Int)).toNat : Int) = _
    rw [BitVec.toNat_or, BitVec.ofInt_natCast, BitVec.ofInt_natCast, BitVec.toNat_ofNat, BitVec.toNat_ofNat, Nat.mod_eq_of_lt ha, Nat.mod_eq_of_lt hb]
    have h2 : a ||| b < 256 := hab
    generalize a ||| b = c at *
    show (c : Int) % 256 = c
    omega
  rw [e]
  refine ⟨⟨by omega, by have h2 : a ||| b < 256 := hab; omega⟩, ?_⟩
  have hr := sub_refl (a := (a : Int) % 64) (by omega) (by omega)
  have hp : ((a : Int) % 64) = ((a % 64 : Nat) : Int) := by omega
  have hq : (((a ||| b : Nat) : Int) % 64) = (((a ||| b) % 64 : Nat) : Int) := by omega
  unfold SubS at hr ⊢
  rw [bits_and] at hr ⊢
  rw [BitVec.and_self] at hr
  rw [show bvI ((a : Int) % 64) &&& bvI (((a ||| b : Nat) : Int) % 64) = bvI ((a : Int) % 64) from ?_]
  · exact hr
  · rw [hp, hq]
    show BitVec.ofInt 64 _ &&& BitVec.ofInt 64 _ = BitVec.ofInt 64 _
    rw [BitVec.ofInt_natCast, BitVec.ofInt_natCast]
    apply BitVec.eq_of_toNat_eq
    have h1 : a % 64 % 2 ^ 64 = a % 64 := Nat.mod_eq_of_lt (by omega)
    have h2 : (a ||| b) % 64 % 2 ^ 64 = (a ||| b) % 64 := Nat.mod_eq_of_lt (by omega)
    rw [BitVec.toNat_and, BitVec.toNat_ofNat, BitVec.toNat_ofNat, h1, h2]
    exact nat_sub a b
theorem env3_sub {b c b' c' a a' : Int} (h1 : SubS (b % 64) (b' % 64)) (h2 : SubS (c % 64) (c' % 64)) : ∀ q, SubS ((env3 a b c).sorts.getD q 0) ((env3 a' b' c').sorts.getD q 0) := by
  intro q
  match q with
  | 0 => exact h1
  | 1 => exact h2
  | q + 2 => exact (show SubS 0 0 from sub_refl (by decide) (by decide))
section
variable (s : ByteArray) (n0 n1 n2 m0 m1 m2 : Int) (w : World)
set_option maxRecDepth 20000 in
set_option maxHeartbeats 4000000 in
theorem grow_walk (hv : VarOk w) (hs : s.size ≤ 140737488351232) (a00 : 0 ≤ n0) (a01 : n0 ≤ 255) (a10 : 0 ≤ n1) (a11 : n1 ≤ 255) (a20 : 0 ≤ n2) (a21 : n2 ≤ 255) (b00 : 0 ≤ m0) (b01 : m0 ≤ 255) (b10 : 0 ≤ m1) (b11 : m1 ≤ 255) (b20 : 0 ≤ m2) (b21 : m2 ≤ 255) :
    Calls Tryz.prog 3 #[.string s, .agg #[.int .u8 n0, .int .u8 n1, .int .u8 n2], .agg #[.int .u8 m0, .int .u8 m1, .int .u8 m2]] w fun e w' => e = .returned (.bool true) ∧ Below w.heap.size w w' := by
  have HA := Lib.hid (fun (W : World) (k : Keeps [] w W) => awake9_any W (hv.keeps k (by simp)))
  obtain ⟨r, hr⟩ := par_ex s
  have HR := Lib.hid hr
  clear hr hv
  go_enter Tryz.func3, Tryz.ntmps3
  go_wp2_with fail
  refine (HA.out _ (((Keeps.refl _ _).alloc _).alloc _)).mono ?_
  rintro e1 w1 ⟨rfl, hk1⟩
  have HN := Lib.hid (hk1.same (hk_alloc (new_blk w (.cells #[.int .u8 n0, .int .u8 n1, .int .u8 n2] 22)) (.cells #[.int .u8 m0, .int .u8 m1, .int .u8 m2] 22)))
  have HM := Lib.hid (hk1.same (new_blk1 w (.cells #[.int .u8 n0, .int .u8 n1, .int .u8 n2] 22) (.cells #[.int .u8 m0, .int .u8 m1, .int .u8 m2] 22)))
  have HK1 : Hid (Keeps [] w w1) := Lib.hid ((((Keeps.refl _ _).alloc _).alloc _).trans hk1)
  clear hk1
  by_cases h6 : s.size ≤ 600
  · have HP := Lib.hid (fun W => rParse_any s W r (by omega) HR.out)
    go_wp2_with fail
    refine (HP.out _).mono ?_
    rintro e2 w2 ⟨vi, vk, va, rfl, hrep, hk2⟩
    have HG := Lib.hid (fun hc => parse_good HR.out hc)
    generalize parseR s r = q at *
    obtain ⟨T, pl, cd⟩ := q
    obtain ⟨x1, y1, x2, y2, x3, y3, rfl, rfl, rfl⟩ := xrep_shape hrep
    have HK2 := Lib.hid (HK1.out.trans hk2)
    have HN2 := Lib.hid (hk2.same HN.out)
    have HM2 := Lib.hid (hk2.same HM.out)
    have HT2 := Lib.hid hrep
    clear hrep hk2 HN HM HP
    by_cases hc : cd = 0
    · obtain ⟨hg, hd⟩ := HG.out hc
      have HGD := Lib.hid hg
      have hcd : cd = 0 := hc
      subst hcd
      clear HG hc hg
      go_upto_region 6 with fail
      refine abs_world (F := fun W => Keeps [] w W ∧ W.heap[w.heap.size]? = some (.cells #[.int .u8 n0, .int .u8 n1, .int .u8 n2] 22 (0, 0)) ∧ W.heap[w.heap.size + 1]? = some (.cells #[.int .u8 m0, .int .u8 m1, .int .u8 m2] 22 (0, 0)) ∧ W.heap[w2.heap.size]? = some (.cells (T.nine (.slice x1 T.lit.its.length y1) (.slice x2 T.lit.ks.length y2) (.slice x3 T.args.length y3)) 30 (0, 0)) ∧ T.Rep W (w1.heap.size ≤ ·) (.slice x1 T.lit.its.length y1) (.slice x2 T.lit.ks.length y2) (.slice x3 T.args.length y3))
        (by exact ⟨HK2.out.alloc _, hk_alloc HN2.out _, hk_alloc HM2.out _, new_blk _ _, HT2.out.keep (kc_alloc _)⟩) (fun W3 HW3 => ?_)
      have H3 := Lib.hid HW3
      clear HW3 HK2 HN2 HM2 HT2 HA HK1
      have gn := cell_blk H3.out.2.1
      have hln := hk_lt H3.out.2.1
      go_wp2_with fail
      refine (env_any n0 n1 n2 _ a00 a01 a10 a11 a20 a21).mono ?_
      rintro e4 w4 ⟨g1, g2, q, rfl, ⟨q0, q1, q2, q3, q4, q5, n6, n7, rfl⟩, he4, hk4⟩
      have HE4 := Lib.hid he4
      have HK4 := Lib.hid hk4
      clear he4 hk4 gn hln
      have gn := cell_blk (HK4.out.same H3.out.2.1)
      have gm := cell_blk (HK4.out.same H3.out.2.2.1)
      go_upto_region 7 with fail
      refine abs_world (F := fun W => Keeps [] w W ∧ W.heap[w.heap.size]? = some (.cells #[.int .u8 n0, .int .u8 n1, .int .u8 n2] 22 (0, 0)) ∧ W.heap[w.heap.size + 1]? = some (.cells #[.int .u8 m0, .int .u8 m1, .int .u8 m2] 22 (0, 0)) ∧ W.heap[w2.heap.size]? = some (.cells (T.nine (.slice x1 T.lit.its.length y1) (.slice x2 T.lit.ks.length y2) (.slice x3 T.args.length y3)) 30 (0, 0)) ∧ T.Rep W (w1.heap.size ≤ ·) (.slice x1 T.lit.its.length y1) (.slice x2 T.lit.ks.length y2) (.slice x3 T.args.length y3) ∧
          W.heap[w4.heap.size]? = some (.cells #[.int .i64 (n0 % 64), .slice (some ⟨g1, 0, none⟩) 2 2, .slice (some ⟨g2, 0, none⟩) 2 2] 36 (0, 0)) ∧ EnvAt (env3 n0 n1 n2) (.slice (some ⟨g1, 0, none⟩) 2 2) (.slice (some ⟨g2, 0, none⟩) 2 2) W (W3.heap.size ≤ ·))
        (by exact ⟨((H3.out.1.trans HK4.out).alloc _).alloc _, hk_alloc (hk_alloc (HK4.out.same H3.out.2.1) _) _, hk_alloc (hk_alloc (HK4.out.same H3.out.2.2.1) _) _, hk_alloc (hk_alloc (HK4.out.same H3.out.2.2.2.1) _) _, H3.out.2.2.2.2.keep (kc_keeps ((HK4.out.alloc _).alloc _) fun _ _ => by simp), hk_alloc (new_blk _ _) _, HE4.out.keep ((kc_alloc _).trans (kc_alloc _))⟩) (fun W5 HW5 => ?_)
      have H5 := Lib.hid HW5
      clear HW5 HE4 HK4 gn gm H3
      have gn := cell_blk H5.out.2.1
      have gm := cell_blk H5.out.2.2.1
      have hln := hk_lt H5.out.2.1
      have hlm := hk_lt H5.out.2.2.1
      have HO0 := Lib.hid (u8_or n0 m0 a00 a01 b00 b01)
      have HO1 := Lib.hid (u8_or n1 m1 a10 a11 b10 b11)
      have HO2 := Lib.hid (u8_or n2 m2 a20 a21 b20 b21)
      have HEV := Lib.hid (fun W => env_any (bits BinOp.or IntKind.u8 n0 m0) (bits BinOp.or IntKind.u8 n1 m1) (bits BinOp.or IntKind.u8 n2 m2) W HO0.out.1.1 HO0.out.1.2 HO1.out.1.1 HO1.out.1.2 HO2.out.1.1 HO2.out.1.2)
      go_wp2_with fail
      refine (HEV.out _).mono ?_
      clear HEV
      rintro e6 w6 ⟨k1, k2, q', rfl, ⟨r0, r1, r2, r3, r4, r5, j6, j7, rfl⟩, he6, hk6⟩
      generalize bits BinOp.or IntKind.u8 n0 m0 = o0 at *
      generalize bits BinOp.or IntKind.u8 n1 m1 = o1 at *
      generalize bits BinOp.or IntKind.u8 n2 m2 = o2 at *
      have HE6 := Lib.hid he6
      have HK6 := Lib.hid hk6
      clear he6 hk6 gn gm hln hlm
      have HS1 := Lib.hid (fun (vi vk va vN vS : Value) (S S2 : Nat → Prop) (W : World) (hr : T.Rep W S vi vk va) (he : EnvAt (env3 n0 n1 n2) vN vS W S2) => scheck_any (env3 n0 n1 n2) 40 T vi vk va vN vS S S2 W (by omega) (by decide) HGD.out hr he)
      have HS2 := Lib.hid (fun (vi vk va vN vS : Value) (S S2 : Nat → Prop) (W : World) (hr : T.Rep W S vi vk va) (he : EnvAt (env3 o0 o1 o2) vN vS W S2) => scheck_any (env3 o0 o1 o2) 40 T vi vk va vN vS S S2 W (by omega) (by decide) HGD.out hr he)
      have HGR := Lib.hid (chk_grow (E := env3 n0 n1 n2) (F := env3 o0 o1 o2) HO0.out.2 rfl (env3_sub HO1.out.2 HO2.out.2) HGD.out)
      generalize chk (env3 n0 n1 n2) T = ca at *
      generalize chk (env3 o0 o1 o2) T = cb at *
      obtain ⟨ca1, ca2⟩ := ca
      obtain ⟨cb1, cb2⟩ := cb
      have hor : (ca2 = 0 ∧ cb2 = 0 ∧ bits BinOp.and IntKind.i64 ca1 cb1 = ca1) ∨ ((ca2 == 0) = false ∧ ¬ ca2 = 0) := by
        by_cases hz : ca2 = 0
        · obtain ⟨h1, h2⟩ := HGR.out hz; exact .inl ⟨hz, h1, h2⟩
        · exact .inr ⟨by rw [beq_eq_false_iff_ne]; exact hz, hz⟩
      clear HGR
      rcases hor with ⟨rfl, rfl, hb2⟩ | ⟨hne, hnz⟩
      all_goals
        go_upto_region 8 with fail
        refine abs_world (F := fun W => Keeps [] w W ∧ W.heap[w2.heap.size]? = some (.cells (T.nine (.slice x1 T.lit.its.length y1) (.slice x2 T.lit.ks.length y2) (.slice x3 T.args.length y3)) 30 (0, 0)) ∧ T.Rep W (w1.heap.size ≤ ·) (.slice x1 T.lit.its.length y1) (.slice x2 T.lit.ks.length y2) (.slice x3 T.args.length y3) ∧
            (W.heap[w4.heap.size]? = some (.cells #[.int .i64 (n0 % 64), .slice (some ⟨g1, 0, none⟩) 2 2, .slice (some ⟨g2, 0, none⟩) 2 2] 36 (0, 0)) ∧ EnvAt (env3 n0 n1 n2) (.slice (some ⟨g1, 0, none⟩) 2 2) (.slice (some ⟨g2, 0, none⟩) 2 2) W (W3.heap.size ≤ ·)) ∧
            (W.heap[w6.heap.size]? = some (.cells #[.int .i64 (o0 % 64), .slice (some ⟨k1, 0, none⟩) 2 2, .slice (some ⟨k2, 0, none⟩) 2 2] 36 (0, 0)) ∧ EnvAt (env3 o0 o1 o2) (.slice (some ⟨k1, 0, none⟩) 2 2) (.slice (some ⟨k2, 0, none⟩) 2 2) W (W5.heap.size ≤ ·)))
          (by exact ⟨((H5.out.1.trans HK6.out).alloc _).alloc _, hk_alloc (hk_alloc (HK6.out.same H5.out.2.2.2.1) _) _, H5.out.2.2.2.2.1.keep (kc_keeps ((HK6.out.alloc _).alloc _) fun _ _ => by simp), ⟨hk_alloc (hk_alloc (HK6.out.same H5.out.2.2.2.2.2.1) _) _, H5.out.2.2.2.2.2.2.keep (kc_keeps ((HK6.out.alloc _).alloc _) fun _ _ => by simp)⟩, hk_alloc (new_blk _ _) _, HE6.out.keep ((kc_alloc _).trans (kc_alloc _))⟩) (fun W7 HW7 => ?_)
        have H7 := Lib.hid HW7
        clear HW7 HE6 HK6 H5
        have gt := cell_blk H7.out.2.1
        have ge := cell_blk H7.out.2.2.2.1.1
        have hlt1 := hk_lt H7.out.2.1
        have hle1 := hk_lt H7.out.2.2.2.1.1
        have HTR1 := Lib.hid H7.out.2.2.1
        have HEN1 := Lib.hid H7.out.2.2.2.1.2
        go_region_held3 (fun W' => (∀ o, W'.cell? ⟨w2.heap.size, o, none⟩ = W7.cell? ⟨w2.heap.size, o, none⟩) ∧ (∀ o, W'.cell? ⟨w4.heap.size, o, none⟩ = W7.cell? ⟨w4.heap.size, o, none⟩))
          ((refine two_held0 hlt1 hle1 ?_; (repeat (first | with_reducible exact Keeps.refl _ _ | with_reducible exact (KC1.out) | with_reducible exact (KR1.out) | with_reducible refine Keeps.drew ?_)); done))
          (first
            | (go_at_call 18; refine (xreal_any 40 T _ _ _ _ _ (by omega) HGD.out (HTR1.out.keep (by (repeat (first | with_reducible exact Kc.refl _ _ | with_reducible exact kc_drew))))).mono ?_; rintro e' wr hx; obtain ⟨vi, vk, va, rfl, hrep, hk⟩ := xreal_at hx; obtain ⟨p1, q1, p2, q2, p3, q3, rfl, rfl, rfl⟩ := xrep_shape hrep; have KR1 : Hid (Keeps [] W7 wr) := Lib.hid (Keeps.trans (by (repeat (first | with_reducible exact Keeps.refl _ _ | with_reducible refine Keeps.drew ?_))) hk); have HRR1 := Lib.hid hrep; clear hrep hk hx)
            | (go_at_call 17; refine (HS1.out _ _ _ _ _ _ _ _ HRR1.out (HEN1.out.keep (kc_keeps KR1.out fun _ _ => by simp))).mono ?_; rintro e' wc1 ⟨rfl, hk⟩; have KC1 : Hid (Keeps [] W7 wc1) := Lib.hid (KR1.out.trans hk); clear hk))
        refine ‹∀ (a : Act) (w : World), _ → _› _ _ ?_
        refine abs_world (F := fun W => Keeps [] w W ∧ W.heap[w2.heap.size]? = some (.cells (T.nine (.slice x1 T.lit.its.length y1) (.slice x2 T.lit.ks.length y2) (.slice x3 T.args.length y3)) 30 (0, 0)) ∧ T.Rep W (w1.heap.size ≤ ·) (.slice x1 T.lit.its.length y1) (.slice x2 T.lit.ks.length y2) (.slice x3 T.args.length y3) ∧
            (W.heap[w6.heap.size]? = some (.cells #[.int .i64 (o0 % 64), .slice (some ⟨k1, 0, none⟩) 2 2, .slice (some ⟨k2, 0, none⟩) 2 2] 36 (0, 0)) ∧ EnvAt (env3 o0 o1 o2) (.slice (some ⟨k1, 0, none⟩) 2 2) (.slice (some ⟨k2, 0, none⟩) 2 2) W (W5.heap.size ≤ ·)))
          (by exact ⟨H7.out.1.trans KC1.out, KC1.out.same H7.out.2.1, H7.out.2.2.1.keep (kc_keeps KC1.out fun _ _ => by simp), KC1.out.same H7.out.2.2.2.2.1, H7.out.2.2.2.2.2.keep (kc_keeps KC1.out fun _ _ => by simp)⟩) (fun W8 HW8 => ?_)
        have H8 := Lib.hid HW8
        clear HW8 H7 gt ge hlt1 hle1 HTR1 HEN1 KR1 KC1 HRR1
        have gt := cell_blk H8.out.2.1
        have ge := cell_blk H8.out.2.2.2.1
        have hlt2 := hk_lt H8.out.2.1
        have hle2 := hk_lt H8.out.2.2.2.1
        have HTR2 := Lib.hid H8.out.2.2.1
        have HEN2 := Lib.hid H8.out.2.2.2.2
        go_upto_region 9 with fail
        go_region_held3 (fun W' => (∀ o, W'.cell? ⟨w2.heap.size, o, none⟩ = W8.cell? ⟨w2.heap.size, o, none⟩) ∧ (∀ o, W'.cell? ⟨w6.heap.size, o, none⟩ = W8.cell? ⟨w6.heap.size, o, none⟩))
          ((refine two_held0 hlt2 hle2 ?_; (repeat (first | with_reducible exact Keeps.refl _ _ | with_reducible exact (KC2.out) | with_reducible exact (KR2.out) | with_reducible refine Keeps.drew ?_)); done))
          (first
            | (go_at_call 18; refine (xreal_any 40 T _ _ _ _ _ (by omega) HGD.out (HTR2.out.keep (by (repeat (first | with_reducible exact Kc.refl _ _ | with_reducible exact kc_drew))))).mono ?_; rintro e' wr hx; obtain ⟨vi, vk, va, rfl, hrep, hk⟩ := xreal_at hx; obtain ⟨p1, q1, p2, q2, p3, q3, rfl, rfl, rfl⟩ := xrep_shape hrep; have KR2 : Hid (Keeps [] W8 wr) := Lib.hid (Keeps.trans (by (repeat (first | with_reducible exact Keeps.refl _ _ | with_reducible refine Keeps.drew ?_))) hk); have HRR2 := Lib.hid hrep; clear hrep hk hx)
            | (go_at_call 17; refine (HS2.out _ _ _ _ _ _ _ _ HRR2.out (HEN2.out.keep (kc_keeps KR2.out fun _ _ => by simp))).mono ?_; rintro e' wc2 ⟨rfl, hk⟩; have KC2 : Hid (Keeps [] W8 wc2) := Lib.hid (KR2.out.trans hk); clear hk))
        refine ‹∀ (a : Act) (w : World), _ → _› _ _ ?_
        have HKE := Lib.hid (H8.out.1.trans KC2.out)
        clear H8 gt ge hlt2 hle2 HTR2 HEN2 KR2 KC2 HRR2
        go_wp2_with fail
        go_ret
        first
        | exact ⟨rfl, HKE.out.nil_below⟩
        | exact ⟨ret_bool (a := bits BinOp.and IntKind.i64 ca1 cb1 == ca1) (b := true) (by rw [hb2]; simp), HKE.out.nil_below⟩
    · have hne : (cd == 0) = false := by rw [beq_eq_false_iff_ne]; exact hc
      clear HG hc
      go_wp2_with fail
      go_ret
      exact ⟨rfl, (HK2.out.alloc _).nil_below⟩
  · go_wp2_with fail
    refine (HA.out _ HK1.out).mono ?_
    rintro e2 w2 ⟨rfl, hk2⟩
    have HK2 := Lib.hid (HK1.out.trans hk2)
    clear hk2
    go_wp2_with fail
    go_ret
    exact ⟨rfl, HK2.out.nil_below⟩
end
end Go.Proofs.YtdlkdecigpaaaaaGreatDoor
