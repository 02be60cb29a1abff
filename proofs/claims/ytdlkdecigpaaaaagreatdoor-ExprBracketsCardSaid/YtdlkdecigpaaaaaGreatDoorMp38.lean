/- Put together: A literal's value, turned: chevallaw03.Real at a value without items; A literal's value, turned: chevallaw03.Ref at a value without items; trees whose literals are leaves; chevallaw08.Ref: the document's tree of the program's; chevalref03.Same of two leaves; chevalref08.Same of two trees. -/
import Derived.Deep.Upon
import Derived.Test.YtdlkdecigpaaaaaGreatDoorMp34
import Derived.Test.YtdlkdecigpaaaaaGreatDoorMp37
namespace Go.Proofs.YtdlkdecigpaaaaaGreatDoor
set_option linter.unusedVariables false
set_option linter.unusedSimpArgs false
open Go.RowKit

theorem u_strs : Tryz.prog.underlying 25 = some (.slice 9) := Tryz.underlying25
theorem src_none {P : Program} {tx e' : TypeId} {size : Nat} (hk : P.underlying tx = some (.slice e')) (a : Option Addr) (c : Nat) (w : World) : Src P size tx (.slice a 0 c) 0 [] w := by
  refine ⟨.inl ⟨e', hk⟩, fun _ => rfl, ?_, ?_, by simp, fun _ h => by cases h⟩ <;> cases a <;> simp [Builtin.firstCells, loadCells, loadCellsFrom]
theorem app_nil (A a2 : Option Addr) (c2 : Nat) (w : World) : (Builtin.append_ #[25, 25] 25 #[.slice A 0 0, .slice a2 0 c2]).run Tryz.prog w = .ok (.slice A 0 0) w := by
  obtain ⟨i0, hi, _⟩ := info_parts elem_st.hi
  exact run_append_nothing w _ _ _ _ i0 u_strs hi A 0 0 (Nat.le_refl _) _ (src_none u_strs a2 c2 w)
theorem step_append_no {P : Program} {ops : Array Oper} {o : Oper} {a : Act} {K : Act → World → Prop} {Q : Exit → Act → World → Prop} {E' : Prop} {w : World} (hgd : o.guard = none) (s y : Operand) (t0 : TypeId) (ho : o.op = .call { callee := .builtin .append, args := #[s, y], argTypes := #[t0, t0] })
    {vs vy : Value} (hs : a.eval s = vs) (hy : a.eval y = vy) (hr : (Builtin.append_ #[t0, t0] o.type #[vs, vy]).run P w = .ok vs w) (h : K (a.put o.dst vs) w) :
    if Region.wanted o (yielded ops a.tmps) = true then Oper.wp P o a w K Q else E' := by
  have hw : Region.wanted o (yielded ops a.tmps) = true := by simp [Region.wanted, hgd]
  rw [if_pos hw]
  unfold Oper.wp execOp
  simp only [ho, resolve, invoke, builtin, Sem.run_bind, Sem.run_pure, Result.andThen_ok, List.map_toArray, List.map_cons, List.map_nil, hs, hy, hr]
  exact h
/-- A leaf, turned: the argument's block, the result's, the variable's. -/
structure LitF (k : Int) (b : Bool) (n : Int) (s : ByteArray) (a1 : Option Addr) (c1 : Nat) (a2 : Option Addr) (c2 B A : Nat) (tS tR : TypeId) (w W : World) : Prop where
  arg : W.heap[w.heap.size]? = some (.cells #[.int .i64 k, .bool b, .int .i64 n, .string s, .slice a1 0 c1, .slice a2 0 c2] tS (0, 0))
  res : W.heap[w.heap.size + 1]? = some (.cells #[.int .i64 0, .bool false, .int .i64 0, .string eS, .slice none 0 0, .slice none 0 0] tR (0, 0))
  out_ : W.heap[B]? = some (.cells #[.int .i64 k, .bool b, .int .i64 n, .string s, .slice none 0 0, .slice (some ⟨A, 0, none⟩) 0 0] tR (0, 0))
  keeps : Keeps [] w W
section
variable {k : Int} {b : Bool} {n : Int} {s : ByteArray} {a1 : Option Addr} {c1 : Nat} {a2 : Option Addr} {c2 B A : Nat} {tS tR : TypeId} {w W : World}
theorem litf_1 {o : Obj} (h1 : Keeps [] w W) (h2 : W.heap[w.heap.size]? = some (.cells #[.int .i64 k, .bool b, .int .i64 n, .string s, .slice a1 0 c1, .slice a2 0 c2] tS (0, 0))) (h3 : W.heap[w.heap.size + 1]? = some (.cells #[.int .i64 0, .bool false, .int .i64 0, .string eS, .slice none 0 0, .slice none 0 0] tR (0, 0))) :
    LitF k b n s a1 c1 a2 c2 (W.heap.size + 1) W.heap.size tS tR w ((W.alloc o).alloc (.cells #[.int .i64 k, .bool b, .int .i64 n, .string s, .slice none 0 0, .slice (some ⟨W.heap.size, 0, none⟩) 0 0] tR)).drew :=
  ⟨hk_alloc (hk_alloc h2 _) _, hk_alloc (hk_alloc h3 _) _, new_blk1 _ _ _, ((h1.alloc _).alloc _).drew⟩
theorem litf_2 {o : Obj} (h1 : Keeps [] w W) (h2 : W.heap[w.heap.size]? = some (.cells #[.int .i64 k, .bool b, .int .i64 n, .string s, .slice a1 0 c1, .slice a2 0 c2] tS (0, 0))) (h3 : W.heap[w.heap.size + 1]? = some (.cells #[.int .i64 0, .bool false, .int .i64 0, .string eS, .slice none 0 0, .slice none 0 0] tR (0, 0))) :
    LitF k b n s a1 c1 a2 c2 W.heap.size (W.heap.size + 1) tS tR w ((W.alloc (.cells #[.int .i64 k, .bool b, .int .i64 n, .string s, .slice none 0 0, .slice (some ⟨W.heap.size + 1, 0, none⟩) 0 0] tR)).alloc o).drew :=
  ⟨hk_alloc (hk_alloc h2 _) _, hk_alloc (hk_alloc h3 _) _, hk_alloc (new_blk _ _) _, ((h1.alloc _).alloc _).drew⟩
theorem LitF.fin (h : LitF k b n s a1 c1 a2 c2 B A tS tR w W) : ((((((W.setCell ⟨w.heap.size + 1, 0, none⟩ (.int .i64 k)).setCell ⟨w.heap.size + 1, 1, none⟩ (.bool b)).setCell ⟨w.heap.size + 1, 2, none⟩ (.int .i64 n)).setCell ⟨w.heap.size + 1, 3, none⟩ (.string s)).setCell ⟨w.heap.size + 1, 4, none⟩ (.slice none 0 0)).setCell ⟨w.heap.size + 1, 5, none⟩ (.slice (some ⟨A, 0, none⟩) 0 0)).heap[w.heap.size + 1]? = some (.cells #[.int .i64 k, .bool b, .int .i64 n, .string s, .slice none 0 0, .slice (some ⟨A, 0, none⟩) 0 0] tR (0, 0)) ∧
    Keeps [] w ((((((W.setCell ⟨w.heap.size + 1, 0, none⟩ (.int .i64 k)).setCell ⟨w.heap.size + 1, 1, none⟩ (.bool b)).setCell ⟨w.heap.size + 1, 2, none⟩ (.int .i64 n)).setCell ⟨w.heap.size + 1, 3, none⟩ (.string s)).setCell ⟨w.heap.size + 1, 4, none⟩ (.slice none 0 0)).setCell ⟨w.heap.size + 1, 5, none⟩ (.slice (some ⟨A, 0, none⟩) 0 0)) :=
  ⟨six_set h.res _ _ _ _ _ _, (((((h.keeps.set (.inr (by dsimp only; omega)) _).set (.inr (by dsimp only; omega)) _).set (.inr (by dsimp only; omega)) _).set (.inr (by dsimp only; omega)) _).set (.inr (by dsimp only; omega)) _).set (.inr (by dsimp only; omega)) _⟩
end
section
variable (k : Int) (b : Bool) (n : Int) (s : ByteArray) (a1 a2 : Option Addr) (c1 c2 : Nat) (w : World)
set_option maxRecDepth 20000 in
set_option maxHeartbeats 2000000 in
theorem lreal_any : Calls Tryz.prog 43 #[.agg #[.int .i64 k, .bool b, .int .i64 n, .string s, .slice a1 0 c1, .slice a2 0 c2]] w fun e w' =>
    ∃ A, e = .returned (.agg #[.int .i64 k, .bool b, .int .i64 n, .string s, .slice none 0 0, .slice (some A) 0 0]) ∧ Keeps [] w w' := by
  go_enter Tryz.func43, Tryz.ntmps43
  go_upto_region 1 with fail
  refine abs_world (F := fun W => Keeps [] w W ∧ W.heap[w.heap.size]? = some (.cells #[.int .i64 k, .bool b, .int .i64 n, .string s, .slice a1 0 c1, .slice a2 0 c2] 27 (0, 0)) ∧ W.heap[w.heap.size + 1]? = some (.cells #[.int .i64 0, .bool false, .int .i64 0, .string eS, .slice none 0 0, .slice none 0 0] 49 (0, 0))) ⟨((Keeps.refl _ _).alloc _).alloc _, hk_alloc (new_blk _ _) _, new_blk1 _ _ _⟩ (fun W1 HW1 => ?_)
  have H1 := Lib.hid HW1
  clear HW1
  have gb := cell_blk H1.out.2.1
  have hl0 := hk_lt H1.out.2.1
  have hl1 := hk_lt H1.out.2.2
  go_region_held3 (fun W' => ∀ o, W'.cell? ⟨w.heap.size, o, none⟩ = W1.cell? ⟨w.heap.size, o, none⟩)
    ((refine one_held hl0 ?_; (repeat (first | with_reducible exact Keeps.refl _ _ | with_reducible refine Keeps.drew ?_ | with_reducible refine Keeps.alloc ?_ _ | (refine Keeps.set ?_ (.inr (by simp)) _))); done))
    (first
      | (refine step_append_no rfl _ _ _ rfl rfl rfl (app_nil _ _ _ _) ?_))
  all_goals
    refine ‹∀ (a : Act) (w : World), _ → _› _ _ ?_
    first
    | (refine abs_world (F := fun W => LitF k b n s a1 c1 a2 c2 (W1.heap.size + 1) W1.heap.size 27 49 w W) (by exact litf_1 H1.out.1 H1.out.2.1 H1.out.2.2) (fun W2 HW2 => ?_))
    | (refine abs_world (F := fun W => LitF k b n s a1 c1 a2 c2 W1.heap.size (W1.heap.size + 1) 27 49 w W) (by exact litf_2 H1.out.1 H1.out.2.1 H1.out.2.2) (fun W2 HW2 => ?_))
    have H2 := Lib.hid HW2
    clear HW2
    have g2 := cell_blk H2.out.arg
    go_wp2_with fail
    go_loopw [22] (fun v W => v = .int .i64 0 ∧ Hid (LitF k b n s a1 c1 a2 c2 _ _ 27 49 w W)) (fun _ _ => 0)
    case atStart => exact ⟨rfl, H2⟩
    case round =>
      obtain ⟨rfl, H3⟩ := hrel
      have g3 := cell_blk H3.out.out_
      have gb3 := cell_blk H3.out.res
      have gf3 := frozen_blk H3.out.res
      have hb3 := hk_lt H3.out.res
      have HE := Lib.hid H3.out.fin
      go_wp2_with fail
      refine abs_post (F := fun W => W.heap[w.heap.size + 1]? = some (.cells #[.int .i64 k, .bool b, .int .i64 n, .string s, .slice none 0 0, .slice (some ⟨_, 0, none⟩) 0 0] 49 (0, 0)) ∧ Keeps [] w W) HE.out (fun W hW => ?_)
      have cr := cell_blk hW.1
      exact bodyPost_ret (v := .agg #[.int .i64 k, .bool b, .int .i64 n, .string s, .slice none 0 0, .slice (some ⟨_, 0, none⟩) 0 0]) (by simp [results, Tryz.results43, go_sem, cr]; rfl) rfl ⟨_, rfl, hW.2⟩
end
end Go.Proofs.YtdlkdecigpaaaaaGreatDoor
namespace Go.Proofs.YtdlkdecigpaaaaaGreatDoor
set_option linter.unusedVariables false
set_option linter.unusedSimpArgs false
open Go.RowKit

/-- A tree whose literals have no items, and of at most two parts each. -/
inductive XLeafy : XT → Prop
  | mk {T} : T.lit.its = [] → T.lit.ks = [] → T.args.length ≤ 2 → (∀ U ∈ T.args, XLeafy U) → XLeafy T
theorem XLeafy.len {T : XT} (h : XLeafy T) : T.args.length ≤ 2 := by cases h; assumption
theorem XLeafy.arg {T : XT} (h : XLeafy T) : ∀ U ∈ T.args, XLeafy U := by cases h; assumption
theorem leafy_lit {T : XT} (h : XLeafy T) : True ∧ T.lit.its = [] ∧ T.lit.ks = [] := by cases h; exact ⟨trivial, by assumption, by assumption⟩
theorem leafy_zero : XLeafy XT.zero := .mk rfl rfl (by decide) (fun U h => by cases h)
theorem XGood.leafy {T : XT} (h : XGood T) : XLeafy T := by
  induction h with
  | lit hv => exact .mk hv.its.1 hv.its.2 (by simp [litT, XT.args]) (fun U h => by cases h)
  | this => exact .mk rfl rfl (by simp [XT.args]) (fun U h => by cases h)
  | var => exact .mk rfl rfl (by simp [XT.args]) (fun U h => by cases h)
  | get _ ih => exact .mk rfl rfl (by simp [XT.args, getT]) (fun U h => by simp [getT, XT.args] at h; rw [h]; exact ih)
  | at_ _ _ i1 i2 => exact .mk rfl rfl (by simp [XT.args, binT]) (fun U h => by simp [binT, XT.args] at h; rcases h with rfl | rfl <;> assumption)
  | un _ _ ih => exact .mk rfl rfl (by simp [XT.args, unT]) (fun U h => by simp [unT, XT.args] at h; rw [h]; exact ih)
  | bin _ _ _ i1 i2 => exact .mk rfl rfl (by simp [XT.args, binT]) (fun U h => by simp [binT, XT.args] at h; rcases h with rfl | rfl <;> assumption)
  | call _ hl _ ih => exact .mk rfl rfl (by simp only [XT.args]; rw [hl]; exact argsN_le _) (fun U h => ih U h)
theorem lit_nil {v : VT} {w : World} {S : Nat → Prop} {vi : Value} {a2 : Option Addr} {c2 : Nat} (h : v.Rep w S vi (.slice a2 v.ks.length c2)) : a2 = none → c2 = 0 := by
  obtain ⟨_, hk⟩ := rep_iff.1 h
  obtain ⟨_, _, hv2, _, hn2⟩ := hk.shape
  cases hv2
  exact hn2
section
variable (k : Int) (b : Bool) (n : Int) (s : ByteArray) (a1 a2 : Option Addr) (c1 c2 : Nat) (w : World)
set_option maxRecDepth 20000 in
set_option maxHeartbeats 2000000 in
theorem lref_any : Calls Tryz.prog 49 #[.agg #[.int .i64 k, .bool b, .int .i64 n, .string s, .slice a1 0 c1, .slice a2 0 c2]] w fun e w' =>
    ∃ _A : Nat, e = .returned (.agg #[.int .i64 k, .bool b, .int .i64 n, .string s, .slice none 0 0, .slice a2 0 c2]) ∧ Keeps [] w w' := by
  go_enter Tryz.func49, Tryz.ntmps49
  go_wp2_with fail
  refine abs_world (F := fun W => W.heap[w.heap.size + 1]? = some (.cells #[.int .i64 0, .bool false, .int .i64 0, .string eS, .slice none 0 0, .slice none 0 0] 27 (0, 0)) ∧ W.heap[w.heap.size + 2]? = some (.cells #[.int .i64 k, .bool b, .int .i64 n, .string s, .slice none 0 0, .slice a2 0 c2] 27 (0, 0)) ∧ Keeps [] w W) (by exact ⟨hk_alloc (new_blk1 _ _ _) _, new_blk2 _ _ _ _, (((Keeps.refl _ _).alloc _).alloc _).alloc _⟩) (fun W2 HW2 => ?_)
  have H2 := Lib.hid HW2
  clear HW2
  go_loopw [20] (fun v W => v = .int .i64 0 ∧ Hid (W.heap[w.heap.size + 1]? = some (.cells #[.int .i64 0, .bool false, .int .i64 0, .string eS, .slice none 0 0, .slice none 0 0] 27 (0, 0)) ∧ W.heap[w.heap.size + 2]? = some (.cells #[.int .i64 k, .bool b, .int .i64 n, .string s, .slice none 0 0, .slice a2 0 c2] 27 (0, 0)) ∧ Keeps [] w W)) (fun _ _ => 0)
  case atStart => exact ⟨rfl, H2⟩
  case round =>
    obtain ⟨rfl, H3⟩ := hrel
    have g3 := cell_blk H3.out.2.1
    have gb3 := cell_blk H3.out.1
    have gf3 := frozen_blk H3.out.1
    have hb3 := hk_lt H3.out.1
    go_wp2_with fail
    refine abs_post (F := fun W => W.heap[w.heap.size + 1]? = some (.cells #[.int .i64 k, .bool b, .int .i64 n, .string s, .slice none 0 0, .slice a2 0 c2] 27 (0, 0)) ∧ Keeps [] w W) ⟨six_set H3.out.1 _ _ _ _ _ _, (((((H3.out.2.2.set (.inr (by dsimp only; omega)) _).set (.inr (by dsimp only; omega)) _).set (.inr (by dsimp only; omega)) _).set (.inr (by dsimp only; omega)) _).set (.inr (by dsimp only; omega)) _).set (.inr (by dsimp only; omega)) _⟩ (fun W hW => ?_)
    have cr := cell_blk hW.1
    exact bodyPost_ret (v := .agg #[.int .i64 k, .bool b, .int .i64 n, .string s, .slice none 0 0, .slice a2 0 c2]) (by simp [results, Tryz.results49, go_sem, cr]) rfl ⟨0, rfl, hW.2⟩
end
end Go.Proofs.YtdlkdecigpaaaaaGreatDoor
namespace Go.Proofs.YtdlkdecigpaaaaaGreatDoor
set_option linter.unusedVariables false
set_option linter.unusedSimpArgs false
open Go.RowKit

theorem xref_elem : Elem Tryz.prog 28 30 (.agg zero9) 9 144 := ⟨Tryz.underlying28, by kernel_rfl, rfl, by decide⟩
/-- What it answers: the tree, in cells of its own. -/
def xref_says (T : XT) (w : World) (e : Ending) (w' : World) : Prop := ∃ vi vk va, e = .returned (T.agg vi vk va) ∧ T.Rep w' (w.heap.size ≤ ·) vi vk va ∧ Keeps [] w w'
theorem xref_at {T : XT} {w : World} {e : Ending} {w' : World} (h : xref_says T w e w') : ∃ vi vk va, e = .returned (T.agg vi vk va) ∧ T.Rep w' (w.heap.size ≤ ·) vi vk va ∧ Keeps [] w w' := h
set_option maxRecDepth 20000 in
set_option maxHeartbeats 4000000 in
theorem xref_any : ∀ (d : Nat) (T : XT) (vi vk va : Value) (S : Nat → Prop) (w : World), T.depth ≤ d → XLeafy T → T.Rep w S vi vk va →
    Calls Tryz.prog 27 #[T.agg vi vk va] w (xref_says T w) := by
  intro d
  induction d with
  | zero => intro T _ _ _ _ _ h; have := depth_pos T; omega
  | succ d ih =>
    intro T vi vk va S w hd hg h
    obtain ⟨a1, c1, a2, c2, a3, c3, rfl, rfl, rfl⟩ := xrep_shape h
    obtain ⟨cs, hsl, hrows⟩ := xrep_row h
    obtain ⟨hlo, hl1, hl2⟩ := leafy_lit hg
    have hlen := hg.len
    have HI := Lib.hid (fun (j : Nat) (hj : j < T.args.length) (a1 : Option Addr) (c1 : Nat) (a2 : Option Addr) (c2 : Nat) (a3 : Option Addr) (c3 : Nat) (W : World) (hr : T.args[j].Rep W S (.slice a1 T.args[j].lit.its.length c1) (.slice a2 T.args[j].lit.ks.length c2) (.slice a3 T.args[j].args.length c3)) =>
      ih T.args[j] _ _ _ S W (by have := deepL_mem (List.getElem_mem hj); have := depth_args T; omega) (hg.arg _ (List.getElem_mem hj)) hr)
    have HL := Lib.hid (fun (W : World) (k : Keeps [] w W) => And.intro (hsl.keep (kc_keeps k fun _ _ => by simp)) (nine_go (kc_keeps k fun _ _ => by simp) (fun _ _ _ _ h _ => h) hrows))
    have HN : Hid (a2 = none → c2 = 0) := Lib.hid (lit_nil (xrep_iff.1 h).1)
    clear h hsl hrows hg hd ih hlo
    obtain ⟨o, nm, ⟨k, b, n, s, its, ks⟩, l⟩ := T
    simp only [XT.lit, VT.its, VT.ks] at hl1 hl2
    subst hl1
    subst hl2
    have hlen2 : l.length ≤ 2 := hlen
    have HLR := Lib.hid (fun (W : World) => lref_any k b n s a1 a2 c1 c2 W)
    clear hlen
    go_enter Tryz.func27, Tryz.ntmps27
    go_upto_region 1 with fail
    refine abs_world (F := fun W => W.heap[w.heap.size]? = some (.cells ((XT.mk o nm (VT.mk k b n s [] []) l).nine (.slice a1 0 c1) (.slice a2 0 c2) (.slice a3 l.length c3)) 52 (0, 0)) ∧ W.heap[w.heap.size + 1]? = some (.cells zero9 30 (0, 0)) ∧ Keeps [] w W) ⟨hk_alloc (new_blk _ _) _, new_blk1 _ _ _, ((Keeps.refl _ _).alloc _).alloc _⟩ (fun W1 HW1 => ?_)
    have H1 := Lib.hid HW1
    clear HW1
    have gb := cell_blk H1.out.1
    have hl0 := hk_lt H1.out.1
    have hl1 := hk_lt H1.out.2.1
    go_region_held3 (fun W' => ∀ o, W'.cell? ⟨w.heap.size, o, none⟩ = W1.cell? ⟨w.heap.size, o, none⟩)
      ((refine one_held hl0 ?_; (repeat (first | with_reducible exact Keeps.refl _ _ | with_reducible exact (KL.out).1 | with_reducible refine Keeps.drew ?_ | with_reducible refine Keeps.alloc ?_ _ | refine Keeps.set ?_ (.inr (by simp)) _)); done))
      (first
        | (go_at_call 49; refine (HLR.out _).mono ?_; rintro e' w5 ⟨A, rfl, hk5⟩; (try (have hA : w5.heap[W1.heap.size]? = some (.cells zero9 30 (0, 0)) := hk5.same (by exact new_blk W1 (.cells zero9 30)); have gA := cell_blk hA; have gfA := frozen_blk hA; have hlA := hk_lt hA; have HA := Lib.hid hA; clear hA)); have KL : Hid (Keeps [] W1 w5 ∧ True) := Lib.hid ⟨Keeps.trans (by (repeat (first | with_reducible exact Keeps.refl _ _ | with_reducible refine Keeps.drew ?_ | with_reducible refine Keeps.alloc ?_ _))) hk5, trivial⟩; clear hk5))
    all_goals
      refine ‹∀ (a : Act) (w : World), _ → _› _ _ ?_
      have hz1 := KL.out.1.size
      have HLA := Lib.hid (leaf_all (o := o) (nm := nm) (k := k) (b := b) (n := n) (s := s) (l := l) none a2 0 c2 (fun _ => rfl) HN.out)
      first
      | (have hAA := HA.out; clear hAA; refine abs_world (F := fun W => ArgL 30 W1.heap.size (XT.mk o nm (VT.mk k b n s [] []) l) none a2 0 c2 0 (.slice none 0 0) [] w W ∧ w.heap.size + 1 < W1.heap.size ∧ W.heap[w.heap.size]? = some (.cells ((XT.mk o nm (VT.mk k b n s [] []) l).nine (.slice a1 0 c1) (.slice a2 0 c2) (.slice a3 l.length c3)) 52 (0, 0))) (by exact ⟨argl_set HA.out rfl (by omega) (H1.out.2.2.trans KL.out.1) (KL.out.1.same H1.out.2.1) HLA.out, by omega, (keeps_sets9 _ _ _ _ _ _ _ _ _ _ _).heap (KL.out.1.same H1.out.1) (by simp; omega)⟩) (fun W2 HW2 => ?_); clear HA gA gfA hlA; generalize W1.heap.size = B at *)
      | (refine abs_world (F := fun W => ArgL 30 w5.heap.size (XT.mk o nm (VT.mk k b n s [] []) l) none a2 0 c2 0 (.slice none 0 0) [] w W ∧ w.heap.size + 1 < w5.heap.size ∧ W.heap[w.heap.size]? = some (.cells ((XT.mk o nm (VT.mk k b n s [] []) l).nine (.slice a1 0 c1) (.slice a2 0 c2) (.slice a3 l.length c3)) 52 (0, 0))) (by exact ⟨argl_new rfl (H1.out.2.2.trans KL.out.1) (KL.out.1.same H1.out.2.1) HLA.out, by omega, hk_alloc (KL.out.1.same H1.out.1) _⟩) (fun W2 HW2 => ?_); generalize w5.heap.size = B at *)
      have H2 := Lib.hid HW2.1
      have hwB := HW2.2.1
      have g2 := cell_blk HW2.2.2
      clear HW2 gb hl0 hl1 KL H1 hz1 HLA
      go_wp2_with fail
      clear g2
      go_loopw [17] (fun v W => ∃ (j : Nat) (va : Value) (xs : List Value), j ≤ l.length ∧ v = .int .i64 j ∧ Hid (ArgL 30 B (XT.mk o nm (VT.mk k b n s [] []) l) none a2 0 c2 j va xs w W)) (fun v _ => l.length - (intOf v).toNat)
      case atStart => exact ⟨0, _, _, Nat.zero_le _, rfl, H2⟩
      case round =>
        obtain ⟨j, va, xs, hj, rfl, HQ⟩ := hrel
        obtain ⟨b3, d3, rfl, hld⟩ := own_slice_len HQ.out.own
        by_cases hlt : j < l.length
        · obtain ⟨hsl, hrw⟩ := HL.out _ HQ.out.keeps
          obtain ⟨g', o', c', hv, _, _, _, hcells⟩ := hsl.at (Nat.lt_of_le_of_lt (Nat.zero_le _) hlt)
          cases hv
          obtain ⟨x1, y1, x2, y2, x3, y3, hrep, z0, z1, z2, z3, z4, z5, z6, z7, z8⟩ := nine_cells hrw hcells hlt
          have HI2 := Lib.hid (fun (W : World) (k : Keeps [] wr W) => HI.out j hlt x1 y1 x2 y2 x3 y3 W (hrep.keep (kc_keeps k fun _ _ => by simp)))
          dsimp only [XT.args] at z0 z1 z2 z3 z4 z5 z6 z7 z8
          clear hsl hrw hcells hrep
          have HXB := Lib.hid (new_blk wr (.cells (l[j].nine (.slice x1 l[j].lit.its.length y1) (.slice x2 l[j].lit.ks.length y2) (.slice x3 l[j].args.length y3)) 52))
          have hwz : wr.heap.size = wr.heap.size := rfl
          go_upto_region 5 with fail
          refine abs_world (F := fun W => ArgL 30 B (XT.mk o nm (VT.mk k b n s [] []) l) none a2 0 c2 j (.slice b3 j d3) xs w W ∧ W.heap[wr.heap.size]? = some (.cells (l[j].nine (.slice x1 l[j].lit.its.length y1) (.slice x2 l[j].lit.ks.length y2) (.slice x3 l[j].args.length y3)) 52 (0, 0)) ∧ Keeps [] wr W) (by exact ⟨HQ.out.go ((Keeps.refl _ _).alloc _), HXB.out, (Keeps.refl _ _).alloc _⟩) (fun W4 HW4 => ?_)
          have H4 := Lib.hid HW4
          clear HW4 z0 z1 z2 z3 z4 z5 z6 z7 z8 HXB
          have gx := cell_blk H4.out.2.1
          have gb := cell_blk H4.out.1.blk
          have gbf := frozen_blk H4.out.1.blk
          have hlb := hk_lt H4.out.1.blk
          have hlx := hk_lt H4.out.2.1
          have HIC := Lib.hid (fun (W : World) (k : Keeps [] W4 W) => HI2.out W (H4.out.2.2.trans k))
          go_region_law (first
            | (refine step_append_sl rfl _ _ _ rfl rfl xref_elem (v := .slice b3 j d3) (base := B + 1) (x := .slice (some ⟨w7.heap.size, 0, none⟩) 1 1) (S := fun _ => True) rfl rfl (HX7.out.own.alloc _) (Sl.of_blk (n := 1) (new_blk _ _) trivial rfl) (by exact head_one9 rfl rfl rfl) (by unfold maxLen; omega) (by omega) (by have := hk_lt HX7.out.blk; simp only [World.size_alloc] at *; omega) ?_; intro va' w8 ho hgr hv; obtain ⟨b5, d5, rfl, hld5⟩ := own_slice_len ho; have HA := Lib.hid (H4.out.1.app hlt hwB H7.out.1 H7.out.2 ho hv hgr); have gb6 := cell_blk HA.out.2; have gbf6 := frozen_blk HA.out.2; clear ho hgr hv)
            | (refine step_call rfl 27 _ _ rfl (enters_of Tryz.func27 (by kernel_rfl) rfl) rfl (HIC.out _ (by exact (Keeps.refl _ _).drew)) ?_; rintro e7 w7 hx; obtain ⟨ui, uk, ua, rfl, hrep, hk7⟩ := xref_at hx; obtain ⟨p1, q1, p2, q2, p3, q3, rfl, rfl, rfl⟩ := xrep_shape hrep; refine ⟨_, rfl, ?_⟩; have hk8 := kdrew hk7; have HX7 := Lib.hid (H4.out.1.go hk8); have gb7 := cell_blk HX7.out.blk; have gbf7 := frozen_blk HX7.out.blk; have hl7 := hk_lt HX7.out.blk; have H7 := Lib.hid (And.intro hk8 hrep); clear hk7 hk8 hrep hx))
          all_goals
            refine ‹∀ (a : Act) (w : World), _ → _› _ _ ?_
            refine abs_world (F := fun W => ArgL 30 B (XT.mk o nm (VT.mk k b n s [] []) l) none a2 0 c2 (j + 1) (.slice b5 (j + 1) d5) (xs ++ l[j].head (.slice p1 l[j].lit.its.length q1) (.slice p2 l[j].lit.ks.length q2) (.slice p3 l[j].args.length q3)) w W) (by exact HA.out.1) (fun W9 HW9 => ?_)
            have H9 := Lib.hid HW9
            clear HW9 HA H7 HX7 gb7 gbf7 hl7 gb6 gbf6 gx gb gbf hlb hlx HIC H4 HI2
            go_wp2_with fail
            go_roundw
            case rel => exact ⟨j + 1, _, _, hlt, by go_num, H9⟩
            case measure => simp [intOf]; omega
        · obtain rfl : j = l.length := by omega
          have gb := cell_blk HQ.out.blk
          have gr := cell_blk HQ.out.box
          have grf := frozen_blk HQ.out.box
          have hlb := hk_lt HQ.out.box
          have HF := Lib.hid (HQ.out.fin hwB)
          go_wp2_with fail
          refine abs_post (F := fun W => W.heap[w.heap.size + 1]? = some (.cells ((XT.mk o nm (VT.mk k b n s [] []) l).nine (.slice none 0 0) (.slice a2 0 c2) (.slice b3 l.length d3)) 30 (0, 0)) ∧ (XT.mk o nm (VT.mk k b n s [] []) l).Rep W (w.heap.size ≤ ·) (.slice none 0 0) (.slice a2 0 c2) (.slice b3 l.length d3) ∧ Keeps [] w W) HF.out (fun W hW => ?_)
          have cr := cell_blk hW.1
          exact bodyPost_ret (v := (XT.mk o nm (VT.mk k b n s [] []) l).agg (.slice none 0 0) (.slice a2 0 c2) (.slice b3 l.length d3)) (by simp [results, Tryz.results27, go_sem, cr]) rfl ⟨_, _, _, rfl, hW.2.1, hW.2.2⟩
end Go.Proofs.YtdlkdecigpaaaaaGreatDoor
namespace Go.Proofs.YtdlkdecigpaaaaaGreatDoor
set_option linter.unusedVariables false
set_option linter.unusedSimpArgs false
open Go.RowKit

/-- Two parameters' boxes. -/
structure TwoK (w : World) (t : TypeId) (A B : Array Value) (W : World) : Prop where
  one : W.heap[w.heap.size]? = some (.cells A t (0, 0))
  two : W.heap[w.heap.size + 1]? = some (.cells B t (0, 0))
  kp : Keeps [] w W
theorem TwoK.go {w W W1 : World} {t : TypeId} {A B : Array Value} (h : TwoK w t A B W) (k : Keeps [] W W1) : TwoK w t A B W1 := ⟨k.same h.one, k.same h.two, h.kp.trans k⟩
theorem twok_new (w : World) (t : TypeId) (A B : Array Value) : TwoK w t A B ((w.alloc (.cells A t)).alloc (.cells B t)) := ⟨hk_alloc (new_blk _ _) _, new_blk1 _ _ _, ((Keeps.refl _ _).alloc _).alloc _⟩
section
variable (k k' : Int) (b b' : Bool) (n n' : Int) (s s' : ByteArray) (a1 a2 a3 a4 : Option Addr) (c1 c2 c3 c4 : Nat) (w : World)
set_option maxRecDepth 20000 in
set_option maxHeartbeats 2000000 in
theorem lsame_any : Calls Tryz.prog 48 #[.agg #[.int .i64 k, .bool b, .int .i64 n, .string s, .slice a1 0 c1, .slice a2 0 c2], .agg #[.int .i64 k', .bool b', .int .i64 n', .string s', .slice a3 0 c3, .slice a4 0 c4]] w fun e w' =>
    ∃ r : Bool, e = .returned (.bool r) ∧ (r = true ↔ (k = k' ∧ b = b' ∧ n = n' ∧ s = s')) ∧ Keeps [] w w' := by
  by_cases h1 : k = k'
  · subst h1
    have e1 : (k != k) = false := by simp
    by_cases h2 : b = b'
    · subst h2
      have e2 : (b != b) = false := by simp
      by_cases h3 : n = n'
      · subst h3
        have e3 : (n != n) = false := by simp
        by_cases h4 : s = s'
        · subst h4
          have e4 : (s.toList != s.toList) = false := by simp
          go_enter Tryz.func48, Tryz.ntmps48
          go_wp2
          go_loopw [54] (fun q W => q = .int .i64 0 ∧ Hid (TwoK w 27 #[.int .i64 k, .bool b, .int .i64 n, .string s, .slice a1 0 c1, .slice a2 0 c2] #[.int .i64 k, .bool b, .int .i64 n, .string s, .slice a3 0 c3, .slice a4 0 c4] W)) (fun _ _ => 0)
          case atStart => exact ⟨rfl, Lib.hid (twok_new _ _ _ _)⟩
          case round =>
            obtain ⟨rfl, H⟩ := hrel
            have hx := cell_blk H.out.one
            have hy := cell_blk H.out.two
            go_wp2
            go_loopw [72] (fun q W => q = .int .i64 0 ∧ Hid (TwoK w 27 #[.int .i64 k, .bool b, .int .i64 n, .string s, .slice a1 0 c1, .slice a2 0 c2] #[.int .i64 k, .bool b, .int .i64 n, .string s, .slice a3 0 c3, .slice a4 0 c4] W)) (fun _ _ => 0)
            case atStart => exact ⟨rfl, H⟩
            case round =>
              obtain ⟨rfl, H2⟩ := hrel
              go_wp2
              go_ret
              exact ⟨true, rfl, by simp, H2.out.kp⟩
        · have e4 : (s.toList != s'.toList) = true := by rw [bne, str_bne h4]; rfl
          go_enter Tryz.func48, Tryz.ntmps48
          have e5 : (s.toList == s'.toList) = false := str_bne h4
          go_wp2
          go_ret
          exact ⟨false, rfl, by simp [h4], ((Keeps.refl _ _).alloc _).alloc _⟩
      · have e3 : (n != n') = true := by simpa using h3
        go_enter Tryz.func48, Tryz.ntmps48
        go_wp2
        go_ret
        exact ⟨false, rfl, by simp [h3], ((Keeps.refl _ _).alloc _).alloc _⟩
    · have e2 : (b != b') = true := by simpa using h2
      go_enter Tryz.func48, Tryz.ntmps48
      go_wp2
      go_ret
      exact ⟨false, rfl, by simp [h2], ((Keeps.refl _ _).alloc _).alloc _⟩
  · have e1 : (k != k') = true := by simpa using h1
    go_enter Tryz.func48, Tryz.ntmps48
    go_wp2
    go_ret
    exact ⟨false, rfl, by simp [h1], ((Keeps.refl _ _).alloc _).alloc _⟩
end
/-- Whether two trees are the same. -/
def SmSays (T U : XT) (w : World) (e : Ending) (w' : World) : Prop := ∃ r : Bool, e = .returned (.bool r) ∧ (r = true ↔ T = U) ∧ Keeps [] w w'
theorem sm_at {T U : XT} {w : World} {e : Ending} {w' : World} (h : SmSays T U w e w') {c : Bool} (hc : c = true ↔ T = U) : e = .returned (.bool c) ∧ Keeps [] w w' := by
  obtain ⟨r, rfl, hr, hk⟩ := h
  have : r = c := by rw [Bool.eq_iff_iff, hr, hc]
  exact ⟨by rw [this], hk⟩
set_option maxRecDepth 20000 in
set_option maxHeartbeats 4000000 in
theorem rsame_any : ∀ (d : Nat) (T U : XT) (vi vk va wi wk wa : Value) (S S' : Nat → Prop) (w : World), T.depth ≤ d → XLeafy T → XLeafy U → T.Rep w S vi vk va → U.Rep w S' wi wk wa →
    Calls Tryz.prog 26 #[T.agg vi vk va, U.agg wi wk wa] w (SmSays T U w) := by
  intro d
  induction d with
  | zero => intro T U _ _ _ _ _ _ _ _ _ h; have := depth_pos T; omega
  | succ d ih =>
    intro T U vi vk va wi wk wa S S' w hd hg hg' h h'
    obtain ⟨a1, c1, a2, c2, a3, c3, rfl, rfl, rfl⟩ := xrep_shape h
    obtain ⟨b1, d1, b2, d2, b3, d3, rfl, rfl, rfl⟩ := xrep_shape h'
    obtain ⟨cs, hsl, hrows⟩ := xrep_row h
    obtain ⟨cs', hsl', hrows'⟩ := xrep_row h'
    obtain ⟨_, hl1, hl2⟩ := leafy_lit hg
    obtain ⟨_, hl1', hl2'⟩ := leafy_lit hg'
    have hlen := hg.len
    have hlen' := hg'.len
    have HI := Lib.hid (fun (j : Nat) (hj : j < T.args.length) (hj' : j < U.args.length) (a1 : Option Addr) (c1 : Nat) (a2 : Option Addr) (c2 : Nat) (a3 : Option Addr) (c3 : Nat) (b1 : Option Addr) (d1 : Nat) (b2 : Option Addr) (d2 : Nat) (b3 : Option Addr) (d3 : Nat) (W : World)
        (hr : T.args[j].Rep W S (.slice a1 T.args[j].lit.its.length c1) (.slice a2 T.args[j].lit.ks.length c2) (.slice a3 T.args[j].args.length c3)) (hr' : U.args[j].Rep W S' (.slice b1 U.args[j].lit.its.length d1) (.slice b2 U.args[j].lit.ks.length d2) (.slice b3 U.args[j].args.length d3)) (c : Bool) (hc : c = true ↔ T.args[j] = U.args[j]) =>
      (ih T.args[j] U.args[j] _ _ _ _ _ _ S S' W (by have := deepL_mem (List.getElem_mem hj); have := depth_args T; omega) (hg.arg _ (List.getElem_mem hj)) (hg'.arg _ (List.getElem_mem hj')) hr hr').mono fun _ _ hx => sm_at hx hc)
    have HL := Lib.hid (fun (W : World) (k : Keeps [] w W) => And.intro (hsl.keep (kc_keeps k fun _ _ => by simp)) (nine_go (kc_keeps k fun _ _ => by simp) (fun _ _ _ _ h _ => h) hrows))
    have HL' := Lib.hid (fun (W : World) (k : Keeps [] w W) => And.intro (hsl'.keep (kc_keeps k fun _ _ => by simp)) (nine_go (kc_keeps k fun _ _ => by simp) (fun _ _ _ _ h _ => h) hrows'))
    clear h hsl hrows hg hd ih h' hsl' hrows' hg'
    obtain ⟨o, nm, ⟨k, b, n, s, its, ks⟩, l⟩ := T
    obtain ⟨o', nm', ⟨k', b', n', s', its', ks'⟩, l'⟩ := U
    simp only [XT.lit, VT.its, VT.ks] at hl1 hl2 hl1' hl2'
    subst hl1
    subst hl2
    subst hl1'
    subst hl2'
    have hlen2 : l.length ≤ 2 := hlen
    have hlen2' : l'.length ≤ 2 := hlen'
    have HS := Lib.hid (fun (W : World) => lsame_any k k' b b' n n' s s' a1 a2 b1 b2 c1 c2 d1 d2 W)
    have P0 := Lib.hid (twok_new w 30 ((XT.mk o nm (VT.mk k b n s [] []) l).nine (.slice a1 0 c1) (.slice a2 0 c2) (.slice a3 l.length c3)) ((XT.mk o' nm' (VT.mk k' b' n' s' [] []) l').nine (.slice b1 0 d1) (.slice b2 0 d2) (.slice b3 l'.length d3)))
    clear hlen hlen'
    by_cases ho : o = o'
    · subst ho
      have e1 : (o.toList != o.toList) = false := by simp
      by_cases hm : nm = nm'
      · subst hm
        have e2 : (nm.toList != nm.toList) = false := by simp
        go_enter Tryz.func26, Tryz.ntmps26
        go_upto_region 1 with fail
        refine abs_world (F := fun W => TwoK w 30 ((XT.mk o nm (VT.mk k b n s [] []) l).nine (.slice a1 0 c1) (.slice a2 0 c2) (.slice a3 l.length c3)) ((XT.mk o nm (VT.mk k' b' n' s' [] []) l').nine (.slice b1 0 d1) (.slice b2 0 d2) (.slice b3 l'.length d3)) W) P0.out (fun W1 HW1 => ?_)
        have H1 := Lib.hid HW1
        clear HW1 P0
        have gx := cell_blk H1.out.one
        have gy := cell_blk H1.out.two
        by_cases hlit : (k = k' ∧ b = b' ∧ n = n' ∧ s = s')
        · obtain ⟨rfl, rfl, rfl, rfl⟩ := hlit
          have HS2 := Lib.hid ((HS.out W1).mono fun e w' (hx : ∃ r : Bool, e = .returned (.bool r) ∧ (r = true ↔ (k = k ∧ b = b ∧ n = n ∧ s = s)) ∧ Keeps [] W1 w') => show e = .returned (.bool true) ∧ Keeps [] W1 w' from by
            obtain ⟨r, rfl, hr, hk⟩ := hx
            have : r = true := hr.2 ⟨rfl, rfl, rfl, rfl⟩
            exact ⟨by rw [this], hk⟩)
          by_cases hll : l.length = l'.length
          · have e3 : ((l.length : Int) != (l'.length : Int)) = false := by rw [hll]; simp
            go_wp2_with (go_at_call 48; refine HS2.out.mono ?_; rintro e' w2 ⟨rfl, hk2⟩; have H2 := Lib.hid (H1.out.go hk2); have gx2 := cell_blk H2.out.one; have gy2 := cell_blk H2.out.two; clear hk2)
            clear gx gy gx2 gy2
            go_loopw [38] (fun q W => ∃ i : Nat, i ≤ l.length ∧ q = .int .i64 i ∧ Hid (TwoK w 30 ((XT.mk o nm (VT.mk k b n s [] []) l).nine (.slice a1 0 c1) (.slice a2 0 c2) (.slice a3 l.length c3)) ((XT.mk o nm (VT.mk k b n s [] []) l').nine (.slice b1 0 d1) (.slice b2 0 d2) (.slice b3 l'.length d3)) W ∧ ∀ q : Nat, q < i → l[q]? = l'[q]?)) (fun q _ => l.length - (intOf q).toNat)
            case atStart => exact ⟨0, by omega, rfl, Lib.hid ⟨H2.out, fun q hq => absurd hq (Nat.not_lt_zero _)⟩⟩
            case round =>
              clear H2 H1
              obtain ⟨i, hi, rfl, H⟩ := hrel
              by_cases hlt : i < l.length
              · have hlt' : i < l'.length := by omega
                obtain ⟨hsl, hrw⟩ := HL.out _ H.out.1.kp
                obtain ⟨hsl', hrw'⟩ := HL'.out _ H.out.1.kp
                obtain ⟨g, og, cg, hv, _, _, _, hcells⟩ := hsl.at (Nat.lt_of_le_of_lt (Nat.zero_le _) hlt)
                obtain ⟨g', og', cg', hv', _, _, _, hcells'⟩ := hsl'.at (Nat.lt_of_le_of_lt (Nat.zero_le _) hlt')
                cases hv
                cases hv'
                obtain ⟨x1, y1, x2, y2, x3, y3, hrep, z0, z1, z2, z3, z4, z5, z6, z7, z8⟩ := nine_cells hrw hcells hlt
                obtain ⟨x1', y1', x2', y2', x3', y3', hrep', z0', z1', z2', z3', z4', z5', z6', z7', z8'⟩ := nine_cells hrw' hcells' hlt'
                dsimp only [XT.args] at z0 z1 z2 z3 z4 z5 z6 z7 z8 z0' z1' z2' z3' z4' z5' z6' z7' z8'
                have gx := cell_blk H.out.1.one
                have gy := cell_blk H.out.1.two
                have l1 := hk_lt H.out.1.one
                have l2 := hk_lt H.out.1.two
                have hll2 : (i : Int) < (l.length : Int) := by omega
                have hll3 : (i : Int) < (l'.length : Int) := by omega
                by_cases heq : l[i] = l'[i]
                · have HEQ := Lib.hid heq
                  have HC := Lib.hid (HI.out i hlt hlt' x1 y1 x2 y2 x3 y3 x1' y1' x2' y2' x3' y3' wr.drew (hrep.keep kc_drew) (hrep'.keep kc_drew) true ⟨fun _ => heq, fun _ => rfl⟩)
                  clear heq
                  clear hrep hrep' hcells hcells' hsl hsl' hrw hrw'
                  go_upto_region 6 with fail
                  go_region_held3 (fun W' => ∀ b o, b < wr.heap.size → W'.cell? ⟨b, o, none⟩ = wr.cell? ⟨b, o, none⟩) (first | exact (fun _ _ _ => rfl) | exact (bcell HB.out).1) (first | (go_at_call 26; refine HC.out.mono ?_; rintro e w2 ⟨rfl, hb2⟩; have HB := Lib.hid hb2.nil_below; have HKB := Lib.hid hb2; clear hb2))
                  have H3 := Lib.hid (H.out.1.go (kdrew HKB.out))
                  clear gx gy z0 z1 z2 z3 z4 z5 z6 z7 z8 z0' z1' z2' z3' z4' z5' z6' z7' z8'
                  go_wp2
                  go_roundw
                  case rel => exact ⟨i + 1, by omega, by go_num, Lib.hid ⟨H3.out, fun q hq => by
                    by_cases e : q = i
                    · subst e; rw [List.getElem?_eq_getElem hlt, List.getElem?_eq_getElem hlt', HEQ.out]
                    · exact H.out.2 q (by omega)⟩⟩
                  case measure => simp [intOf]; omega
                · have HEQ := Lib.hid heq
                  have HC := Lib.hid (HI.out i hlt hlt' x1 y1 x2 y2 x3 y3 x1' y1' x2' y2' x3' y3' wr.drew (hrep.keep kc_drew) (hrep'.keep kc_drew) false ⟨fun h => (Bool.false_ne_true h).elim, fun h => (heq h).elim⟩)
                  clear heq
                  clear hrep hrep' hcells hcells' hsl hsl' hrw hrw'
                  go_upto_region 6 with fail
                  go_region_held3 (fun W' => ∀ b o, b < wr.heap.size → W'.cell? ⟨b, o, none⟩ = wr.cell? ⟨b, o, none⟩) (first | exact (fun _ _ _ => rfl) | exact (bcell HB.out).1) (first | (go_at_call 26; refine HC.out.mono ?_; rintro e w2 ⟨rfl, hb2⟩; have HB := Lib.hid hb2.nil_below; have HKB := Lib.hid hb2; clear hb2))
                  have H3 := Lib.hid (H.out.1.go (kdrew HKB.out))
                  clear gx gy z0 z1 z2 z3 z4 z5 z6 z7 z8 z0' z1' z2' z3' z4' z5' z6' z7' z8'
                  go_wp2
                  go_ret
                  refine ⟨false, rfl, ⟨fun h => (Bool.false_ne_true h).elim, fun h => (HEQ.out ?_).elim⟩, H3.out.kp⟩
                  cases h
                  rfl
              · obtain rfl : i = l.length := by omega
                go_wp2
                go_ret
                refine ⟨true, rfl, ⟨fun _ => ?_, fun _ => rfl⟩, H.out.1.kp⟩
                have : l = l' := List.ext_getElem? fun q => by
                  by_cases hq : q < l.length
                  · exact H.out.2 q hq
                  · rw [List.getElem?_eq_none (by omega), List.getElem?_eq_none (by omega)]
                rw [this]
          · have e3 : ((l.length : Int) != (l'.length : Int)) = true := by simp; omega
            go_wp2_with (go_at_call 48; refine HS2.out.mono ?_; rintro e' w2 ⟨rfl, hk2⟩; have H2 := Lib.hid (H1.out.go hk2); have gx2 := cell_blk H2.out.one; have gy2 := cell_blk H2.out.two; clear hk2)
            go_ret
            refine ⟨false, rfl, ⟨fun h => (Bool.false_ne_true h).elim, fun h => (hll ?_).elim⟩, H2.out.kp⟩
            cases h
            rfl
        · have HS2 := Lib.hid ((HS.out W1).mono fun e w' (hx : ∃ r : Bool, e = .returned (.bool r) ∧ (r = true ↔ (k = k' ∧ b = b' ∧ n = n' ∧ s = s')) ∧ Keeps [] W1 w') => show e = .returned (.bool false) ∧ Keeps [] W1 w' from by
            obtain ⟨r, rfl, hr, hk⟩ := hx
            cases r with
            | true => exact absurd (hr.1 rfl) hlit
            | false => exact ⟨rfl, hk⟩)
          go_wp2_with (go_at_call 48; refine HS2.out.mono ?_; rintro e' w2 ⟨rfl, hk2⟩; have H2 := Lib.hid (H1.out.go hk2); clear hk2)
          go_ret
          refine ⟨false, rfl, ⟨fun h => (Bool.false_ne_true h).elim, fun h => (hlit ?_).elim⟩, H2.out.kp⟩
          cases h
          exact ⟨rfl, rfl, rfl, rfl⟩
      · have e2 : ((XT.mk o nm (VT.mk k b n s [] []) l).nm.toList == (XT.mk o nm' (VT.mk k' b' n' s' [] []) l').nm.toList) = false := str_bne hm
        have e3 : ((XT.mk o nm (VT.mk k b n s [] []) l).nm.toList != (XT.mk o nm' (VT.mk k' b' n' s' [] []) l').nm.toList) = true := by rw [bne, e2]; rfl
        go_enter Tryz.func26, Tryz.ntmps26
        go_wp2
        go_ret
        refine ⟨false, rfl, ⟨fun h => (Bool.false_ne_true h).elim, fun h => (hm ?_).elim⟩, P0.out.kp⟩
        cases h
        rfl
    · have e1 : ((XT.mk o nm (VT.mk k b n s [] []) l).op.toList == (XT.mk o' nm' (VT.mk k' b' n' s' [] []) l').op.toList) = false := str_bne ho
      have e3 : ((XT.mk o nm (VT.mk k b n s [] []) l).op.toList != (XT.mk o' nm' (VT.mk k' b' n' s' [] []) l').op.toList) = true := by rw [bne, e1]; rfl
      go_enter Tryz.func26, Tryz.ntmps26
      go_wp2
      go_ret
      refine ⟨false, rfl, ⟨fun h => (Bool.false_ne_true h).elim, fun h => (ho ?_).elim⟩, P0.out.kp⟩
      cases h
      rfl
end Go.Proofs.YtdlkdecigpaaaaaGreatDoor
