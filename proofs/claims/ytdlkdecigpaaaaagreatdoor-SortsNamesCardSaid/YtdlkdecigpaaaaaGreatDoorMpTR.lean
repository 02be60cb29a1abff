/- chevallaw08.Real: the program's tree of the document's. -/
import Derived.Test.YtdlkdecigpaaaaaGreatDoorMp34
import Derived.Test.YtdlkdecigpaaaaaGreatDoorMp38
namespace Go.Proofs.YtdlkdecigpaaaaaGreatDoor
set_option linter.unusedVariables false
set_option linter.unusedSimpArgs false
open Go.RowKit

theorem xreal_elem : Elem Tryz.prog 50 52 (.agg zero9) 9 144 := ⟨Tryz.underlying50, by kernel_rfl, rfl, by decide⟩
/-- What it answers: the tree, in cells of its own. -/
def xreal_says (T : XT) (w : World) (e : Ending) (w' : World) : Prop := ∃ vi vk va, e = .returned (T.agg vi vk va) ∧ T.Rep w' (w.heap.size ≤ ·) vi vk va ∧ Keeps [] w w'
theorem xreal_at {T : XT} {w : World} {e : Ending} {w' : World} (h : xreal_says T w e w') : ∃ vi vk va, e = .returned (T.agg vi vk va) ∧ T.Rep w' (w.heap.size ≤ ·) vi vk va ∧ Keeps [] w w' := h
set_option maxRecDepth 20000 in
set_option maxHeartbeats 4000000 in
theorem xreal_any : ∀ (d : Nat) (T : XT) (vi vk va : Value) (S : Nat → Prop) (w : World), T.depth ≤ d → XGood T → T.Rep w S vi vk va →
    Calls Tryz.prog 18 #[T.agg vi vk va] w (xreal_says T w) := by
  intro d
  induction d with
  | zero => intro T _ _ _ _ _ h; have := depth_pos T; omega
  | succ d ih =>
    intro T vi vk va S w hd hg h
    obtain ⟨a1, c1, a2, c2, a3, c3, rfl, rfl, rfl⟩ := xrep_shape h
    obtain ⟨cs, hsl, hrows⟩ := xrep_row h
    obtain ⟨hlo, hl1, hl2⟩ := good_lit hg
    have hlen := hg.len
    have HI := Lib.hid (fun (j : Nat) (hj : j < T.args.length) (a1 : Option Addr) (c1 : Nat) (a2 : Option Addr) (c2 : Nat) (a3 : Option Addr) (c3 : Nat) (W : World) (hr : T.args[j].Rep W S (.slice a1 T.args[j].lit.its.length c1) (.slice a2 T.args[j].lit.ks.length c2) (.slice a3 T.args[j].args.length c3)) =>
      ih T.args[j] _ _ _ S W (by have := deepL_mem (List.getElem_mem hj); have := depth_args T; omega) (hg.arg _ (List.getElem_mem hj)) hr)
    have HL := Lib.hid (fun (W : World) (k : Keeps [] w W) => And.intro (hsl.keep (kc_keeps k fun _ _ => by simp)) (nine_go (kc_keeps k fun _ _ => by simp) (fun _ _ _ _ h _ => h) hrows))
    clear h hsl hrows hg hd ih hlo
    obtain ⟨o, nm, ⟨k, b, n, s, its, ks⟩, l⟩ := T
    simp only [XT.lit, VT.its, VT.ks] at hl1 hl2
    subst hl1
    subst hl2
    have hlen2 : l.length ≤ 2 := hlen
    have HLR := Lib.hid (fun (W : World) => lreal_any k b n s a1 a2 c1 c2 W)
    clear hlen
    go_enter Tryz.func18, Tryz.ntmps18
    go_upto_region 1 with fail
    refine abs_world (F := fun W => W.heap[w.heap.size]? = some (.cells ((XT.mk o nm (VT.mk k b n s [] []) l).nine (.slice a1 0 c1) (.slice a2 0 c2) (.slice a3 l.length c3)) 30 (0, 0)) ∧ W.heap[w.heap.size + 1]? = some (.cells zero9 52 (0, 0)) ∧ Keeps [] w W) ⟨hk_alloc (new_blk _ _) _, new_blk1 _ _ _, ((Keeps.refl _ _).alloc _).alloc _⟩ (fun W1 HW1 => ?_)
    have H1 := Lib.hid HW1
    clear HW1
    have gb := cell_blk H1.out.1
    have hl0 := hk_lt H1.out.1
    have hl1 := hk_lt H1.out.2.1
    go_region_held3 (fun W' => ∀ o, W'.cell? ⟨w.heap.size, o, none⟩ = W1.cell? ⟨w.heap.size, o, none⟩)
      ((refine one_held hl0 ?_; (repeat (first | with_reducible exact Keeps.refl _ _ | with_reducible exact (KL.out).1 | with_reducible refine Keeps.drew ?_ | with_reducible refine Keeps.alloc ?_ _ | refine Keeps.set ?_ (.inr (by simp)) _)); done))
      (first
        | (go_at_call 43; refine (HLR.out _).mono ?_; rintro e' w5 ⟨A, rfl, hk5⟩; (try (have hA : w5.heap[W1.heap.size]? = some (.cells zero9 52 (0, 0)) := hk5.same (by exact new_blk W1 (.cells zero9 52)); have gA := cell_blk hA; have gfA := frozen_blk hA; have hlA := hk_lt hA; have HA := Lib.hid hA; clear hA)); have KL : Hid (Keeps [] W1 w5 ∧ True) := Lib.hid ⟨Keeps.trans (by (repeat (first | with_reducible exact Keeps.refl _ _ | with_reducible refine Keeps.drew ?_ | with_reducible refine Keeps.alloc ?_ _))) hk5, trivial⟩; clear hk5))
    all_goals
      refine ‹∀ (a : Act) (w : World), _ → _› _ _ ?_
      have hz1 := KL.out.1.size
      have HLA := Lib.hid (leaf_all (o := o) (nm := nm) (k := k) (b := b) (n := n) (s := s) (l := l) none (some A) 0 0 (fun _ => rfl) (fun h => by cases h))
      first
      | (have hAA := HA.out; clear hAA; refine abs_world (F := fun W => ArgL 52 W1.heap.size (XT.mk o nm (VT.mk k b n s [] []) l) none (some A) 0 0 0 (.slice none 0 0) [] w W ∧ w.heap.size + 1 < W1.heap.size ∧ W.heap[w.heap.size]? = some (.cells ((XT.mk o nm (VT.mk k b n s [] []) l).nine (.slice a1 0 c1) (.slice a2 0 c2) (.slice a3 l.length c3)) 30 (0, 0))) (by exact ⟨argl_set HA.out rfl (by omega) (H1.out.2.2.trans KL.out.1) (KL.out.1.same H1.out.2.1) HLA.out, by omega, (keeps_sets9 _ _ _ _ _ _ _ _ _ _ _).heap (KL.out.1.same H1.out.1) (by simp; omega)⟩) (fun W2 HW2 => ?_); clear HA gA gfA hlA; generalize W1.heap.size = B at *)
      | (refine abs_world (F := fun W => ArgL 52 w5.heap.size (XT.mk o nm (VT.mk k b n s [] []) l) none (some A) 0 0 0 (.slice none 0 0) [] w W ∧ w.heap.size + 1 < w5.heap.size ∧ W.heap[w.heap.size]? = some (.cells ((XT.mk o nm (VT.mk k b n s [] []) l).nine (.slice a1 0 c1) (.slice a2 0 c2) (.slice a3 l.length c3)) 30 (0, 0))) (by exact ⟨argl_new rfl (H1.out.2.2.trans KL.out.1) (KL.out.1.same H1.out.2.1) HLA.out, by omega, hk_alloc (KL.out.1.same H1.out.1) _⟩) (fun W2 HW2 => ?_); generalize w5.heap.size = B at *)
      have H2 := Lib.hid HW2.1
      have hwB := HW2.2.1
      have g2 := cell_blk HW2.2.2
      clear HW2 gb hl0 hl1 KL H1 hz1 HLA
      go_wp2_with fail
      clear g2
      go_loopw [17] (fun v W => ∃ (j : Nat) (va : Value) (xs : List Value), j ≤ l.length ∧ v = .int .i64 j ∧ Hid (ArgL 52 B (XT.mk o nm (VT.mk k b n s [] []) l) none (some A) 0 0 j va xs w W)) (fun v _ => l.length - (intOf v).toNat)
      case atStart => exact ⟨0, _, _, Nat.zero_le _, rfl, H2⟩
      case round =>
        obtain ⟨j, va, xs, hj, rfl, HQ⟩ := hrel
        obtain ⟨b3, d3, rfl, hld⟩ := own_slice_len HQ.out.own
        by_cases hlt : j < l.length
        · obtain ⟨hsl, hrw⟩ := HL.out _ HQ.out.keeps
          obtain ⟨g', o', c', hv, _, _, _, hcells⟩ := hsl.at (Nat.lt_of_le_of_lt (Nat.zero_le _) hlt)
          cases hv
          obtain ⟨x1, y1, x2, y2, x3, y3, hrep, z0, z1, z2, z3, z4, z5, z6, z7, z8⟩ := nine_cells hrw hcells hlt
          have HI2 := Lib.hid (fun (W : World) (k : Keeps [] wr W) => HI.out j hlt x1 y1 x2 y2 x3 y3 W (hrep.keep (kc_keeps k fun _ _ => by simp)))
          dsimp only [XT.args] at z0 z1 z2 z3 z4 z5 z6 z7 z8
          clear hsl hrw hcells hrep
          have HXB := Lib.hid (new_blk wr (.cells (l[j].nine (.slice x1 l[j].lit.its.length y1) (.slice x2 l[j].lit.ks.length y2) (.slice x3 l[j].args.length y3)) 30))
          have hwz : wr.heap.size = wr.heap.size := rfl
          go_upto_region 5 with fail
          refine abs_world (F := fun W => ArgL 52 B (XT.mk o nm (VT.mk k b n s [] []) l) none (some A) 0 0 j (.slice b3 j d3) xs w W ∧ W.heap[wr.heap.size]? = some (.cells (l[j].nine (.slice x1 l[j].lit.its.length y1) (.slice x2 l[j].lit.ks.length y2) (.slice x3 l[j].args.length y3)) 30 (0, 0)) ∧ Keeps [] wr W) (by exact ⟨HQ.out.go ((Keeps.refl _ _).alloc _), HXB.out, (Keeps.refl _ _).alloc _⟩) (fun W4 HW4 => ?_)
          have H4 := Lib.hid HW4
          clear HW4 z0 z1 z2 z3 z4 z5 z6 z7 z8 HXB
          have gx := cell_blk H4.out.2.1
          have gb := cell_blk H4.out.1.blk
          have gbf := frozen_blk H4.out.1.blk
          have hlb := hk_lt H4.out.1.blk
          have hlx := hk_lt H4.out.2.1
          have HIC := Lib.hid (fun (W : World) (k : Keeps [] W4 W) => HI2.out W (H4.out.2.2.trans k))
          go_region_law (first
            | (refine step_append_sl rfl _ _ _ rfl rfl xreal_elem (v := .slice b3 j d3) (base := B + 1) (x := .slice (some ⟨w7.heap.size, 0, none⟩) 1 1) (S := fun _ => True) rfl rfl (HX7.out.own.alloc _) (Sl.of_blk (n := 1) (new_blk _ _) trivial rfl) (by exact head_one9 rfl rfl rfl) (by unfold maxLen; omega) (by omega) (by have := hk_lt HX7.out.blk; simp only [World.size_alloc] at *; omega) ?_; intro va' w8 ho hgr hv; obtain ⟨b5, d5, rfl, hld5⟩ := own_slice_len ho; have HA := Lib.hid (H4.out.1.app hlt hwB H7.out.1 H7.out.2 ho hv hgr); have gb6 := cell_blk HA.out.2; have gbf6 := frozen_blk HA.out.2; clear ho hgr hv)
            | (refine step_call rfl 18 _ _ rfl (enters_of Tryz.func18 (by kernel_rfl) rfl) rfl (HIC.out _ (by exact (Keeps.refl _ _).drew)) ?_; rintro e7 w7 hx; obtain ⟨ui, uk, ua, rfl, hrep, hk7⟩ := xreal_at hx; obtain ⟨p1, q1, p2, q2, p3, q3, rfl, rfl, rfl⟩ := xrep_shape hrep; refine ⟨_, rfl, ?_⟩; have hk8 := kdrew hk7; have HX7 := Lib.hid (H4.out.1.go hk8); have gb7 := cell_blk HX7.out.blk; have gbf7 := frozen_blk HX7.out.blk; have hl7 := hk_lt HX7.out.blk; have H7 := Lib.hid (And.intro hk8 hrep); clear hk7 hk8 hrep hx))
          all_goals
            refine ‹∀ (a : Act) (w : World), _ → _› _ _ ?_
            refine abs_world (F := fun W => ArgL 52 B (XT.mk o nm (VT.mk k b n s [] []) l) none (some A) 0 0 (j + 1) (.slice b5 (j + 1) d5) (xs ++ l[j].head (.slice p1 l[j].lit.its.length q1) (.slice p2 l[j].lit.ks.length q2) (.slice p3 l[j].args.length q3)) w W) (by exact HA.out.1) (fun W9 HW9 => ?_)
            have H9 := Lib.hid HW9
            clear HW9 HA H7 HX7 gb7 gbf7 hl7 gb6 gbf6 gx gb gbf hlb hlx HIC H4 HI2
            go_wp2_with fail
            go_roundw
            case rel => exact ⟨j + 1, _, _, hlt, by go_num, H9⟩
            case measure => simp [intOf]; omega
        · obtain rfl : j = l.length := by omega
          have gb := cell_blk HQ.out.blk
          have gr := cell_blk HQ.out.box
          have grf := frozen_blk HQ.out.box
          have hlb := hk_lt HQ.out.box
          have HF := Lib.hid (HQ.out.fin hwB)
          go_wp2_with fail
          refine abs_post (F := fun W => W.heap[w.heap.size + 1]? = some (.cells ((XT.mk o nm (VT.mk k b n s [] []) l).nine (.slice none 0 0) (.slice (some A) 0 0) (.slice b3 l.length d3)) 52 (0, 0)) ∧ (XT.mk o nm (VT.mk k b n s [] []) l).Rep W (w.heap.size ≤ ·) (.slice none 0 0) (.slice (some A) 0 0) (.slice b3 l.length d3) ∧ Keeps [] w W) HF.out (fun W hW => ?_)
          have cr := cell_blk hW.1
          exact bodyPost_ret (v := (XT.mk o nm (VT.mk k b n s [] []) l).agg (.slice none 0 0) (.slice (some A) 0 0) (.slice b3 l.length d3)) (by simp [results, Tryz.results18, go_sem, cr]) rfl ⟨_, _, _, rfl, hW.2.1, hW.2.2⟩
end Go.Proofs.YtdlkdecigpaaaaaGreatDoor
