/- The walk of Parse. -/
import Derived.Test.YtdlkdecigpaaaaaGreatDoorMg32
namespace Go.Proofs.YtdlkdecigpaaaaaGreatDoor
set_option linter.unusedVariables false
set_option linter.unusedSimpArgs false
open Go.RowKit

theorem drew_cells {W : World} {b : Nat} {cs : Array Value} {t : TypeId} (h : W.heap[b]? = some (.cells cs t (0, 0))) : ∀ j, W.drew.cell? ⟨b, j, none⟩ = cs[j]? := cell_blk h
/-- What Parse answers: a tree, a place, an error. -/
def parseR (s : ByteArray) : Res → XT × Int × Int
  | .err p c => (XT.zero, p, c)
  | .ok T p => if blanks s p < s.size then (XT.zero, blanks s p, 1) else if 32 < T.depth then (XT.zero, 0, 6) else (T, 0, 0)
def Says3 (a : XT × Int × Int) (w : World) (e : Ending) (w' : World) : Prop :=
  ∃ vi vk va, e = .returned (.tuple #[a.1.agg vi vk va, .int .i64 a.2.1, .int .i64 a.2.2]) ∧ a.1.Rep w' (w.heap.size ≤ ·) vi vk va ∧ Keeps [] w w'
/-- The parser is block b, the variable block x; the result's block is as it was made. -/
structure PX (s : ByteArray) (a pl c : Int) (b x : Nat) (T : XT) (vi vk va : Value) (w W : World) : Prop where
  pat : PAt s a pl c b W
  blk : W.heap[x]? = some (.cells (T.nine vi vk va) 52 (0, 0))
  rep : T.Rep W (fun k => b < k ∧ k ≠ x) vi vk va
  keeps : Keeps [] w W
  box : W.heap[w.heap.size]? = some (.cells zero9 52 (0, 0))
theorem varOk_lt {w : World} (h : VarOk w) : 5 < w.heap.size := by obtain ⟨ev, hc, _⟩ := h; exact World.block_lt_of_cell? w _ hc
section
variable {s : ByteArray} {a pl c : Int} {b x : Nat} {T : XT} {vi vk va : Value} {w W W' : World}
theorem PX.go (h : PX s a pl c b x T vi vk va w W) (k : Keeps [] W W') : PX s a pl c b x T vi vk va w W' :=
  ⟨pat_keeps h.pat k (by simp), k.same h.blk, h.rep.keep (kc_keeps k fun _ _ => by simp), h.keeps.trans k, k.same h.box⟩
theorem PX.to {a' pl' c' : Int} (h : PX s a pl c b x T vi vk va w W) (k : Keeps [b] W W') (hp : PAt s a' pl' c' b W') (hb : w.heap.size < b) (hx : b < x) : PX s a' pl' c' b x T vi vk va w W' :=
  ⟨hp, k.heap h.blk (by simp; omega), h.rep.keep (kc_keeps k fun k hk => by simp; omega), h.keeps.step k (fun k h1 h2 => by simp at h1; omega), k.heap h.box (by simp; omega)⟩
theorem px_new {W0 : World} (h0 : Keeps [] w W0) (hbox : W0.heap[w.heap.size]? = some (.cells zero9 52 (0, 0))) (hb : w.heap.size < b) (hbl : b < W0.heap.size) (hr : T.Rep W (W0.heap.size ≤ ·) vi vk va) (hk : Keeps [b] W0 W) (hp : PAt s a pl c b W) :
    PX s a pl c b W.heap.size T vi vk va w (W.alloc (.cells (T.nine vi vk va) 52)) := by
  have ka : Keeps [] W (W.alloc (.cells (T.nine vi vk va) 52)) := (Keeps.refl _ _).alloc _
  have hz := hk.size
  exact ⟨pat_keeps hp ka (by simp), new_blk _ _, (hr.into (S' := fun k => b < k ∧ k ≠ W.heap.size) (fun k _ _ _ h1 h2 => ⟨by omega, by have := hk_lt h2; omega⟩)).keep (kc_keeps ka fun _ _ => by simp), (h0.step hk (fun k h1 h2 => by simp at h1; omega)).trans ka, ka.same (hk.heap hbox (by simp; omega))⟩
/-- The variable's tree, laid into the result. -/
theorem PX.ret (h : PX s a pl c b x T vi vk va w W) (hb : w.heap.size < b) :
    (sets9 W w.heap.size (.string T.op) (.string T.nm) (.int .i64 T.lit.k) (.bool T.lit.b) (.int .i64 T.lit.n) (.string T.lit.s) vi vk va).heap[w.heap.size]? = some (.cells (T.nine vi vk va) 52 (0, 0)) ∧ T.Rep (sets9 W w.heap.size (.string T.op) (.string T.nm) (.int .i64 T.lit.k) (.bool T.lit.b) (.int .i64 T.lit.n) (.string T.lit.s) vi vk va) (w.heap.size ≤ ·) vi vk va ∧
      Keeps [] w (sets9 W w.heap.size (.string T.op) (.string T.nm) (.int .i64 T.lit.k) (.bool T.lit.b) (.int .i64 T.lit.n) (.string T.lit.s) vi vk va) := by
  have k9 := keeps_sets9 W w.heap.size (.string T.op) (.string T.nm) (.int .i64 T.lit.k) (.bool T.lit.b) (.int .i64 T.lit.n) (.string T.lit.s) vi vk va
  exact ⟨blk_sets9 h.box _ _ _ _ _ _ _ _ _, (h.rep.keep (kc_keeps k9 fun k hk => by simp; omega)).mono (fun k hk => by omega), h.keeps.step k9 (fun k h1 h2 => by simp at h1; omega)⟩
/-- The zero, laid into the result. -/
theorem PX.zer (h : PX s a pl c b x T vi vk va w W) :
    (sets9 W w.heap.size (.string eS) (.string eS) (.int .i64 0) (.bool false) (.int .i64 0) (.string eS) (.slice none 0 0) (.slice none 0 0) (.slice none 0 0)).heap[w.heap.size]? = some (.cells zero9 52 (0, 0)) ∧
      Keeps [] w (sets9 W w.heap.size (.string eS) (.string eS) (.int .i64 0) (.bool false) (.int .i64 0) (.string eS) (.slice none 0 0) (.slice none 0 0) (.slice none 0 0)) := by
  have k9 := keeps_sets9 W w.heap.size (.string eS) (.string eS) (.int .i64 0) (.bool false) (.int .i64 0) (.string eS) (.slice none 0 0) (.slice none 0 0) (.slice none 0 0)
  exact ⟨blk_sets9 h.box _ _ _ _ _ _ _ _ _, h.keeps.step k9 (fun k h1 h2 => by simp at h1; omega)⟩
/-- What stands behind a region that draws, where the zero was laid. -/
def ZerD (w W : World) : Prop := W.heap[w.heap.size]? = some (.cells zero9 52 (0, 0)) ∧ Keeps [] w W
theorem ZerD.drew {X : World} (h : ZerD w X) : ZerD w X.drew := ⟨h.1, h.2.drew⟩
theorem PX.zerD (h : PX s a pl c b x T vi vk va w W) : ZerD w (sets9 W w.heap.size (.string eS) (.string eS) (.int .i64 0) (.bool false) (.int .i64 0) (.string eS) (.slice none 0 0) (.slice none 0 0) (.slice none 0 0)).drew := ZerD.drew (show ZerD w _ from h.zer)
/-- What stands behind a region that draws, where the tree was laid. -/
def RetD (T : XT) (vi vk va : Value) (w W : World) : Prop := W.heap[w.heap.size]? = some (.cells (T.nine vi vk va) 52 (0, 0)) ∧ T.Rep W (w.heap.size ≤ ·) vi vk va ∧ Keeps [] w W
theorem RetD.drew {X : World} (h : RetD T vi vk va w X) : RetD T vi vk va w X.drew := ⟨h.1, h.2.1.keep kc_drew, h.2.2.drew⟩
theorem PX.retD (h : PX s a pl c b x T vi vk va w W) (hb : w.heap.size < b) : RetD T vi vk va w (sets9 W w.heap.size (.string T.op) (.string T.nm) (.int .i64 T.lit.k) (.bool T.lit.b) (.int .i64 T.lit.n) (.string T.lit.s) vi vk va).drew := RetD.drew (show RetD T vi vk va w _ from h.ret hb)
end
section
variable (s : ByteArray) (w : World) (r : Res)
set_option maxRecDepth 20000 in
set_option maxHeartbeats 1000000 in
theorem eParse_long (hs : 2048 < s.size) (hs2 : s.size ≤ 140737488351232) : Calls Tryz.prog 25 #[.string s] w (Says3 (XT.zero, 0, 7) w) := by
  go_enter Tryz.func25, Tryz.ntmps25
  go_wp2_with fail
  exact bodyPost_ret (v := .tuple #[XT.zero.agg (.slice none 0 0) (.slice none 0 0) (.slice none 0 0), .int .i64 0, .int .i64 7]) (by simp [results, Tryz.results25, go_sem]; exact ⟨rfl, rfl, rfl, rfl, rfl, rfl⟩) rfl ⟨_, _, _, rfl, XT.zero_rep _ _, (Keeps.refl _ _).alloc _⟩
set_option maxRecDepth 20000 in
set_option maxHeartbeats 1500000 in
theorem eParse_any (hs : s.size ≤ 2048) (hv : VarOk w) (hr : Par s (.lev 0) 0 r) : Calls Tryz.prog 25 #[.string s] w (Says3 (parseR s r) w) := by
  have hvl := varOk_lt hv
  have HW0 : Hid (Keeps [] w ((w.alloc (.cells zero9 52)).alloc (.cells #[.string s, .int .i64 0, .int .i64 0, .int .i64 0] 97)) ∧ PAt s 0 0 0 (w.heap.size + 1) ((w.alloc (.cells zero9 52)).alloc (.cells #[.string s, .int .i64 0, .int .i64 0, .int .i64 0] 97)) ∧
      ((w.alloc (.cells zero9 52)).alloc (.cells #[.string s, .int .i64 0, .int .i64 0, .int .i64 0] 97)).heap[w.heap.size]? = some (.cells zero9 52 (0, 0))) := Lib.hid ⟨((Keeps.refl _ _).alloc _).alloc _, new_blk1 _ _ _, hk_alloc (new_blk _ _) _⟩
  have HP := Lib.hid (eparse_all s 0 (w.heap.size + 1) (by omega) (by omega) _ (.lev 0) 0 r _ (Nat.le_refl _) (Int.le_refl _) (by omega) hr HW0.out.2.1 (hv.keeps HW0.out.1 (by simp)) _ rfl)
  have HR := Lib.hid hr
  clear hv hr hvl
  go_enter Tryz.func25, Tryz.ntmps25
  go_wp2_with fail
  refine HP.out.mono ?_
  rintro e1 w2 hx
  obtain ⟨T, vi, vk, va, rfl, hrep, hk1, hm1⟩ := psays_at hx
  obtain ⟨a1, c1, a2, c2, a3, c3, rfl, rfl, rfl⟩ := xrep_shape hrep
  cases r with
  | err p c =>
    have hc : c ≠ 0 := par_code HR.out
    obtain ⟨a, ha0, ha1, hpa⟩ : ∃ a : Int, 0 ≤ a ∧ a ≤ s.size ∧ PAt s a p c (w.heap.size + 1) w2 := hm1
    have HX := Lib.hid (px_new (b := w.heap.size + 1) HW0.out.1 HW0.out.2.2 (Nat.lt_succ_self _) (by simp) hrep hk1 hpa)
    have hsz : w.heap.size + 1 < w2.heap.size := by have := hk1.size; simp at this; omega
    clear hx hrep hk1 hpa HP
    go_upto_region 5 with fail
    refine abs_world (F := fun W => PX s a p c (w.heap.size + 1) w2.heap.size T (.slice a1 T.lit.its.length c1) (.slice a2 T.lit.ks.length c2) (.slice a3 T.args.length c3) w W) HX.out (fun W3 HW3 => ?_)
    have H3 := Lib.hid HW3
    clear HW3 HX
    have gp := cell_blk H3.out.pat
    have gb := cell_blk H3.out.box
    have gbf := frozen_blk H3.out.box
    have hl1 := hk_lt H3.out.box
    have hl2 := hk_lt H3.out.pat
    have HA := Lib.hid (eahead_any s a p c (w.heap.size + 1) W3 H3.out.pat ha0 (by omega))
    have HF := Lib.hid (fail_no s a p c (blanks s a) 1 (w.heap.size + 1) W3 H3.out.pat hc)
    have e1 : (c != 0) = true := by simpa using hc
    have HZD := Lib.hid H3.out.zerD
    clear hc
    generalize blanks s a = q at *
    go_upto_region 8 with (first
      | (go_at_call 46; refine HA.out.mono ?_; rintro e' w' ⟨rfl, rfl⟩)
      | (go_at_call 47; refine HF.out.mono ?_; rintro e' w' ⟨rfl, rfl⟩))
    all_goals go_region_law (fail)
    all_goals
      refine ‹∀ (a : Act) (w : World), _ → _› _ _ ?_
      go_wp2_with fail
      simp only [Act.put, List.getElem_toArray, List.getElem_cons_succ, List.getElem_cons_zero, List.setIfInBounds_toArray, List.set_cons_zero, List.set_cons_succ]
      refine abs_post (F := ZerD w) HZD.out (fun W hW => ?_)
      have cr := cell_blk hW.1
      exact bodyPost_ret (v := .tuple #[XT.zero.agg (.slice none 0 0) (.slice none 0 0) (.slice none 0 0), .int .i64 p, .int .i64 c]) (by simp [results, Tryz.results25, go_sem, cr]; exact ⟨rfl, rfl, rfl, rfl, rfl, rfl⟩) rfl ⟨_, _, _, rfl, XT.zero_rep _ _, hW.2⟩
  | ok U p =>
    obtain ⟨hT, hpa⟩ : T = U ∧ PAt s p 0 0 (w.heap.size + 1) w2 := hm1
    subst hT
    have hp := par_pos HR.out (Int.le_refl _) (by omega)
    have hp1 : 0 ≤ p := hp.1.1
    have hp2 : p ≤ s.size := hp.1.2
    have HX := Lib.hid (px_new (b := w.heap.size + 1) HW0.out.1 HW0.out.2.2 (Nat.lt_succ_self _) (by simp) hrep hk1 hpa)
    have hsz : w.heap.size + 1 < w2.heap.size := by have := hk1.size; simp at this; omega
    have hgd : XGood T := par_good HR.out (by simp [goodG]) (Int.le_refl _) (by omega)
    have hdp : (T.depth : Int) ≤ p - 0 := par_deep HR.out (Int.le_refl _) (by omega)
    have HGD := Lib.hid hgd
    clear hx hrep hk1 hpa HP hp hgd
    go_upto_region 5 with fail
    refine abs_world (F := fun W => PX s p 0 0 (w.heap.size + 1) w2.heap.size T (.slice a1 T.lit.its.length c1) (.slice a2 T.lit.ks.length c2) (.slice a3 T.args.length c3) w W) HX.out (fun W3 HW3 => ?_)
    have H3 := Lib.hid HW3
    clear HW3 HX
    have gp := cell_blk H3.out.pat
    have gx := cell_blk H3.out.blk
    have gb := cell_blk H3.out.box
    have gbf := frozen_blk H3.out.box
    have hl1 := hk_lt H3.out.box
    have hl2 := hk_lt H3.out.pat
    have HA := Lib.hid (eahead_any s p 0 0 (w.heap.size + 1) W3 H3.out.pat hp1 (by omega))
    by_cases hq : blanks s p < s.size
    · have HF := Lib.hid (fail_yes s p 0 (blanks s p) 1 (w.heap.size + 1) W3 H3.out.pat)
      have HRE : Hid (parseR s (.ok T p) = (XT.zero, blanks s p, 1)) := Lib.hid (by simp only [parseR]; rw [if_pos hq])
      have hd : decide (blanks s p < (s.size : Int)) = true := decide_eq_true hq
      generalize blanks s p = q at *
      generalize parseR s (.ok T p) = pr at *
      go_upto_region 8 with (first
        | (go_at_call 46; refine HA.out.mono ?_; rintro e' w' ⟨rfl, rfl⟩)
        | (go_at_call 47; refine HF.out.mono ?_; rintro e' w4 ⟨rfl, hp4, hk4⟩; have H4 := Lib.hid (H3.out.to hk4 hp4 (Nat.lt_succ_self _) hsz); clear hp4 hk4; have gp4 := cell_blk H4.out.pat; have gb4 := cell_blk H4.out.box; have gbf4 := frozen_blk H4.out.box))
      have HZD := Lib.hid H4.out.zerD
      go_region_law (fail)
      all_goals
        refine ‹∀ (a : Act) (w : World), _ → _› _ _ ?_
        go_wp2_with fail
        simp only [Act.put, List.getElem_toArray, List.getElem_cons_succ, List.getElem_cons_zero, List.setIfInBounds_toArray, List.set_cons_zero, List.set_cons_succ]
        refine abs_post (F := ZerD w) HZD.out (fun W hW => ?_)
        have cr := cell_blk hW.1
        exact bodyPost_ret (v := .tuple #[XT.zero.agg (.slice none 0 0) (.slice none 0 0) (.slice none 0 0), .int .i64 q, .int .i64 1]) (by simp [results, Tryz.results25, go_sem, cr]; exact ⟨rfl, rfl, rfl, rfl, rfl, rfl⟩) rfl (by rw [HRE.out]; exact ⟨_, _, _, rfl, XT.zero_rep _ _, hW.2⟩)
    · have hd : decide (blanks s p < (s.size : Int)) = false := decide_eq_false hq
      have HDE := Lib.hid (fun (W : World) (k : Keeps [] W3 W) => edepth_any 1000000 T _ _ _ _ W (by omega) (Nat.le_refl _) HGD.out (H3.out.go k).rep)
      by_cases h32 : 32 < T.depth
      · have HRE : Hid (parseR s (.ok T p) = (XT.zero, 0, 6)) := Lib.hid (by simp only [parseR]; rw [if_neg hq, if_pos h32])
        generalize blanks s p = q at *
        generalize parseR s (.ok T p) = pr at *
        go_wp2_with (first
          | (go_at_call 46; refine HA.out.mono ?_; rintro e' w' ⟨rfl, rfl⟩)
          | (go_at_call 32; refine (HDE.out _ (Keeps.refl _ _)).mono ?_; rintro e' w4 ⟨rfl, hk4⟩; have H4 := Lib.hid (H3.out.go hk4); clear hk4; have gb4 := cell_blk H4.out.box; have gbf4 := frozen_blk H4.out.box))
        have HZ := Lib.hid H4.out.zer
        refine abs_post (F := fun W => W.heap[w.heap.size]? = some (.cells zero9 52 (0, 0)) ∧ Keeps [] w W) HZ.out (fun W hW => ?_)
        have cr := cell_blk hW.1
        exact bodyPost_ret (v := .tuple #[XT.zero.agg (.slice none 0 0) (.slice none 0 0) (.slice none 0 0), .int .i64 0, .int .i64 6]) (by simp [results, Tryz.results25, go_sem, cr]; exact ⟨rfl, rfl, rfl, rfl, rfl, rfl⟩) rfl (by rw [HRE.out]; exact ⟨_, _, _, rfl, XT.zero_rep _ _, hW.2⟩)
      · have HRE : Hid (parseR s (.ok T p) = (T, 0, 0)) := Lib.hid (by simp only [parseR]; rw [if_neg hq, if_neg h32])
        generalize blanks s p = q at *
        generalize parseR s (.ok T p) = pr at *
        go_wp2_with (first
          | (go_at_call 46; refine HA.out.mono ?_; rintro e' w' ⟨rfl, rfl⟩)
          | (go_at_call 32; refine (HDE.out _ (Keeps.refl _ _)).mono ?_; rintro e' w4 ⟨rfl, hk4⟩; have H4 := Lib.hid (H3.out.go hk4); clear hk4; have gb4 := cell_blk H4.out.box; have gbf4 := frozen_blk H4.out.box; have gx4 := cell_blk H4.out.blk))
        have HZ := Lib.hid (H4.out.ret (Nat.lt_succ_self _))
        refine abs_post (F := fun W => W.heap[w.heap.size]? = some (.cells (T.nine (.slice a1 T.lit.its.length c1) (.slice a2 T.lit.ks.length c2) (.slice a3 T.args.length c3)) 52 (0, 0)) ∧ T.Rep W (w.heap.size ≤ ·) (.slice a1 T.lit.its.length c1) (.slice a2 T.lit.ks.length c2) (.slice a3 T.args.length c3) ∧ Keeps [] w W) HZ.out (fun W hW => ?_)
        have cr := cell_blk hW.1
        exact bodyPost_ret (v := .tuple #[T.agg (.slice a1 T.lit.its.length c1) (.slice a2 T.lit.ks.length c2) (.slice a3 T.args.length c3), .int .i64 0, .int .i64 0]) (by simp [results, Tryz.results25, go_sem, cr]) rfl (by rw [HRE.out]; exact ⟨_, _, _, rfl, hW.2.1, hW.2.2⟩)
end
end Go.Proofs.YtdlkdecigpaaaaaGreatDoor
