/- Put together: The walk of the document's Parse; chevallaw08's trees: a tree of its own; words. -/
import Derived.Test.YtdlkdecigpaaaaaGreatDoorMg41
import Derived.Test.YtdlkdecigpaaaaaGreatDoorMg42
import Derived.Test.YtdlkdecigpaaaaaGreatDoorMg32
namespace Go.Proofs.YtdlkdecigpaaaaaGreatDoor
set_option linter.unusedVariables false
set_option linter.unusedSimpArgs false
open Go.RowKit

/-- The variable's block bears an answer; the result's block is as it was made. -/
structure PR (r : Res) (x : Nat) (T : XT) (vi vk va : Value) (p c : Int) (w W : World) : Prop where
  blk : W.heap[x]? = some (.cells (T.elf vi vk va p c) 81 (0, 0))
  rep : T.Rep W (w.heap.size < ·) vi vk va
  keeps : Keeps [] w W
  box : W.heap[w.heap.size]? = some (.cells zero9 30 (0, 0))
  at_ : RAt r T p c
def ZerE (w W : World) : Prop := W.heap[w.heap.size]? = some (.cells zero9 30 (0, 0)) ∧ Keeps [] w W
theorem ZerE.drew {w X : World} (h : ZerE w X) : ZerE w X.drew := ⟨h.1, h.2.drew⟩
def RetE (T : XT) (vi vk va : Value) (w W : World) : Prop := W.heap[w.heap.size]? = some (.cells (T.nine vi vk va) 30 (0, 0)) ∧ T.Rep W (w.heap.size ≤ ·) vi vk va ∧ Keeps [] w W
section
variable {r : Res} {x : Nat} {T : XT} {vi vk va : Value} {p c : Int} {w W W' : World}
theorem PR.go (h : PR r x T vi vk va p c w W) (k : Keeps [] W W') : PR r x T vi vk va p c w W' :=
  ⟨k.same h.blk, h.rep.keep (kc_keeps k fun _ _ => by simp), h.keeps.trans k, k.same h.box, h.at_⟩
theorem pr_new (hr : T.Rep W ((w.alloc (.cells zero9 30)).heap.size ≤ ·) vi vk va) (hk : Keeps [] (w.alloc (.cells zero9 30)) W) (ha : RAt r T p c) : PR r W.heap.size T vi vk va p c w (W.alloc (.cells (T.elf vi vk va p c) 81)) := by
  have ka : Keeps [] W (W.alloc (.cells (T.elf vi vk va p c) 81)) := (Keeps.refl _ _).alloc _
  exact ⟨new_blk _ _, (hr.mono (fun k hk => by rw [World.size_alloc] at hk; exact hk)).keep (kc_keeps ka fun _ _ => by simp), (((Keeps.refl _ _).alloc _).trans hk).trans ka, ka.same (hk.same (new_blk _ _)), ha⟩
theorem PR.zer (h : PR r x T vi vk va p c w W) : ZerE w (sets9 W w.heap.size (.string eS) (.string eS) (.int .i64 0) (.bool false) (.int .i64 0) (.string eS) (.slice none 0 0) (.slice none 0 0) (.slice none 0 0)) := by
  have k9 := keeps_sets9 W w.heap.size (.string eS) (.string eS) (.int .i64 0) (.bool false) (.int .i64 0) (.string eS) (.slice none 0 0) (.slice none 0 0) (.slice none 0 0)
  exact ⟨blk_sets9 h.box _ _ _ _ _ _ _ _ _, h.keeps.step k9 (fun k h1 h2 => by simp at h1; omega)⟩
theorem PR.ret (h : PR r x T vi vk va p c w W) : RetE T vi vk va w (sets9 W w.heap.size (.string T.op) (.string T.nm) (.int .i64 T.lit.k) (.bool T.lit.b) (.int .i64 T.lit.n) (.string T.lit.s) vi vk va) := by
  have k9 := keeps_sets9 W w.heap.size (.string T.op) (.string T.nm) (.int .i64 T.lit.k) (.bool T.lit.b) (.int .i64 T.lit.n) (.string T.lit.s) vi vk va
  exact ⟨blk_sets9 h.box _ _ _ _ _ _ _ _ _, (h.rep.keep (kc_keeps k9 fun k hk => by simp; omega)).mono (fun k hk => by omega), h.keeps.step k9 (fun k h1 h2 => by simp at h1; omega)⟩
end
section
variable (s : ByteArray) (w : World) (r : Res)
set_option maxRecDepth 20000 in
set_option maxHeartbeats 1000000 in
theorem rParse_long (hs : 2048 < s.size) (hs2 : s.size ≤ 140737488351232) : Calls Tryz.prog 15 #[.string s] w (Says3 (XT.zero, 0, 7) w) := by
  go_enter Tryz.func15, Tryz.ntmps15
  go_wp2_with fail
  exact bodyPost_ret (v := .tuple #[XT.zero.agg (.slice none 0 0) (.slice none 0 0) (.slice none 0 0), .int .i64 0, .int .i64 7]) (by simp [results, Tryz.results15, go_sem]; exact ⟨rfl, rfl, rfl, rfl, rfl, rfl⟩) rfl ⟨_, _, _, rfl, XT.zero_rep _ _, (Keeps.refl _ _).alloc _⟩
set_option maxRecDepth 20000 in
set_option maxHeartbeats 1500000 in
theorem rParse_any (hs : s.size ≤ 2048) (hr : Par s (.lev 0) 0 r) : Calls Tryz.prog 15 #[.string s] w (Says3 (parseR s r) w) := by
  have HP : Hid (∀ W, Calls Tryz.prog 40 #[.string s, .int .i64 0, .int .i64 0] W (RSays r W)) := Lib.hid (fun W => rparse_all s (by omega) _ (.lev 0) 0 r W (Nat.le_refl _) (by simp [goodG]) (Int.le_refl _) (by omega) hr)
  have HR := Lib.hid hr
  clear hr
  go_enter Tryz.func15, Tryz.ntmps15
  go_wp2_with fail
  refine (HP.out _).mono ?_
  rintro e1 w2 hx
  obtain ⟨T, vi, vk, va, p, c, rfl, hrep, hk1, ha⟩ := rsays_at hx
  obtain ⟨a1, c1, a2, c2, a3, c3, rfl, rfl, rfl⟩ := xrep_shape hrep
  have HX := Lib.hid (pr_new hrep hk1 ha)
  clear hx hrep hk1 ha HP
  go_upto_region 4 with fail
  refine abs_world (F := fun W => PR r w2.heap.size T (.slice a1 T.lit.its.length c1) (.slice a2 T.lit.ks.length c2) (.slice a3 T.args.length c3) p c w W) HX.out (fun W3 HW3 => ?_)
  have H3 := Lib.hid HW3
  clear HW3 HX
  have gx := cell_blk H3.out.blk
  have gb := cell_blk H3.out.box
  have gbf := frozen_blk H3.out.box
  have hl1 := hk_lt H3.out.box
  have hl2 := hk_lt H3.out.blk
  cases r with
  | err p' c' =>
    have hat : T = XT.zero ∧ p = p' ∧ c = c' := H3.out.at_
    obtain ⟨hT, rfl, rfl⟩ := hat
    have hc : c ≠ 0 := par_code HR.out
    have e1 : (c == 0) = false := by rw [beq_eq_false_iff_ne]; exact hc
    have HZD := Lib.hid H3.out.zer.drew
    clear hc hT
    go_upto_region 5 with fail
    go_region_law (fail)
    all_goals
      refine ‹∀ (a : Act) (w : World), _ → _› _ _ ?_
      go_wp2_with fail
      simp only [Act.put, List.getElem_toArray, List.getElem_cons_succ, List.getElem_cons_zero, List.setIfInBounds_toArray, List.set_cons_zero, List.set_cons_succ]
      refine abs_post (F := ZerE w) HZD.out (fun W hW => ?_)
      have cr := cell_blk hW.1
      exact bodyPost_ret (v := .tuple #[XT.zero.agg (.slice none 0 0) (.slice none 0 0) (.slice none 0 0), .int .i64 p, .int .i64 c]) (by simp [results, Tryz.results15, go_sem, cr]; exact ⟨rfl, rfl, rfl, rfl, rfl, rfl⟩) rfl ⟨_, _, _, rfl, XT.zero_rep _ _, hW.2⟩
  | ok U p' =>
    have hat : T = U ∧ p = p' ∧ c = 0 := H3.out.at_
    obtain ⟨rfl, rfl, rfl⟩ := hat
    have hp := par_pos HR.out (Int.le_refl _) (by omega)
    have hp1 : 0 ≤ p := hp.1.1
    have hp2 : p ≤ s.size := hp.1.2
    have HGD : Hid (XGood T) := Lib.hid (par_good HR.out (by simp [goodG]) (Int.le_refl _) (by omega))
    have hdp : (T.depth : Int) ≤ p - 0 := par_deep HR.out (Int.le_refl _) (by omega)
    have HBL := Lib.hid (fun W => blanks_any s p W hp1 (by omega))
    have HDE := Lib.hid (rdepth_any 1000000 T _ _ _ _ W3 (by omega) (Nat.le_refl _) HGD.out H3.out.rep)
    clear hp
    by_cases hq : blanks s p < s.size
    · have HRE : Hid (parseR s (.ok T p) = (XT.zero, blanks s p, 1)) := Lib.hid (by simp only [parseR]; rw [if_pos hq])
      have hd : decide (blanks s p < (s.size : Int)) = true := decide_eq_true hq
      have HZ := Lib.hid H3.out.zer
      generalize blanks s p = q at *
      generalize parseR s (.ok T p) = pr at *
      go_wp2_with (go_at_call 30; (with_reducible refine (HBL.out _).mono ?_); rintro e' w' ⟨rfl, rfl⟩)
      refine abs_post (F := ZerE w) HZ.out (fun W hW => ?_)
      have cr := cell_blk hW.1
      exact bodyPost_ret (v := .tuple #[XT.zero.agg (.slice none 0 0) (.slice none 0 0) (.slice none 0 0), .int .i64 q, .int .i64 1]) (by simp [results, Tryz.results15, go_sem, cr]; exact ⟨rfl, rfl, rfl, rfl, rfl, rfl⟩) rfl (by rw [HRE.out]; exact ⟨_, _, _, rfl, XT.zero_rep _ _, hW.2⟩)
    · have hd : decide (blanks s p < (s.size : Int)) = false := decide_eq_false hq
      by_cases h32 : 32 < T.depth
      · have HRE : Hid (parseR s (.ok T p) = (XT.zero, 0, 6)) := Lib.hid (by simp only [parseR]; rw [if_neg hq, if_pos h32])
        generalize blanks s p = q at *
        generalize parseR s (.ok T p) = pr at *
        go_wp2_with (first
          | (go_at_call 30; (with_reducible refine (HBL.out _).mono ?_); rintro e' w' ⟨rfl, rfl⟩)
          | (go_at_call 31; refine HDE.out.mono ?_; rintro e' w4 ⟨rfl, hk4⟩; have H4 := Lib.hid (H3.out.go hk4); clear hk4; have gb4 := cell_blk H4.out.box; have gbf4 := frozen_blk H4.out.box))
        have HZ := Lib.hid H4.out.zer
        refine abs_post (F := ZerE w) HZ.out (fun W hW => ?_)
        have cr := cell_blk hW.1
        exact bodyPost_ret (v := .tuple #[XT.zero.agg (.slice none 0 0) (.slice none 0 0) (.slice none 0 0), .int .i64 0, .int .i64 6]) (by simp [results, Tryz.results15, go_sem, cr]; exact ⟨rfl, rfl, rfl, rfl, rfl, rfl⟩) rfl (by rw [HRE.out]; exact ⟨_, _, _, rfl, XT.zero_rep _ _, hW.2⟩)
      · have HRE : Hid (parseR s (.ok T p) = (T, 0, 0)) := Lib.hid (by simp only [parseR]; rw [if_neg hq, if_neg h32])
        generalize blanks s p = q at *
        generalize parseR s (.ok T p) = pr at *
        go_wp2_with (first
          | (go_at_call 30; (with_reducible refine (HBL.out _).mono ?_); rintro e' w' ⟨rfl, rfl⟩)
          | (go_at_call 31; refine HDE.out.mono ?_; rintro e' w4 ⟨rfl, hk4⟩; have H4 := Lib.hid (H3.out.go hk4); clear hk4; have gb4 := cell_blk H4.out.box; have gbf4 := frozen_blk H4.out.box; have gx4 := cell_blk H4.out.blk))
        have HZ := Lib.hid H4.out.ret
        refine abs_post (F := RetE T (.slice a1 T.lit.its.length c1) (.slice a2 T.lit.ks.length c2) (.slice a3 T.args.length c3) w) HZ.out (fun W hW => ?_)
        have cr := cell_blk hW.1
        exact bodyPost_ret (v := .tuple #[T.agg (.slice a1 T.lit.its.length c1) (.slice a2 T.lit.ks.length c2) (.slice a3 T.args.length c3), .int .i64 0, .int .i64 0]) (by simp [results, Tryz.results15, go_sem, cr]) rfl (by rw [HRE.out]; exact ⟨_, _, _, rfl, hW.2.1, hW.2.2⟩)
end
end Go.Proofs.YtdlkdecigpaaaaaGreatDoor
namespace Go.Proofs.YtdlkdecigpaaaaaGreatDoor
set_option linter.unusedVariables false
set_option linter.unusedSimpArgs false
open Go.RowKit

/-- Block b bears a tree; its parts so far are a row of the call's own. -/
structure ArgL (t : TypeId) (b : Nat) (T : XT) (a1 a2 : Option Addr) (c1 c2 : Nat) (j : Nat) (va : Value) (xs : List Value) (w W : World) : Prop where
  blk : W.heap[b]? = some (.cells (T.nine (.slice a1 T.lit.its.length c1) (.slice a2 T.lit.ks.length c2) va) t (0, 0))
  own : W.ownsRow (b + 1) t 9 va j xs
  rows : Rows (XT.Nine W (fun k => w.heap.size + 1 < k ∧ k ≠ b ∧ some k ≠ va.ownBlock)) (T.args.take j) xs
  keeps : Keeps [] w W
  box : W.heap[w.heap.size + 1]? = some (.cells zero9 t (0, 0))
  lit : ∀ W' S', T.lit.Rep W' S' (.slice a1 T.lit.its.length c1) (.slice a2 T.lit.ks.length c2)
section
variable {t : TypeId} {b : Nat} {T : XT} {a1 a2 : Option Addr} {c1 c2 : Nat} {j : Nat} {va : Value} {xs : List Value} {w W W' : World}
theorem ArgL.go (h : ArgL t b T a1 a2 c1 c2 j va xs w W) (k : Keeps [] W W') : ArgL t b T a1 a2 c1 c2 j va xs w W' :=
  ⟨k.same h.blk, own_keeps0 h.own k, nine_go (kc_keeps k fun k hk => by simp) (fun _ _ _ _ h _ => h) h.rows, h.keeps.trans k, k.same h.box, h.lit⟩
/-- One part more: it was laid in a block of its own, and appended; the box then bears the new row. -/
theorem ArgL.app {W5 w6 : World} {ui uk ua va' : Value} (hj : j < T.args.length) (h : ArgL t b T a1 a2 c1 c2 j va xs w W) (hb : w.heap.size + 1 < b) (k5 : Keeps [] W W5) (hu : T.args[j].Rep W5 (W.heap.size ≤ ·) ui uk ua)
    (ho : w6.ownsRow (b + 1) t 9 va' (j + 1) (xs ++ T.args[j].head ui uk ua)) (hv : va'.ownBlock = va.ownBlock ∨ va'.ownBlock = some (W5.alloc (.cells (T.args[j].nine ui uk ua) t)).heap.size) (hgr : (W5.alloc (.cells (T.args[j].nine ui uk ua) t)).grownBy w6 va.ownBlock) :
    ArgL t b T a1 a2 c1 c2 (j + 1) va' (xs ++ T.args[j].head ui uk ua) w (w6.setCell ⟨b, 8, none⟩ va') ∧ w6.heap[b]? = some (.cells (T.nine (.slice a1 T.lit.its.length c1) (.slice a2 T.lit.ks.length c2) va) t (0, 0)) := by
  have h5 := h.go k5
  have htk : T.args.take (j + 1) = T.args.take j ++ [T.args[j]] := List.take_succ_eq_append_getElem hj
  have ka : Keeps [] W5 (W5.alloc (.cells (T.args[j].nine ui uk ua) t)) := (Keeps.refl _ _).alloc _
  have hrow : ∀ k, va.ownBlock = some k → b + 1 ≤ k := fun k hk => by
    rcases h5.own.2 with ⟨rfl, _⟩ | ⟨q, cap, cur, rfl, q2, _⟩
    · simp [Value.ownBlock] at hk
    · simp [Value.ownBlock] at hk; omega
  have hown5 : ∀ q, va.ownBlock = some q → q < W.heap.size := fun q hq => (h.own.lt q hq).2
  have hg6 : ∀ k o, k ≤ b → (W5.alloc (.cells (T.args[j].nine ui uk ua) t)).heap[k]? = some o → w6.heap[k]? = some o := fun k o hk ho => hk_grow ho hgr (fun e => by have := hrow k e.symm; omega)
  have hblk6 := hg6 b _ (Nat.le_refl _) (ka.same h5.blk)
  have hbl := hk_lt h.blk
  have hbx := hk_lt h5.box
  have hz5 := k5.size
  have hz := h5.keeps.size
  have kc6 : Kc (fun k => w.heap.size + 1 < k ∧ k ≠ b ∧ some k ≠ va.ownBlock) W5 (w6.setCell ⟨b, 8, none⟩ va') := ((kc_alloc (.cells (T.args[j].nine ui uk ua) t)).trans (kc_grown hgr fun q hq hS => hS.2.2 hq.symm)).trans (kc_set (fun h => h.2.1 rfl) _)
  have hnew : ∀ k, w.heap.size + 1 < k ∧ k ≠ b ∧ some k ≠ va.ownBlock → k < W5.heap.size → w.heap.size + 1 < k ∧ k ≠ b ∧ some k ≠ va'.ownBlock := fun k hk hl => ⟨hk.1, hk.2.1, fun e => by
    rcases hv with hv | hv
    · rw [hv] at e; exact hk.2.2 e
    · rw [hv, World.size_alloc] at e; have := Option.some.inj e; omega⟩
  refine ⟨⟨set_to hblk6 8 va' rfl, ?_, ?_, ?_, ?_, h.lit⟩, hblk6⟩
  · exact own_keeps9 ho ((Keeps.refl [b] w6).set (.inl (by simp)) va') (Nat.lt_succ_self b)
  · rw [htk]
    refine Rows.snoc ?_ ⟨ui, uk, ua, rfl, ?_⟩
    · exact nine_go (kc6.mono fun k hk => hk.1) (fun k _ _ _ hk _ => hnew k hk.1 hk.2) (nine_go (S' := fun k => (w.heap.size + 1 < k ∧ k ≠ b ∧ some k ≠ va.ownBlock) ∧ k < W5.heap.size) (Kc.refl _ _) (fun k _ _ _ hk hx => ⟨hk, hk_lt hx⟩) h5.rows)
    · refine XT.Rep.go (S := fun k => (w.heap.size + 1 < k ∧ k ≠ b ∧ some k ≠ va.ownBlock) ∧ k < W5.heap.size) (kc6.mono fun k hk => hk.1) (fun k _ _ _ hk _ => hnew k hk.1 hk.2) ?_
      exact hu.into fun k _ _ _ hk hx => ⟨⟨by omega, by omega, fun e => by have := hown5 k e.symm; omega⟩, hk_lt hx⟩
  · exact (keeps_grown (h5.keeps.alloc _) hgr (fun q hq => by have := hrow q hq; omega)).set (.inr (by dsimp only; omega)) _
  · rw [Below.heap_setCell w6 ⟨b, 8, none⟩ va' _ (by dsimp only; omega)]
    exact hg6 _ _ (by omega) (ka.same h5.box)
theorem ArgL.rep1 (h : ArgL t b T a1 a2 c1 c2 T.args.length va xs w W) (hb : w.heap.size + 1 < b) : T.Rep W (w.heap.size + 1 < ·) (.slice a1 T.lit.its.length c1) (.slice a2 T.lit.ks.length c2) va := by
  have h2 := h.rows
  have h3 := h.own
  rw [List.take_length] at h2
  exact xrep_iff.2 ⟨h.lit _ _, xs, (Sl.of_own h3).mono fun k hk => by omega, nine_go (Kc.refl _ _) (fun _ _ _ _ h _ => h.1) h2⟩
theorem argl_new (hb : b = W.heap.size) (hk : Keeps [] w W) (hbox : W.heap[w.heap.size + 1]? = some (.cells zero9 t (0, 0))) (hl : ∀ W' S', T.lit.Rep W' S' (.slice a1 T.lit.its.length c1) (.slice a2 T.lit.ks.length c2)) :
    ArgL t b T a1 a2 c1 c2 0 (.slice none 0 0) [] w (W.alloc (.cells (T.nine (.slice a1 T.lit.its.length c1) (.slice a2 T.lit.ks.length c2) (.slice none 0 0)) t)) := by
  subst hb
  exact ⟨new_blk _ _, World.ownsRow_nil _ _ _ _, rfl, hk.alloc _, hk_alloc hbox _, hl⟩
theorem argl_set {cs : Array Value} (hbl : W.heap[b]? = some (.cells cs t (0, 0))) (hcs : cs.size = 9) (hbw : w.heap.size + 1 < b) (hk : Keeps [] w W) (hbox : W.heap[w.heap.size + 1]? = some (.cells zero9 t (0, 0))) (hl : ∀ W' S', T.lit.Rep W' S' (.slice a1 T.lit.its.length c1) (.slice a2 T.lit.ks.length c2)) :
    ArgL t b T a1 a2 c1 c2 0 (.slice none 0 0) [] w (sets9 W b (.string T.op) (.string T.nm) (.int .i64 T.lit.k) (.bool T.lit.b) (.int .i64 T.lit.n) (.string T.lit.s) (.slice a1 T.lit.its.length c1) (.slice a2 T.lit.ks.length c2) (.slice none 0 0)) := by
  have k9 := keeps_sets9 W b (.string T.op) (.string T.nm) (.int .i64 T.lit.k) (.bool T.lit.b) (.int .i64 T.lit.n) (.string T.lit.s) (.slice a1 T.lit.its.length c1) (.slice a2 T.lit.ks.length c2) (.slice none 0 0)
  obtain ⟨L⟩ := cs
  obtain ⟨x0, x1, x2, x3, x4, x5, x6, x7, x8, rfl⟩ : ∃ x0 x1 x2 x3 x4 x5 x6 x7 x8, L = [x0, x1, x2, x3, x4, x5, x6, x7, x8] := by
    simp only [List.size_toArray] at hcs
    match L, hcs with
    | [_, _, _, _, _, _, _, _, _], _ => exact ⟨_, _, _, _, _, _, _, _, _, rfl⟩
  exact ⟨blk_sets9 hbl _ _ _ _ _ _ _ _ _, World.ownsRow_nil _ _ _ _, rfl, hk.step k9 (fun k h1 h2 => by simp at h1; omega), k9.heap hbox (by simp; omega), hl⟩
theorem ArgL.fin (h : ArgL t b T a1 a2 c1 c2 T.args.length va xs w W) (hb : w.heap.size + 1 < b) :
    (sets9 W (w.heap.size + 1) (.string T.op) (.string T.nm) (.int .i64 T.lit.k) (.bool T.lit.b) (.int .i64 T.lit.n) (.string T.lit.s) (.slice a1 T.lit.its.length c1) (.slice a2 T.lit.ks.length c2) va).heap[w.heap.size + 1]? = some (.cells (T.nine (.slice a1 T.lit.its.length c1) (.slice a2 T.lit.ks.length c2) va) t (0, 0)) ∧
    T.Rep (sets9 W (w.heap.size + 1) (.string T.op) (.string T.nm) (.int .i64 T.lit.k) (.bool T.lit.b) (.int .i64 T.lit.n) (.string T.lit.s) (.slice a1 T.lit.its.length c1) (.slice a2 T.lit.ks.length c2) va) (w.heap.size ≤ ·) (.slice a1 T.lit.its.length c1) (.slice a2 T.lit.ks.length c2) va ∧
    Keeps [] w (sets9 W (w.heap.size + 1) (.string T.op) (.string T.nm) (.int .i64 T.lit.k) (.bool T.lit.b) (.int .i64 T.lit.n) (.string T.lit.s) (.slice a1 T.lit.its.length c1) (.slice a2 T.lit.ks.length c2) va) := by
  have k9 := keeps_sets9 W (w.heap.size + 1) (.string T.op) (.string T.nm) (.int .i64 T.lit.k) (.bool T.lit.b) (.int .i64 T.lit.n) (.string T.lit.s) (.slice a1 T.lit.its.length c1) (.slice a2 T.lit.ks.length c2) va
  have hr := h.rep1 hb
  exact ⟨blk_sets9 h.box _ _ _ _ _ _ _ _ _, (hr.keep (kc_keeps k9 fun k hk => by simp; omega)).mono (fun k hk => by omega), h.keeps.step k9 (fun k h1 h2 => by simp at h1; omega)⟩
end
/-- A literal's rows are empty: they are so in whatever world. -/
theorem lit_all {v : VT} {w : World} {S : Nat → Prop} {a1 a2 : Option Addr} {c1 c2 : Nat} (h : v.Rep w S (.slice a1 v.its.length c1) (.slice a2 v.ks.length c2)) (h1 : v.its = []) (h2 : v.ks = []) : ∀ W' S', v.Rep W' S' (.slice a1 v.its.length c1) (.slice a2 v.ks.length c2) := by
  intro W' S'
  obtain ⟨⟨cs, hs, hr⟩, hk⟩ := rep_iff.1 h
  rw [h1] at hs
  rw [h2] at hk
  obtain ⟨_, _, hv, _, hn⟩ := hs.shape
  obtain ⟨_, _, hv2, _, hn2⟩ := hk.shape
  cases hv
  cases hv2
  refine rep_iff.2 ⟨⟨[], ?_, by rw [h1]; rfl⟩, ?_⟩
  · rw [h1]; exact ⟨by simp, _, _, rfl, Nat.zero_le _, hn, fun h => absurd h (Nat.lt_irrefl _)⟩
  · rw [h2]; exact ⟨by simp, _, _, rfl, Nat.zero_le _, hn2, fun h => absurd h (Nat.lt_irrefl _)⟩
theorem lit_ok {v : VT} (h : litOk v) : v.ok := by
  obtain ⟨h1, h2⟩ := h.its
  obtain ⟨k, b, n, s, its, ks⟩ := v
  simp only [VT.its, VT.ks] at h1 h2
  subst h1
  subst h2
  refine ⟨?_, VT.keyed_iff.2 ⟨⟨by simp [VT.ks, VT.its], by simp [VT.ks]⟩, by simp [VT.its]⟩⟩
  rw [VT.size_its]; simp [VT.its, VT.sizes]
theorem leaf_all {o nm : ByteArray} {k : Int} {b : Bool} {n : Int} {s : ByteArray} {l : List XT} (a1 a2 : Option Addr) (c1 c2 : Nat) (h1 : a1 = none → c1 = 0) (h2 : a2 = none → c2 = 0) : ∀ (W' : World) (S' : Nat → Prop), (XT.mk o nm (VT.mk k b n s [] []) l).lit.Rep W' S' (.slice a1 (XT.mk o nm (VT.mk k b n s [] []) l).lit.its.length c1) (.slice a2 (XT.mk o nm (VT.mk k b n s [] []) l).lit.ks.length c2) := fun W' S' =>
  rep_iff.2 ⟨⟨[], ⟨by simp [XT.lit, VT.its], _, _, rfl, Nat.zero_le _, h1, fun h => absurd h (Nat.lt_irrefl _)⟩, rfl⟩, ⟨by simp [XT.lit, VT.ks], _, _, rfl, Nat.zero_le _, h2, fun h => absurd h (Nat.lt_irrefl _)⟩⟩
theorem one_held {g : Nat} {W W' : World} (h1 : g < W.heap.size) (h : Keeps [] W W') : ∀ o, W'.cell? ⟨g, o, none⟩ = W.cell? ⟨g, o, none⟩ :=
  fun o => by simp only [World.cell?, h.block g h1 (by simp)]
theorem good_lit {T : XT} (h : XGood T) : T.lit.ok ∧ T.lit.its = [] ∧ T.lit.ks = [] := by
  rcases h.litE with e | ⟨v, hv, rfl⟩
  · rw [e]; exact ⟨lit_ok (.inl rfl), rfl, rfl⟩
  · exact ⟨lit_ok hv, hv.its⟩
end Go.Proofs.YtdlkdecigpaaaaaGreatDoor
