/- Put together: The document's parser: a call; chevallaw08's trees: a tree of its own; words; The document's parser: one in brackets; The document's parser answers as the grammar says: all levels, by one induction; The walk of the document's Parse. -/
import Derived.Test.YtdlkdecigpaaaaaGreatDoorMp33
import Derived.Test.YtdlkdecigpaaaaaGreatDoorMp4
import Derived.Test.YtdlkdecigpaaaaaGreatDoorMp29
import Derived.Test.YtdlkdecigpaaaaaGreatDoorMp30
namespace Go.Proofs.YtdlkdecigpaaaaaGreatDoor
set_option linter.unusedVariables false
set_option linter.unusedSimpArgs false
open Go.RowKit

theorem elem_e : Elem Tryz.prog 28 30 (.agg zero9) 9 144 := ⟨Tryz.underlying28, by kernel_rfl, rfl, by decide⟩
theorem own_keeps0 {w w1 : World} {base : Nat} {e : TypeId} {size n : Nat} {v : Value} {xs : List Value} (h : w.ownsRow base e size v n xs) (k : Keeps [] w w1) : w1.ownsRow base e size v n xs := by
  obtain ⟨h1, h2 | ⟨b, cap, cur, e1, e2, e3, e4⟩⟩ := h
  · exact ⟨h1, .inl h2⟩
  · exact ⟨h1, .inr ⟨b, cap, cur, e1, e2, k.same e3, e4⟩⟩
/-- Block b bears a call; its parts so far are a row of the call's own. -/
structure ArgR (b : Nat) (nm : ByteArray) (l : List XT) (va : Value) (xs : List Value) (w W : World) : Prop where
  blk : W.heap[b]? = some (.cells (argCells nm va) 30 (0, 0))
  own : W.ownsRow (b + 1) 30 9 va l.length xs
  rows : Rows (XT.Nine W (fun k => w.heap.size < k ∧ k ≠ b ∧ some k ≠ va.ownBlock)) l xs
  keeps : Keeps [] w W
  box : W.heap[w.heap.size]? = some (.cells zero11 81 (0, 0))
theorem argr_new (nm : ByteArray) (w : World) : ArgR (w.heap.size + 1) nm [] (.slice none 0 0) [] w ((w.alloc (.cells zero11 81)).alloc (.cells (argCells nm (.slice none 0 0)) 30)) :=
  ⟨new_blk1 _ _ _, World.ownsRow_nil _ _ _ _, rfl, ((Keeps.refl _ _).alloc _).alloc _, hk_alloc (new_blk _ _) _⟩
section
variable {b : Nat} {nm : ByteArray} {l : List XT} {va : Value} {xs : List Value} {w W W' : World}
theorem ArgR.go (h : ArgR b nm l va xs w W) (k : Keeps [] W W') : ArgR b nm l va xs w W' :=
  ⟨k.same h.blk, own_keeps0 h.own k, nine_go (kc_keeps k fun k hk => by simp) (fun _ _ _ _ h _ => h) h.rows, h.keeps.trans k, k.same h.box⟩
theorem ArgR.boxr (h : ArgR b nm l va xs w W) : BoxR w W := ⟨h.box, h.keeps⟩
theorem ArgR.rep (h : ArgR b nm l va xs w W) (hb : w.heap.size < b) : (XT.mk nm eS VT.zero l).Rep W (w.heap.size < ·) (.slice none 0 0) (.slice none 0 0) va :=
  node_xrep ((Sl.of_own h.own).mono fun k hk => by omega) (nine_go (Kc.refl _ _) (fun _ _ _ _ h _ => h.1) h.rows)
/-- One part more: it was laid in a block of its own, and appended; the box then bears the new row. -/
theorem ArgR.app {W5 w6 : World} {U : XT} {ui uk ua va' : Value} (h : ArgR b nm l va xs w W) (hb : w.heap.size < b) (k5 : Keeps [] W W5) (hu : U.Rep W5 (W.heap.size ≤ ·) ui uk ua)
    (ho : w6.ownsRow (b + 1) 30 9 va' (l.length + 1) (xs ++ U.head ui uk ua)) (hv : va'.ownBlock = va.ownBlock ∨ va'.ownBlock = some (W5.alloc (.cells (U.nine ui uk ua) 30)).heap.size) (hgr : (W5.alloc (.cells (U.nine ui uk ua) 30)).grownBy w6 va.ownBlock) :
    ArgR b nm (l ++ [U]) va' (xs ++ U.head ui uk ua) w (w6.setCell ⟨b, 8, none⟩ va') ∧ w6.heap[b]? = some (.cells (argCells nm va) 30 (0, 0)) ∧ ∀ k o, W.heap.size ≤ k → W5.heap[k]? = some o → w6.heap[k]? = some o := by
  have h5 := h.go k5
  have ka : Keeps [] W5 (W5.alloc (.cells (U.nine ui uk ua) 30)) := (Keeps.refl _ _).alloc _
  have hrow : ∀ k, va.ownBlock = some k → b + 1 ≤ k := fun k hk => by
    rcases h5.own.2 with ⟨rfl, _⟩ | ⟨q, cap, cur, rfl, q2, _⟩
    · simp [Value.ownBlock] at hk
    · simp [Value.ownBlock] at hk; omega
  have hown5 : ∀ q, va.ownBlock = some q → q < W.heap.size := fun q hq => (h.own.lt q hq).2
  have hg6 : ∀ k o, k ≤ b → (W5.alloc (.cells (U.nine ui uk ua) 30)).heap[k]? = some o → w6.heap[k]? = some o := fun k o hk ho => hk_grow ho hgr (fun e => by have := hrow k e.symm; omega)
  have hg7 : ∀ k o, W.heap.size ≤ k → W5.heap[k]? = some o → w6.heap[k]? = some o := fun k o hk ho => hk_grow (ka.same ho) hgr (fun e => by have := hown5 k e.symm; omega)
  have hblk6 := hg6 b _ (Nat.le_refl _) (ka.same h5.blk)
  have hbl := hk_lt h.blk
  have hbx := hk_lt h5.box
  have hz5 := k5.size
  have hz := h5.keeps.size
  have kc6 : Kc (fun k => w.heap.size < k ∧ k ≠ b ∧ some k ≠ va.ownBlock) W5 (w6.setCell ⟨b, 8, none⟩ va') := ((kc_alloc (.cells (U.nine ui uk ua) 30)).trans (kc_grown hgr fun q hq hS => hS.2.2 hq.symm)).trans (kc_set (fun h => h.2.1 rfl) _)
  have hnew : ∀ k, w.heap.size < k ∧ k ≠ b ∧ some k ≠ va.ownBlock → k < W5.heap.size → w.heap.size < k ∧ k ≠ b ∧ some k ≠ va'.ownBlock := fun k hk hl => ⟨hk.1, hk.2.1, fun e => by
    rcases hv with hv | hv
    · rw [hv] at e; exact hk.2.2 e
    · rw [hv, World.size_alloc] at e; have := Option.some.inj e; omega⟩
  refine ⟨⟨set_to hblk6 8 va' rfl, by simpa using own_keeps9 ho ((Keeps.refl [b] w6).set (.inl (by simp)) va') (Nat.lt_succ_self b), ?_, ?_, ?_⟩, hblk6, hg7⟩
  · refine Rows.snoc ?_ ⟨ui, uk, ua, rfl, ?_⟩
    · exact nine_go (kc6.mono fun k hk => hk.1) (fun k _ _ _ hk _ => hnew k hk.1 hk.2) (nine_go (S' := fun k => (w.heap.size < k ∧ k ≠ b ∧ some k ≠ va.ownBlock) ∧ k < W5.heap.size) (Kc.refl _ _) (fun k _ _ _ hk hx => ⟨hk, hk_lt hx⟩) h5.rows)
    · refine XT.Rep.go (S := fun k => (w.heap.size < k ∧ k ≠ b ∧ some k ≠ va.ownBlock) ∧ k < W5.heap.size) (kc6.mono fun k hk => hk.1) (fun k _ _ _ hk _ => hnew k hk.1 hk.2) ?_
      exact hu.into fun k _ _ _ hk hx => ⟨⟨by omega, by omega, fun e => by have := hown5 k e.symm; omega⟩, hk_lt hx⟩
  · exact (keeps_grown (h5.keeps.alloc _) hgr (fun q hq => by have := hrow q hq; omega)).set (.inr (by dsimp only; omega)) _
  · rw [Below.heap_setCell w6 ⟨b, 8, none⟩ va' _ (by dsimp only; omega)]
    exact hg6 _ _ (by omega) (ka.same h5.box)
end
section
variable {r r2 : Res} {b : Nat} {T : XT} {vi vk va : Value} {p c : Int} {w W : World}
/-- A tree in new cells is the result. -/
theorem BoxR.told0 (h : BoxR w W) (hr : T.Rep W (w.heap.size < ·) vi vk va) (ha : RAt r T p c) :
    ToldR r w.heap.size T vi vk va p c w (sets11 W w.heap.size (.string T.op) (.string T.nm) (.int .i64 T.lit.k) (.bool T.lit.b) (.int .i64 T.lit.n) (.string T.lit.s) vi vk va (.int .i64 p) (.int .i64 c)) := by
  have k := keeps_sets11 W w.heap.size (.string T.op) (.string T.nm) (.int .i64 T.lit.k) (.bool T.lit.b) (.int .i64 T.lit.n) (.string T.lit.s) vi vk va (.int .i64 p) (.int .i64 c)
  exact ⟨blk_sets11 h.box _ _ _ _ _ _ _ _ _ _ _, (hr.keep (kc_keeps k fun x hx => by simp; omega)).mono (fun x hx => by omega), h.keeps.step k (fun x h1 h3 => by simp at h1; omega), ha⟩
end
section
variable (s : ByteArray) (i : Int) (w : World) (r : Res) (nm : ByteArray)
set_option maxRecDepth 20000 in
set_option maxHeartbeats 4000000 in
theorem rcall_open (h0 : 0 ≤ i) (h1 : i ≤ s.size) (hs : s.size ≤ 4000) (hm : markAt s i ⟨#[40]⟩ < 0) :
    Calls Tryz.prog 122 #[.string s, .string nm, .int .i64 i] w (RSays (.err (blanks s i) 1) w) := by
  have HX0 := Lib.hid (argr_new nm w)
  have HMK := Lib.hid (fun W => rmark_any s ⟨#[40]⟩ i W h0 h1 (by omega) (by decide))
  have HBL := Lib.hid (fun W => blanks_any s i W h0 (by omega))
  have HX := Lib.hid (fun W => rwrong_any (blanks s i) 1 W)
  generalize markAt s i ⟨#[40]⟩ = m at *
  generalize blanks s i = q at *
  go_enter Tryz.func122, Tryz.ntmps122
  go_wp2_with (first
    | (go_at_call 66; (with_reducible refine (HMK.out _).mono ?_); rintro e w' ⟨rfl, rfl⟩)
    | (go_at_call 30; (with_reducible refine (HBL.out _).mono ?_); rintro e w' ⟨rfl, rfl⟩))
  refine (HX.out _).mono ?_
  rintro e1 w2 hx
  obtain ⟨T, vi, vk, va, p, c, rfl, hrep, hk1, ha⟩ := rsays_at hx
  obtain ⟨a1, c1, a2, c2, a3, c3, rfl, rfl, rfl⟩ := xrep_shape hrep
  have HT := Lib.hid (HX0.out.boxr.told hrep hk1 ha)
  have HB3 := Lib.hid (HX0.out.boxr.go hk1)
  have gb := cell_blk HB3.out.box
  have gf := frozen_blk HB3.out.box
  clear hx hrep hk1 ha
  go_wp2_with fail
  refine abs_post (F := fun W => ToldR (.err q 1) w.heap.size (T) (.slice a1 T.lit.its.length c1) (.slice a2 T.lit.ks.length c2) (.slice a3 T.args.length c3) (p) (c) w W) (HT.out) (fun W hW => ?_)
  have cr := cell_blk hW.blk
  exact bodyPost_ret (v := .agg ((T : XT).elf (.slice a1 T.lit.its.length c1) (.slice a2 T.lit.ks.length c2) (.slice a3 T.args.length c3) (p) (c))) (by simp [results, Tryz.results122, go_sem, cr]) rfl (at_rsays rfl hW)
set_option maxRecDepth 20000 in
set_option maxHeartbeats 8000000 in
theorem rcall_of (hN : 0 < argsN nm) (h0 : 0 ≤ i) (h1 : i ≤ s.size) (hs : s.size ≤ 4000) (hm : 0 ≤ markAt s i ⟨#[40]⟩) (hr : Par s (.call nm []) (markAt s i ⟨#[40]⟩) r)
    (HO : ∀ (i' : Int) (r' : Res) (W : World), i < i' → i' ≤ s.size → Par s (.lev 0) i' r' → Calls Tryz.prog 40 #[.string s, .int .i64 i', .int .i64 0] W (RSays r' W)) :
    Calls Tryz.prog 122 #[.string s, .string nm, .int .i64 i] w (RSays r w) := by
  have HX0 := Lib.hid (argr_new nm w)
  have HMK := Lib.hid (fun W => rmark_any s ⟨#[40]⟩ i W h0 h1 (by omega) (by decide))
  have HMT := Lib.hid (fun (t : ByteArray) (p : Int) (W : World) (hp0 : 0 ≤ p) (hp : p ≤ s.size) (ht : t.size ≤ 1000) => rmark_any s t p W hp0 hp (by omega) ht)
  have HAR := Lib.hid (fun W => rargs_any nm W)
  have HOX := Lib.hid HO
  have hmp := mark_pos hm (by decide)
  have hm2 := argsN_le nm
  have HR : Hid (Par s (.call nm []) (markAt s i ⟨#[40]⟩) r) := Lib.hid hr
  clear hr HO
  generalize markAt s i ⟨#[40]⟩ = m at *
  go_enter Tryz.func122, Tryz.ntmps122
  go_wp2_with (go_at_call 66; (with_reducible refine (HMK.out _).mono ?_); rintro e w' ⟨rfl, rfl⟩)
  refine abs_world (F := fun W => ArgR (w.heap.size + 1) nm [] (.slice none 0 0) [] w W) HX0.out (fun W3 HW3 => ?_)
  have HS3 := Lib.hid HW3
  clear HW3 HX0 HMK
  go_loopw [8] (fun v W => ∃ (p : Int) (l : List XT) (va : Value) (xs : List Value), v = .int .i64 p ∧ i < p ∧ p ≤ s.size ∧ l.length < argsN nm ∧ Hid (Par s (.call nm l) p r ∧ ArgR (w.heap.size + 1) nm l va xs w W)) (fun v _ => s.size - (intOf v).toNat)
  case atStart => exact ⟨m, [], _, _, rfl, hmp.1, hmp.2, hN, Lib.hid ⟨HR.out, HS3.out⟩⟩
  case round =>
    obtain ⟨p, l, va, xs, rfl, hip, hp, hlen, HQ⟩ := hrel
    obtain ⟨b3, d3, rfl, hld⟩ := own_slice_len HQ.out.2.own
    obtain ⟨r3, hr3, he3, ho3⟩ := call_cases HQ.out.1
    have HR3 := Lib.hid hr3
    have HE3 := Lib.hid he3
    have HO3 := Lib.hid ho3
    have HOR := Lib.hid (fun (W : World) => HOX.out p r3 W hip hp hr3)
    clear hr3 he3 ho3
    go_wp2_with fail
    refine (HOR.out _).mono ?_
    rintro e5 w5 hx
    obtain ⟨U, ui, uk, ua, p2, c2, rfl, hrep, hk5, ha⟩ := rsays_at hx
    obtain ⟨x1, y1, x2, y2, x3, y3, rfl, rfl, rfl⟩ := xrep_shape hrep
    have hk6 : Keeps [] wr (w5.alloc (.cells (U.elf (.slice x1 U.lit.its.length y1) (.slice x2 U.lit.ks.length y2) (.slice x3 U.args.length y3) p2 c2) 81)) := hk5.alloc _
    have H5 := Lib.hid (And.intro hk6 (And.intro (new_blk w5 (.cells (U.elf (.slice x1 U.lit.its.length y1) (.slice x2 U.lit.ks.length y2) (.slice x3 U.args.length y3) p2 c2) 81)) (And.intro (hrep.keep (kc_keeps ((Keeps.refl [] w5).alloc (.cells (U.elf (.slice x1 U.lit.its.length y1) (.slice x2 U.lit.ks.length y2) (.slice x3 U.args.length y3) p2 c2) 81)) fun k _ => by simp)) hk5.size)))
    have HAT := Lib.hid ha
    clear hx hrep hk5 ha hk6 HOR
    cases r3 with
    | err p' c' =>
      have hat : U = XT.zero ∧ p2 = p' ∧ c2 = c' := HAT.out
      obtain ⟨hU, rfl, rfl⟩ := hat
      obtain ⟨hre, hc'⟩ := HE3.out p2 c2 rfl
      have e1 : (c2 == 0) = false := by rw [beq_eq_false_iff_ne]; exact hc'
      have HRE := Lib.hid hre
      clear hc' hU hre
      go_upto_region 6 with fail
      refine abs_world (F := fun W => BoxR w W ∧ W.heap[w5.heap.size]? = some (.cells (U.elf (.slice x1 U.lit.its.length y1) (.slice x2 U.lit.ks.length y2) (.slice x3 U.args.length y3) p2 c2) 81 (0, 0)) ∧ U.Rep W (wr.heap.size ≤ ·) (.slice x1 U.lit.its.length y1) (.slice x2 U.lit.ks.length y2) (.slice x3 U.args.length y3)) ⟨HQ.out.2.boxr.go H5.out.1, H5.out.2.1, H5.out.2.2.1⟩ (fun W6 HW6 => ?_)
      have H6 := Lib.hid HW6
      clear HW6 H5
      have gb5 := cell_blk H6.out.2.1
      have gb6 := cell_blk H6.out.1.box
      have gbf6 := frozen_blk H6.out.1.box
      have HBX := hk_lt HQ.out.2.box
      have HE := Lib.hid (H6.out.1.told0 (H6.out.2.2.mono fun k hk => Nat.lt_of_lt_of_le HBX hk) HAT.out)
      go_wp2_with fail
      rw [HRE.out]
      refine abs_post (F := fun W => ToldR (.err p2 c2) w.heap.size (U) (.slice x1 U.lit.its.length y1) (.slice x2 U.lit.ks.length y2) (.slice x3 U.args.length y3) (p2) (c2) w W) (HE.out) (fun W hW => ?_)
      have cr := cell_blk hW.blk
      exact bodyPost_ret (v := .agg ((U : XT).elf (.slice x1 U.lit.its.length y1) (.slice x2 U.lit.ks.length y2) (.slice x3 U.args.length y3) (p2) (c2))) (by simp [results, Tryz.results122, go_sem, cr]) rfl (at_rsays rfl hW)
    | ok U' p' =>
      have hat : U = U' ∧ p2 = p' ∧ c2 = 0 := HAT.out
      obtain ⟨rfl, rfl, rfl⟩ := hat
      have hpq := par_pos HR3.out (by omega) hp
      have hpp1 : p < p2 := hpq.2
      have hpp2 : p2 ≤ s.size := hpq.1.2
      clear hpq
      go_upto_region 8 with fail
      refine abs_world (F := fun W => ArgR (w.heap.size + 1) nm l (.slice b3 l.length d3) xs w W ∧ W.heap[w5.heap.size]? = some (.cells (U.elf (.slice x1 U.lit.its.length y1) (.slice x2 U.lit.ks.length y2) (.slice x3 U.args.length y3) p2 0) 81 (0, 0)) ∧ U.Rep W (wr.heap.size ≤ ·) (.slice x1 U.lit.its.length y1) (.slice x2 U.lit.ks.length y2) (.slice x3 U.args.length y3) ∧ Keeps [] wr W) ⟨HQ.out.2.go H5.out.1, H5.out.2.1, H5.out.2.2.1, H5.out.1⟩ (fun W6 HW6 => ?_)
      have H6 := Lib.hid HW6
      have hw5 := H5.out.2.2.2
      clear HW6 H5
      have gx := cell_blk H6.out.1.blk
      have gxf := frozen_blk H6.out.1.blk
      have gy := cell_blk H6.out.2.1
      have hlx := hk_lt H6.out.1.blk
      have hly := hk_lt H6.out.2.1
      go_upto_region 9 with (at_builtin; refine wpList_append_sl rfl _ _ _ rfl rfl elem_e (v := .slice b3 l.length d3) (base := w.heap.size + 2) (x := .slice (some ⟨W6.heap.size, 0, none⟩) 1 1) (S := fun _ => True) rfl rfl (H6.out.1.own.alloc _) (Sl.of_blk (n := 1) (new_blk _ _) trivial rfl) (by exact head_one9 rfl rfl rfl) (by unfold maxLen; omega) (by omega) (by simp only [World.size_alloc]; omega) ?_; intro va' w7 ho hgr hv; obtain ⟨b5, d5, rfl, hld5⟩ := own_slice_len ho; have HA := Lib.hid (HQ.out.2.app (Nat.lt_succ_self _) H6.out.2.2.2 H6.out.2.2.1 ho hv hgr); have gb6 := cell_blk HA.out.2.1; have gbf6 := frozen_blk HA.out.2.1; clear ho hgr hv)
      refine abs_world (F := fun W => ArgR (w.heap.size + 1) nm (l ++ [U]) (.slice b5 (l.length + 1) d5) (xs ++ U.head (.slice x1 U.lit.its.length y1) (.slice x2 U.lit.ks.length y2) (.slice x3 U.args.length y3)) w W ∧ W.heap[w5.heap.size]? = some (.cells (U.elf (.slice x1 U.lit.its.length y1) (.slice x2 U.lit.ks.length y2) (.slice x3 U.args.length y3) p2 0) 81 (0, 0))) ⟨HA.out.1, hk_set (HA.out.2.2 _ _ hw5 H6.out.2.1) (by have := hk_lt HQ.out.2.blk; dsimp only; omega) _⟩ (fun W8 HW8 => ?_)
      have H8 := Lib.hid HW8
      clear HW8 HA gx gxf gy hlx hly gb6 gbf6
      have gx := cell_blk H8.out.1.blk
      have gy := cell_blk H8.out.2
      have hlx := hk_lt H8.out.1.blk
      have HM1 := Lib.hid (fun W => HMT.out ⟨#[41]⟩ p2 W (by omega) hpp2 (by decide))
      have HM4 := Lib.hid (fun W => HMT.out ⟨#[44]⟩ p2 W (by omega) hpp2 (by decide))
      have HBL2 := Lib.hid (fun W => blanks_any s p2 W (by omega) (by omega))
      rcases HO3.out U p2 rfl with ⟨hy, hfew, hre⟩ | ⟨hy, hfew, hre⟩ | ⟨hno, hno2, hre⟩ | ⟨hno, hy, hfew, hre⟩ | ⟨hno, hy, hfew, hpar'⟩
      · have hd1 : decide (((l.length + 1 : Nat) : Int) < (argsN nm : Int)) = true := decide_eq_true (by omega)
        have hd2 : decide ((l.length : Int) + 1 < (argsN nm : Int)) = true := decide_eq_true (by omega)
        have hd3 : (l.length : Int) + 1 < (argsN nm : Int) := by omega
        have HXW := Lib.hid (fun W => rwrong_any (blanks s p2) 12 W)
        have HRE := Lib.hid hre
        clear hre
        generalize markAt s p2 ⟨#[41]⟩ = e3 at *
        generalize blanks s p2 = q2 at *
        go_upto_region 12 with (first
          | (go_at_call 30; (with_reducible refine (HBL2.out _).mono ?_); rintro e' w' ⟨rfl, rfl⟩)
          | (go_at_call 66; (with_reducible refine (HM1.out _).mono ?_); rintro e' w' ⟨rfl, rfl⟩)
          | (go_at_call 66; (with_reducible refine (HM4.out _).mono ?_); rintro e' w' ⟨rfl, rfl⟩))
        go_quiet ((go_at_call 55; exact Calls.quiet_of_same ((HAR.out _).mono fun _ _ h => h.imp id Eq.symm)))
        refine ‹∀ (a : Act) (w : World), _ → _› _ _ ?_
        refine abs_world (F := fun W => ArgR (w.heap.size + 1) nm (l ++ [U]) (.slice b5 (l.length + 1) d5) (xs ++ U.head (.slice x1 U.lit.its.length y1) (.slice x2 U.lit.ks.length y2) (.slice x3 U.args.length y3)) w W) (by exact H8.out.1.go ((Keeps.refl _ _).drewN _)) (fun W9 HW9 => ?_)
        have H9 := Lib.hid HW9
        clear HW9
        go_wp2_with fail
        refine (HXW.out _).mono ?_
        rintro e7 w9 hx
        obtain ⟨V, vi, vk, va'', p3, c3, rfl, hrep, hk7, ha⟩ := rsays_at hx
        obtain ⟨z1, t1, z2, t2, z3, t3, rfl, rfl, rfl⟩ := xrep_shape hrep
        have HT := Lib.hid (H9.out.boxr.told hrep hk7 ha)
        have HB3 := Lib.hid (H9.out.boxr.go hk7)
        have gb := cell_blk HB3.out.box
        have gf := frozen_blk HB3.out.box
        clear hx hrep hk7 ha
        go_wp2_with fail
        rw [HRE.out]
        refine abs_post (F := fun W => ToldR (.err q2 12) w.heap.size (V) (.slice z1 V.lit.its.length t1) (.slice z2 V.lit.ks.length t2) (.slice z3 V.args.length t3) (p3) (c3) w W) (HT.out) (fun W hW => ?_)
        have cr := cell_blk hW.blk
        exact bodyPost_ret (v := .agg ((V : XT).elf (.slice z1 V.lit.its.length t1) (.slice z2 V.lit.ks.length t2) (.slice z3 V.args.length t3) (p3) (c3))) (by simp [results, Tryz.results122, go_sem, cr]) rfl (at_rsays rfl hW)

      · have hd1 : decide (((l.length + 1 : Nat) : Int) < (argsN nm : Int)) = false := decide_eq_false (by omega)
        have hd2 : decide ((l.length : Int) + 1 < (argsN nm : Int)) = false := decide_eq_false (by omega)
        have hd3 : ¬ (l.length : Int) + 1 < (argsN nm : Int) := by omega
        have HRE := Lib.hid hre
        clear hre
        generalize markAt s p2 ⟨#[41]⟩ = e3 at *
        generalize blanks s p2 = q2 at *
        go_upto_region 12 with (first
          | (go_at_call 30; (with_reducible refine (HBL2.out _).mono ?_); rintro e' w' ⟨rfl, rfl⟩)
          | (go_at_call 66; (with_reducible refine (HM1.out _).mono ?_); rintro e' w' ⟨rfl, rfl⟩)
          | (go_at_call 66; (with_reducible refine (HM4.out _).mono ?_); rintro e' w' ⟨rfl, rfl⟩))
        go_quiet ((go_at_call 55; exact Calls.quiet_of_same ((HAR.out _).mono fun _ _ h => h.imp id Eq.symm)))
        refine ‹∀ (a : Act) (w : World), _ → _› _ _ ?_
        refine abs_world (F := fun W => ArgR (w.heap.size + 1) nm (l ++ [U]) (.slice b5 (l.length + 1) d5) (xs ++ U.head (.slice x1 U.lit.its.length y1) (.slice x2 U.lit.ks.length y2) (.slice x3 U.args.length y3)) w W) (by exact H8.out.1.go ((Keeps.refl _ _).drewN _)) (fun W9 HW9 => ?_)
        have H9 := Lib.hid HW9
        clear HW9
        have gx9 := cell_blk H9.out.blk
        have gb9 := cell_blk H9.out.box
        have gbf9 := frozen_blk H9.out.box
        have HE := Lib.hid (H9.out.boxr.told0 (r := .ok (.mk nm eS VT.zero (l ++ [U])) e3) (p := e3) (c := 0) (H9.out.rep (Nat.lt_succ_self _)) ⟨rfl, rfl, rfl⟩)
        go_wp2_with fail
        rw [HRE.out]
        refine abs_post (F := fun W => ToldR (.ok (.mk nm eS VT.zero (l ++ [U])) e3) w.heap.size (.mk nm eS VT.zero (l ++ [U])) (.slice none 0 0) (.slice none 0 0) (.slice b5 (l.length + 1) d5) (e3) (0) w W) (HE.out) (fun W hW => ?_)
        have cr := cell_blk hW.blk
        exact bodyPost_ret (v := .agg ((.mk nm eS VT.zero (l ++ [U]) : XT).elf (.slice none 0 0) (.slice none 0 0) (.slice b5 (l.length + 1) d5) (e3) (0))) (by simp [results, Tryz.results122, go_sem, cr]) rfl (at_rsays rfl hW)
      · have HXW := Lib.hid (fun W => rwrong_any (blanks s p2) 1 W)
        have HRE := Lib.hid hre
        clear hre
        have hn1 : decide (markAt s p2 ⟨#[41]⟩ ≥ 0) = false := by simpa using hno
        clear gx
        generalize markAt s p2 ⟨#[41]⟩ = e3 at *
        generalize markAt s p2 ⟨#[44]⟩ = e4 at *
        generalize blanks s p2 = q2 at *
        go_wp2_with (first
          | (go_at_call 30; (with_reducible refine (HBL2.out _).mono ?_); rintro e' w' ⟨rfl, rfl⟩)
          | (go_at_call 66; (with_reducible refine (HM1.out _).mono ?_); rintro e' w' ⟨rfl, rfl⟩)
          | (go_at_call 66; (with_reducible refine (HM4.out _).mono ?_); rintro e' w' ⟨rfl, rfl⟩))
        refine (HXW.out _).mono ?_
        rintro e7 w9 hx
        obtain ⟨V, vi, vk, va'', p3, c3, rfl, hrep, hk7, ha⟩ := rsays_at hx
        obtain ⟨z1, t1, z2, t2, z3, t3, rfl, rfl, rfl⟩ := xrep_shape hrep
        have HT := Lib.hid (H8.out.1.boxr.told hrep hk7 ha)
        have HB3 := Lib.hid (H8.out.1.boxr.go hk7)
        have gb := cell_blk HB3.out.box
        have gf := frozen_blk HB3.out.box
        clear hx hrep hk7 ha
        go_wp2_with fail
        rw [HRE.out]
        refine abs_post (F := fun W => ToldR (.err q2 1) w.heap.size (V) (.slice z1 V.lit.its.length t1) (.slice z2 V.lit.ks.length t2) (.slice z3 V.args.length t3) (p3) (c3) w W) (HT.out) (fun W hW => ?_)
        have cr := cell_blk hW.blk
        exact bodyPost_ret (v := .agg ((V : XT).elf (.slice z1 V.lit.its.length t1) (.slice z2 V.lit.ks.length t2) (.slice z3 V.args.length t3) (p3) (c3))) (by simp [results, Tryz.results122, go_sem, cr]) rfl (at_rsays rfl hW)

      · have hd1 : (((l.length + 1 : Nat) : Int) == (argsN nm : Int)) = true := by simpa using (by omega : (l.length : Int) + 1 = argsN nm)
        have hd2 : ((l.length : Int) + 1 == (argsN nm : Int)) = true := by simpa using (by omega : (l.length : Int) + 1 = argsN nm)
        have HXW := Lib.hid (fun W => rwrong_any (blanks s p2) 12 W)
        have HRE := Lib.hid hre
        clear hre
        generalize markAt s p2 ⟨#[41]⟩ = e3 at *
        generalize markAt s p2 ⟨#[44]⟩ = e4 at *
        generalize blanks s p2 = q2 at *
        go_upto_region 18 with (first
          | (go_at_call 30; (with_reducible refine (HBL2.out _).mono ?_); rintro e' w' ⟨rfl, rfl⟩)
          | (go_at_call 66; (with_reducible refine (HM1.out _).mono ?_); rintro e' w' ⟨rfl, rfl⟩)
          | (go_at_call 66; (with_reducible refine (HM4.out _).mono ?_); rintro e' w' ⟨rfl, rfl⟩))
        go_quiet ((go_at_call 55; exact Calls.quiet_of_same ((HAR.out _).mono fun _ _ h => h.imp id Eq.symm)))
        refine ‹∀ (a : Act) (w : World), _ → _› _ _ ?_
        refine abs_world (F := fun W => ArgR (w.heap.size + 1) nm (l ++ [U]) (.slice b5 (l.length + 1) d5) (xs ++ U.head (.slice x1 U.lit.its.length y1) (.slice x2 U.lit.ks.length y2) (.slice x3 U.args.length y3)) w W) (by exact H8.out.1.go ((Keeps.refl _ _).drewN _)) (fun W9 HW9 => ?_)
        have H9 := Lib.hid HW9
        clear HW9
        go_wp2_with fail
        refine (HXW.out _).mono ?_
        rintro e7 w9 hx
        obtain ⟨V, vi, vk, va'', p3, c3, rfl, hrep, hk7, ha⟩ := rsays_at hx
        obtain ⟨z1, t1, z2, t2, z3, t3, rfl, rfl, rfl⟩ := xrep_shape hrep
        have HT := Lib.hid (H9.out.boxr.told hrep hk7 ha)
        have HB3 := Lib.hid (H9.out.boxr.go hk7)
        have gb := cell_blk HB3.out.box
        have gf := frozen_blk HB3.out.box
        clear hx hrep hk7 ha
        go_wp2_with fail
        rw [HRE.out]
        refine abs_post (F := fun W => ToldR (.err q2 12) w.heap.size (V) (.slice z1 V.lit.its.length t1) (.slice z2 V.lit.ks.length t2) (.slice z3 V.args.length t3) (p3) (c3) w W) (HT.out) (fun W hW => ?_)
        have cr := cell_blk hW.blk
        exact bodyPost_ret (v := .agg ((V : XT).elf (.slice z1 V.lit.its.length t1) (.slice z2 V.lit.ks.length t2) (.slice z3 V.args.length t3) (p3) (c3))) (by simp [results, Tryz.results122, go_sem, cr]) rfl (at_rsays rfl hW)

      · have hd1 : (((l.length + 1 : Nat) : Int) == (argsN nm : Int)) = false := by rw [beq_eq_false_iff_ne]; omega
        have hd2 : ((l.length : Int) + 1 == (argsN nm : Int)) = false := by rw [beq_eq_false_iff_ne]; omega
        have hmq := mark_pos hy (by decide)
        have hlen2 : (l ++ [U]).length < argsN nm := by simp; omega
        have HPR := Lib.hid hpar'
        clear hpar'
        generalize markAt s p2 ⟨#[41]⟩ = e3 at *
        generalize markAt s p2 ⟨#[44]⟩ = e4 at *
        generalize blanks s p2 = q2 at *
        go_upto_region 18 with (first
          | (go_at_call 30; (with_reducible refine (HBL2.out _).mono ?_); rintro e' w' ⟨rfl, rfl⟩)
          | (go_at_call 66; (with_reducible refine (HM1.out _).mono ?_); rintro e' w' ⟨rfl, rfl⟩)
          | (go_at_call 66; (with_reducible refine (HM4.out _).mono ?_); rintro e' w' ⟨rfl, rfl⟩))
        go_quiet ((go_at_call 55; exact Calls.quiet_of_same ((HAR.out _).mono fun _ _ h => h.imp id Eq.symm)))
        refine ‹∀ (a : Act) (w : World), _ → _› _ _ ?_
        refine abs_world (F := fun W => ArgR (w.heap.size + 1) nm (l ++ [U]) (.slice b5 (l.length + 1) d5) (xs ++ U.head (.slice x1 U.lit.its.length y1) (.slice x2 U.lit.ks.length y2) (.slice x3 U.args.length y3)) w W) (by exact H8.out.1.go ((Keeps.refl _ _).drewN _)) (fun W9 HW9 => ?_)
        have H9 := Lib.hid HW9
        clear HW9
        go_wp2_with fail
        go_roundw
        case rel => exact ⟨e4, _, _, _, by go_num, by omega, hmq.2, hlen2, Lib.hid ⟨HPR.out, H9.out⟩⟩
        case measure => simp [intOf]; omega
end
end Go.Proofs.YtdlkdecigpaaaaaGreatDoor
namespace Go.Proofs.YtdlkdecigpaaaaaGreatDoor
set_option linter.unusedVariables false
set_option linter.unusedSimpArgs false
open Go.RowKit

/-- Block b bears a tree; its parts so far are a row of the call's own. -/
structure ArgL (t : TypeId) (b : Nat) (T : XT) (a1 a2 : Option Addr) (c1 c2 : Nat) (j : Nat) (va : Value) (xs : List Value) (w W : World) : Prop where
  blk : W.heap[b]? = some (.cells (T.nine (.slice a1 T.lit.its.length c1) (.slice a2 T.lit.ks.length c2) va) t (0, 0))
  own : W.ownsRow (b + 1) t 9 va j xs
  rows : Rows (XT.Nine W (fun k => w.heap.size + 1 < k ∧ k ≠ b ∧ some k ≠ va.ownBlock)) (T.args.take j) xs
  keeps : Keeps [] w W
  box : W.heap[w.heap.size + 1]? = some (.cells zero9 t (0, 0))
  lit : ∀ W' S', T.lit.Rep W' S' (.slice a1 T.lit.its.length c1) (.slice a2 T.lit.ks.length c2)
section
variable {t : TypeId} {b : Nat} {T : XT} {a1 a2 : Option Addr} {c1 c2 : Nat} {j : Nat} {va : Value} {xs : List Value} {w W W' : World}
theorem ArgL.go (h : ArgL t b T a1 a2 c1 c2 j va xs w W) (k : Keeps [] W W') : ArgL t b T a1 a2 c1 c2 j va xs w W' :=
  ⟨k.same h.blk, own_keeps0 h.own k, nine_go (kc_keeps k fun k hk => by simp) (fun _ _ _ _ h _ => h) h.rows, h.keeps.trans k, k.same h.box, h.lit⟩
/-- One part more: it was laid in a block of its own, and appended; the box then bears the new row. -/
theorem ArgL.app {W5 w6 : World} {ui uk ua va' : Value} (hj : j < T.args.length) (h : ArgL t b T a1 a2 c1 c2 j va xs w W) (hb : w.heap.size + 1 < b) (k5 : Keeps [] W W5) (hu : T.args[j].Rep W5 (W.heap.size ≤ ·) ui uk ua)
    (ho : w6.ownsRow (b + 1) t 9 va' (j + 1) (xs ++ T.args[j].head ui uk ua)) (hv : va'.ownBlock = va.ownBlock ∨ va'.ownBlock = some (W5.alloc (.cells (T.args[j].nine ui uk ua) t)).heap.size) (hgr : (W5.alloc (.cells (T.args[j].nine ui uk ua) t)).grownBy w6 va.ownBlock) :
    ArgL t b T a1 a2 c1 c2 (j + 1) va' (xs ++ T.args[j].head ui uk ua) w (w6.setCell ⟨b, 8, none⟩ va') ∧ w6.heap[b]? = some (.cells (T.nine (.slice a1 T.lit.its.length c1) (.slice a2 T.lit.ks.length c2) va) t (0, 0)) := by
  have h5 := h.go k5
  have htk : T.args.take (j + 1) = T.args.take j ++ [T.args[j]] := List.take_succ_eq_append_getElem hj
  have ka : Keeps [] W5 (W5.alloc (.cells (T.args[j].nine ui uk ua) t)) := (Keeps.refl _ _).alloc _
  have hrow : ∀ k, va.ownBlock = some k → b + 1 ≤ k := fun k hk => by
    rcases h5.own.2 with ⟨rfl, _⟩ | ⟨q, cap, cur, rfl, q2, _⟩
    · simp [Value.ownBlock] at hk
    · simp [Value.ownBlock] at hk; omega
  have hown5 : ∀ q, va.ownBlock = some q → q < W.heap.size := fun q hq => (h.own.lt q hq).2
  have hg6 : ∀ k o, k ≤ b → (W5.alloc (.cells (T.args[j].nine ui uk ua) t)).heap[k]? = some o → w6.heap[k]? = some o := fun k o hk ho => hk_grow ho hgr (fun e => by have := hrow k e.symm; omega)
  have hblk6 := hg6 b _ (Nat.le_refl _) (ka.same h5.blk)
  have hbl := hk_lt h.blk
  have hbx := hk_lt h5.box
  have hz5 := k5.size
  have hz := h5.keeps.size
  have kc6 : Kc (fun k => w.heap.size + 1 < k ∧ k ≠ b ∧ some k ≠ va.ownBlock) W5 (w6.setCell ⟨b, 8, none⟩ va') := ((kc_alloc (.cells (T.args[j].nine ui uk ua) t)).trans (kc_grown hgr fun q hq hS => hS.2.2 hq.symm)).trans (kc_set (fun h => h.2.1 rfl) _)
  have hnew : ∀ k, w.heap.size + 1 < k ∧ k ≠ b ∧ some k ≠ va.ownBlock → k < W5.heap.size → w.heap.size + 1 < k ∧ k ≠ b ∧ some k ≠ va'.ownBlock := fun k hk hl => ⟨hk.1, hk.2.1, fun e => by
    rcases hv with hv | hv
    · rw [hv] at e; exact hk.2.2 e
    · rw [hv, World.size_alloc] at e; have := Option.some.inj e; omega⟩
  refine ⟨⟨set_to hblk6 8 va' rfl, ?_, ?_, ?_, ?_, h.lit⟩, hblk6⟩
  · exact own_keeps9 ho ((Keeps.refl [b] w6).set (.inl (by simp)) va') (Nat.lt_succ_self b)
  · rw [htk]
    refine Rows.snoc ?_ ⟨ui, uk, ua, rfl, ?_⟩
    · exact nine_go (kc6.mono fun k hk => hk.1) (fun k _ _ _ hk _ => hnew k hk.1 hk.2) (nine_go (S' := fun k => (w.heap.size + 1 < k ∧ k ≠ b ∧ some k ≠ va.ownBlock) ∧ k < W5.heap.size) (Kc.refl _ _) (fun k _ _ _ hk hx => ⟨hk, hk_lt hx⟩) h5.rows)
    · refine XT.Rep.go (S := fun k => (w.heap.size + 1 < k ∧ k ≠ b ∧ some k ≠ va.ownBlock) ∧ k < W5.heap.size) (kc6.mono fun k hk => hk.1) (fun k _ _ _ hk _ => hnew k hk.1 hk.2) ?_
      exact hu.into fun k _ _ _ hk hx => ⟨⟨by omega, by omega, fun e => by have := hown5 k e.symm; omega⟩, hk_lt hx⟩
  · exact (keeps_grown (h5.keeps.alloc _) hgr (fun q hq => by have := hrow q hq; omega)).set (.inr (by dsimp only; omega)) _
  · rw [Below.heap_setCell w6 ⟨b, 8, none⟩ va' _ (by dsimp only; omega)]
    exact hg6 _ _ (by omega) (ka.same h5.box)
theorem ArgL.rep1 (h : ArgL t b T a1 a2 c1 c2 T.args.length va xs w W) (hb : w.heap.size + 1 < b) : T.Rep W (w.heap.size + 1 < ·) (.slice a1 T.lit.its.length c1) (.slice a2 T.lit.ks.length c2) va := by
  have h2 := h.rows
  have h3 := h.own
  rw [List.take_length] at h2
  exact xrep_iff.2 ⟨h.lit _ _, xs, (Sl.of_own h3).mono fun k hk => by omega, nine_go (Kc.refl _ _) (fun _ _ _ _ h _ => h.1) h2⟩
theorem argl_new (hb : b = W.heap.size) (hk : Keeps [] w W) (hbox : W.heap[w.heap.size + 1]? = some (.cells zero9 t (0, 0))) (hl : ∀ W' S', T.lit.Rep W' S' (.slice a1 T.lit.its.length c1) (.slice a2 T.lit.ks.length c2)) :
    ArgL t b T a1 a2 c1 c2 0 (.slice none 0 0) [] w (W.alloc (.cells (T.nine (.slice a1 T.lit.its.length c1) (.slice a2 T.lit.ks.length c2) (.slice none 0 0)) t)) := by
  subst hb
  exact ⟨new_blk _ _, World.ownsRow_nil _ _ _ _, rfl, hk.alloc _, hk_alloc hbox _, hl⟩
theorem argl_set {cs : Array Value} (hbl : W.heap[b]? = some (.cells cs t (0, 0))) (hcs : cs.size = 9) (hbw : w.heap.size + 1 < b) (hk : Keeps [] w W) (hbox : W.heap[w.heap.size + 1]? = some (.cells zero9 t (0, 0))) (hl : ∀ W' S', T.lit.Rep W' S' (.slice a1 T.lit.its.length c1) (.slice a2 T.lit.ks.length c2)) :
    ArgL t b T a1 a2 c1 c2 0 (.slice none 0 0) [] w (sets9 W b (.string T.op) (.string T.nm) (.int .i64 T.lit.k) (.bool T.lit.b) (.int .i64 T.lit.n) (.string T.lit.s) (.slice a1 T.lit.its.length c1) (.slice a2 T.lit.ks.length c2) (.slice none 0 0)) := by
  have k9 := keeps_sets9 W b (.string T.op) (.string T.nm) (.int .i64 T.lit.k) (.bool T.lit.b) (.int .i64 T.lit.n) (.string T.lit.s) (.slice a1 T.lit.its.length c1) (.slice a2 T.lit.ks.length c2) (.slice none 0 0)
  obtain ⟨L⟩ := cs
  obtain ⟨x0, x1, x2, x3, x4, x5, x6, x7, x8, rfl⟩ : ∃ x0 x1 x2 x3 x4 x5 x6 x7 x8, L = [x0, x1, x2, x3, x4, x5, x6, x7, x8] := by
    simp only [List.size_toArray] at hcs
    match L, hcs with
    | [_, _, _, _, _, _, _, _, _], _ => exact ⟨_, _, _, _, _, _, _, _, _, rfl⟩
  exact ⟨blk_sets9 hbl _ _ _ _ _ _ _ _ _, World.ownsRow_nil _ _ _ _, rfl, hk.step k9 (fun k h1 h2 => by simp at h1; omega), k9.heap hbox (by simp; omega), hl⟩
theorem ArgL.fin (h : ArgL t b T a1 a2 c1 c2 T.args.length va xs w W) (hb : w.heap.size + 1 < b) :
    (sets9 W (w.heap.size + 1) (.string T.op) (.string T.nm) (.int .i64 T.lit.k) (.bool T.lit.b) (.int .i64 T.lit.n) (.string T.lit.s) (.slice a1 T.lit.its.length c1) (.slice a2 T.lit.ks.length c2) va).heap[w.heap.size + 1]? = some (.cells (T.nine (.slice a1 T.lit.its.length c1) (.slice a2 T.lit.ks.length c2) va) t (0, 0)) ∧
    T.Rep (sets9 W (w.heap.size + 1) (.string T.op) (.string T.nm) (.int .i64 T.lit.k) (.bool T.lit.b) (.int .i64 T.lit.n) (.string T.lit.s) (.slice a1 T.lit.its.length c1) (.slice a2 T.lit.ks.length c2) va) (w.heap.size ≤ ·) (.slice a1 T.lit.its.length c1) (.slice a2 T.lit.ks.length c2) va ∧
    Keeps [] w (sets9 W (w.heap.size + 1) (.string T.op) (.string T.nm) (.int .i64 T.lit.k) (.bool T.lit.b) (.int .i64 T.lit.n) (.string T.lit.s) (.slice a1 T.lit.its.length c1) (.slice a2 T.lit.ks.length c2) va) := by
  have k9 := keeps_sets9 W (w.heap.size + 1) (.string T.op) (.string T.nm) (.int .i64 T.lit.k) (.bool T.lit.b) (.int .i64 T.lit.n) (.string T.lit.s) (.slice a1 T.lit.its.length c1) (.slice a2 T.lit.ks.length c2) va
  have hr := h.rep1 hb
  exact ⟨blk_sets9 h.box _ _ _ _ _ _ _ _ _, (hr.keep (kc_keeps k9 fun k hk => by simp; omega)).mono (fun k hk => by omega), h.keeps.step k9 (fun k h1 h2 => by simp at h1; omega)⟩
end
/-- A literal's rows are empty: they are so in whatever world. -/
theorem lit_all {v : VT} {w : World} {S : Nat → Prop} {a1 a2 : Option Addr} {c1 c2 : Nat} (h : v.Rep w S (.slice a1 v.its.length c1) (.slice a2 v.ks.length c2)) (h1 : v.its = []) (h2 : v.ks = []) : ∀ W' S', v.Rep W' S' (.slice a1 v.its.length c1) (.slice a2 v.ks.length c2) := by
  intro W' S'
  obtain ⟨⟨cs, hs, hr⟩, hk⟩ := rep_iff.1 h
  rw [h1] at hs
  rw [h2] at hk
  obtain ⟨_, _, hv, _, hn⟩ := hs.shape
  obtain ⟨_, _, hv2, _, hn2⟩ := hk.shape
  cases hv
  cases hv2
  refine rep_iff.2 ⟨⟨[], ?_, by rw [h1]; rfl⟩, ?_⟩
  · rw [h1]; exact ⟨by simp, _, _, rfl, Nat.zero_le _, hn, fun h => absurd h (Nat.lt_irrefl _)⟩
  · rw [h2]; exact ⟨by simp, _, _, rfl, Nat.zero_le _, hn2, fun h => absurd h (Nat.lt_irrefl _)⟩
theorem lit_ok {v : VT} (h : litOk v) : v.ok := by
  obtain ⟨h1, h2⟩ := h.its
  obtain ⟨k, b, n, s, its, ks⟩ := v
  simp only [VT.its, VT.ks] at h1 h2
  subst h1
  subst h2
  refine ⟨?_, VT.keyed_iff.2 ⟨⟨by simp [VT.ks, VT.its], by simp [VT.ks]⟩, by simp [VT.its]⟩⟩
  rw [VT.size_its]; simp [VT.its, VT.sizes]
theorem leaf_all {o nm : ByteArray} {k : Int} {b : Bool} {n : Int} {s : ByteArray} {l : List XT} (a1 a2 : Option Addr) (c1 c2 : Nat) (h1 : a1 = none → c1 = 0) (h2 : a2 = none → c2 = 0) : ∀ (W' : World) (S' : Nat → Prop), (XT.mk o nm (VT.mk k b n s [] []) l).lit.Rep W' S' (.slice a1 (XT.mk o nm (VT.mk k b n s [] []) l).lit.its.length c1) (.slice a2 (XT.mk o nm (VT.mk k b n s [] []) l).lit.ks.length c2) := fun W' S' =>
  rep_iff.2 ⟨⟨[], ⟨by simp [XT.lit, VT.its], _, _, rfl, Nat.zero_le _, h1, fun h => absurd h (Nat.lt_irrefl _)⟩, rfl⟩, ⟨by simp [XT.lit, VT.ks], _, _, rfl, Nat.zero_le _, h2, fun h => absurd h (Nat.lt_irrefl _)⟩⟩
theorem one_held {g : Nat} {W W' : World} (h1 : g < W.heap.size) (h : Keeps [] W W') : ∀ o, W'.cell? ⟨g, o, none⟩ = W.cell? ⟨g, o, none⟩ :=
  fun o => by simp only [World.cell?, h.block g h1 (by simp)]
theorem good_lit {T : XT} (h : XGood T) : T.lit.ok ∧ T.lit.its = [] ∧ T.lit.ks = [] := by
  rcases h.litE with e | ⟨v, hv, rfl⟩
  · rw [e]; exact ⟨lit_ok (.inl rfl), rfl, rfl⟩
  · exact ⟨lit_ok hv, hv.its⟩
end Go.Proofs.YtdlkdecigpaaaaaGreatDoor
namespace Go.Proofs.YtdlkdecigpaaaaaGreatDoor
set_option linter.unusedVariables false
set_option linter.unusedSimpArgs false
open Go.RowKit

theorem VarR.at {b : Nat} {U : XT} {vi vk va : Value} {p : Int} {w W : World} (e : Int) (h : VarR (.ok U p) b U vi vk va p 0 w W) (hb : w.heap.size < b) : VarR (.ok U e) b U vi vk va e 0 w (W.setCell ⟨b, 9, none⟩ (.int .i64 e)) := by
  have k : Keeps [b] W (W.setCell ⟨b, 9, none⟩ (.int .i64 e)) := (Keeps.refl _ _).set (.inl (by simp)) _
  exact ⟨set_to h.blk 9 _ rfl, h.rep.keep (kc_keeps k fun x hx => by simp; exact hx.2), h.keeps.step k (fun x h1 h2 => by simp at h1; omega), k.heap h.box (by simp; omega), rfl, rfl, rfl⟩
section
variable (s : ByteArray) (i : Int) (w : World) (r r3 : Res)
set_option maxRecDepth 20000 in
set_option maxHeartbeats 4000000 in
theorem rone_in (h0 : 0 ≤ i) (h1 : i ≤ s.size) (hs : s.size ≤ 4000) (hm : 0 ≤ markAt s i ⟨#[40]⟩) (hr3 : Par s (.lev 0) (markAt s i ⟨#[40]⟩) r3) (he : ∀ p c, r3 = .err p c → r = .err p c ∧ c ≠ 0)
    (ho : ∀ U p, r3 = .ok U p → (markAt s p ⟨#[41]⟩ < 0 ∧ r = .err (blanks s p) 1) ∨ (0 ≤ markAt s p ⟨#[41]⟩ ∧ r = .ok U (markAt s p ⟨#[41]⟩)))
    (HO : ∀ W, Calls Tryz.prog 40 #[.string s, .int .i64 (markAt s i ⟨#[40]⟩), .int .i64 0] W (RSays r3 W)) :
    Calls Tryz.prog 88 #[.string s, .int .i64 i] w (RSays r w) := by
  have hB := Lib.hid (boxr_new w)
  have HBL := Lib.hid (fun W => blanks_any s i W h0 (by omega))
  have hq0 := blanks_ge s i
  have hbt := bt_at s (blanks s i)
  have hbr := bt_range s (blanks s i)
  have HDG := Lib.hid (fun W => digit8_any s (blanks s i) W (by omega))
  have hmb := mark_byte h0 hm
  obtain ⟨hl, hb40⟩ : blanks s i < s.size ∧ bt s (blanks s i) = 40 := by simp only [isAt, Bool.and_eq_true, decide_eq_true_eq, beq_iff_eq] at hmb; exact hmb
  have hdg : digitAt s (blanks s i) = false := by simp [digitAt, digitB, hb40]
  have hb34 : (bt s (blanks s i) == 34) = false := by rw [hb40]; rfl
  rw [hdg] at HDG
  have hmp := mark_pos hm (by decide)
  have HMK := Lib.hid (fun W => rmark_any s ⟨#[40]⟩ i W h0 h1 (by omega) (by decide))
  have HMT := Lib.hid (fun (t : ByteArray) (p : Int) (W : World) (hp0 : 0 ≤ p) (hp : p ≤ s.size) (ht : t.size ≤ 1000) => rmark_any s t p W hp0 hp (by omega) ht)
  have HX := Lib.hid HO
  have HE3 := Lib.hid he
  have HO3 := Lib.hid ho
  have HR3 := Lib.hid hr3
  clear HO he ho hmb hb40 hdg hr3
  generalize markAt s i ⟨#[40]⟩ = e at *
  generalize blanks s i = q at *
  go_enter Tryz.func88, Tryz.ntmps88
  go_wp2_with (first
    | (go_at_call 30; (with_reducible refine (HBL.out _).mono ?_); rintro e w' ⟨rfl, rfl⟩)
    | (go_at_call 103; (with_reducible refine (HDG.out _).mono ?_); rintro e w' ⟨rfl, rfl⟩)
    | (go_at_call 66; (with_reducible refine (HMK.out _).mono ?_); rintro e w' ⟨rfl, rfl⟩))
  refine (HX.out _).mono ?_
  rintro e5 w5 hx
  obtain ⟨U, ui, uk, ua, p2, c2, rfl, hrep, hk5, ha⟩ := rsays_at hx
  obtain ⟨x1, y1, x2, y2, x3, y3, rfl, rfl, rfl⟩ := xrep_shape hrep
  have HV := Lib.hid (hB.out.var hrep hk5 ha)
  have hw5 : w.heap.size < w5.heap.size := Nat.lt_of_lt_of_le (hk_lt hB.out.box) hk5.size
  clear hx hrep hk5 ha hbt hbr
  go_upto_region 12 with fail
  refine abs_world (F := fun W => VarR r3 w5.heap.size U (.slice x1 U.lit.its.length y1) (.slice x2 U.lit.ks.length y2) (.slice x3 U.args.length y3) p2 c2 w W) HV.out (fun W6 HW6 => ?_)
  have H6 := Lib.hid HW6
  clear HW6 HV
  have gy := cell_blk H6.out.blk
  have gyf := frozen_blk H6.out.blk
  have gb6 := cell_blk H6.out.box
  have gbf6 := frozen_blk H6.out.box
  cases r3 with
  | err p' c' =>
    have hat : U = XT.zero ∧ p2 = p' ∧ c2 = c' := H6.out.at_
    obtain ⟨hU, rfl, rfl⟩ := hat
    obtain ⟨hre, hc'⟩ := HE3.out p2 c2 rfl
    have e1 : (c2 == 0) = false := by rw [beq_eq_false_iff_ne]; exact hc'
    have HE := Lib.hid H6.out.ret
    subst hre
    clear hc' hU
    go_wp2_with fail
    refine abs_post (F := fun W => ToldR (.err p2 c2) w.heap.size (U) (.slice x1 U.lit.its.length y1) (.slice x2 U.lit.ks.length y2) (.slice x3 U.args.length y3) (p2) (c2) w W) (HE.out) (fun W hW => ?_)
    have cr := cell_blk hW.blk
    exact bodyPost_ret (v := .agg ((U : XT).elf (.slice x1 U.lit.its.length y1) (.slice x2 U.lit.ks.length y2) (.slice x3 U.args.length y3) (p2) (c2))) (by simp [results, Tryz.results88, go_sem, cr]) rfl (at_rsays rfl hW)
  | ok U' p' =>
    have hat : U = U' ∧ p2 = p' ∧ c2 = 0 := H6.out.at_
    obtain ⟨rfl, rfl, rfl⟩ := hat
    have hpq := par_pos HR3.out (by omega) hmp.2
    have hp1 : e < p2 := hpq.2
    have hp2 : p2 ≤ s.size := hpq.1.2
    clear hpq
    have HM3 := Lib.hid (fun W => HMT.out ⟨#[41]⟩ p2 W (by omega) hp2 (by decide))
    rcases HO3.out U p2 rfl with ⟨hno, hre⟩ | ⟨hyes, hre⟩
    · have HXW := Lib.hid (fun W => rwrong_any (blanks s p2) 1 W)
      have HBL2 := Lib.hid (fun W => blanks_any s p2 W (by omega) (by omega))
      subst hre
      generalize markAt s p2 ⟨#[41]⟩ = e3 at *
      generalize blanks s p2 = q2 at *
      go_wp2_with (first
        | (go_at_call 66; (with_reducible refine (HM3.out _).mono ?_); rintro e' w' ⟨rfl, rfl⟩)
        | (go_at_call 30; (with_reducible refine (HBL2.out _).mono ?_); rintro e' w' ⟨rfl, rfl⟩))
      refine (HXW.out _).mono ?_
      rintro e7 w7 hx
      obtain ⟨V, ui, uk, ua, p3, c3, rfl, hrep, hk7, ha⟩ := rsays_at hx
      obtain ⟨z1, t1, z2, t2, z3, t3, rfl, rfl, rfl⟩ := xrep_shape hrep
      have HT := Lib.hid (H6.out.boxr.told hrep hk7 ha)
      have HB3 := Lib.hid (H6.out.boxr.go hk7)
      have gb := cell_blk HB3.out.box
      have gf := frozen_blk HB3.out.box
      clear hx hrep hk7 ha gy gb6 gbf6
      go_wp2_with fail
      refine abs_post (F := fun W => ToldR (.err q2 1) w.heap.size (V) (.slice z1 V.lit.its.length t1) (.slice z2 V.lit.ks.length t2) (.slice z3 V.args.length t3) (p3) (c3) w W) (HT.out) (fun W hW => ?_)
      have cr := cell_blk hW.blk
      exact bodyPost_ret (v := .agg ((V : XT).elf (.slice z1 V.lit.its.length t1) (.slice z2 V.lit.ks.length t2) (.slice z3 V.args.length t3) (p3) (c3))) (by simp [results, Tryz.results88, go_sem, cr]) rfl (at_rsays rfl hW)
    · subst hre
      generalize markAt s p2 ⟨#[41]⟩ = e3 at *
      have HA := Lib.hid (H6.out.at e3 hw5)
      go_upto_region 16 with (go_at_call 66; (with_reducible refine (HM3.out _).mono ?_); rintro e' w' ⟨rfl, rfl⟩)
      refine abs_world (F := fun W => VarR (.ok U e3) w5.heap.size U (.slice x1 U.lit.its.length y1) (.slice x2 U.lit.ks.length y2) (.slice x3 U.args.length y3) e3 0 w W) HA.out (fun W7 HW7 => ?_)
      have H7 := Lib.hid HW7
      clear HW7 HA gy gyf gb6 gbf6
      have gy := cell_blk H7.out.blk
      have gb6 := cell_blk H7.out.box
      have gbf6 := frozen_blk H7.out.box
      have HE := Lib.hid H7.out.ret
      go_wp2_with fail
      refine abs_post (F := fun W => ToldR (.ok U e3) w.heap.size (U) (.slice x1 U.lit.its.length y1) (.slice x2 U.lit.ks.length y2) (.slice x3 U.args.length y3) (e3) (0) w W) (HE.out) (fun W hW => ?_)
      have cr := cell_blk hW.blk
      exact bodyPost_ret (v := .agg ((U : XT).elf (.slice x1 U.lit.its.length y1) (.slice x2 U.lit.ks.length y2) (.slice x3 U.args.length y3) (e3) (0))) (by simp [results, Tryz.results88, go_sem, cr]) rfl (at_rsays rfl hW)
end
end Go.Proofs.YtdlkdecigpaaaaaGreatDoor
namespace Go.Proofs.YtdlkdecigpaaaaaGreatDoor
set_option linter.unusedVariables false
set_option linter.unusedSimpArgs false
open Go.RowKit

/-- The call that reads what is looked for. -/
def RC (s : ByteArray) : G → Int → Res → World → Prop
  | .lev n, i, r, W => Calls Tryz.prog 40 #[.string s, .int .i64 i, .int .i64 (n : Int)] W (RSays r W)
  | .part, i, r, W => Calls Tryz.prog 67 #[.string s, .int .i64 i] W (RSays r W)
  | .one, i, r, W => Calls Tryz.prog 88 #[.string s, .int .i64 i] W (RSays r W)
  | _, _, _, _ => True
theorem up_code {s : ByteArray} {g : G} {i : Int} {r : Res} (h : Par s g i r) : ∀ p c, r = .err p c → c ≠ 0 := fun p c e => by subst e; exact par_code h
theorem resB_res {w : ByteArray} (h : memL w resL = true) : resB w = true := by unfold resB; rw [h]; rfl
theorem resB_no {w : ByteArray} (h : memL w resL = false) (ha : argsN w = 0) : resB w = false := by unfold resB; rw [h, ha]; rfl
theorem one_words (s : ByteArray) (i : Int) (W : World) (h0 : 0 ≤ i) (h1 : i ≤ s.size) (hs : s.size ≤ 4000) (hd : digitAt s (blanks s i) = false) (hq : isAt s (blanks s i) 34 = false) (hm : markAt s i ⟨#[40]⟩ < 0) (ha : argsN (wordAt s i) = 0) :
    Calls Tryz.prog 88 #[.string s, .int .i64 i] W (RSays (wordR s i) W) := by
  by_cases hw : wordAt s i = eS
  · rw [wordR_err (.inl hw)]
    exact rone_bad s i W h0 h1 hs hd hq hm ⟨by rw [hw]; decide, by rw [hw]; decide, by rw [hw]; decide, by rw [hw]; decide⟩ ha (.inl hw)
  · cases hb : memL (wordAt s i) resL with
    | false =>
      have hz := res_ne hb
      rw [wordR_var hw hb]
      exact rone_var s i W h0 h1 hs hd hq hm ⟨hz.2.2.2.1, hz.2.2.2.2.1, hz.2.2.2.2.2.1, hz.2.2.2.2.2.2⟩ ha hw (resB_no hb ha)
    | true =>
      have bad : (wordAt s i = orS ∨ wordAt s i = andS ∨ wordAt s i = notS) → Calls Tryz.prog 88 #[.string s, .int .i64 i] W (RSays (wordR s i) W) := fun h => by
        rw [wordR_err (.inr h)]
        exact rone_bad s i W h0 h1 hs hd hq hm (by rcases h with h | h | h <;> rw [h] <;> decide) ha (.inr ⟨hw, resB_res hb⟩)
      rcases mem_res hb with h | h | h | h | h | h | h
      · exact bad (.inl h)
      · exact bad (.inr (.inl h))
      · exact bad (.inr (.inr h))
      · have e : wordR s i = .ok (litT (boolV true)) (wordAtEnd s i) := by unfold wordR; rw [h]; rfl
        rw [e]; exact rone_true s i W h0 h1 hs hd hq hm h
      · have e : wordR s i = .ok (litT (boolV false)) (wordAtEnd s i) := by unfold wordR; rw [h]; rfl
        rw [e]; exact rone_false s i W h0 h1 hs hd hq hm h
      · have e : wordR s i = .ok (litT VT.zero) (wordAtEnd s i) := by unfold wordR; rw [h]; rfl
        rw [e]; exact rone_null s i W h0 h1 hs hd hq hm h
      · have e : wordR s i = .ok (.mk thisS eS VT.zero []) (wordAtEnd s i) := by unfold wordR; rw [h]; rfl
        rw [e]; exact rone_this s i W h0 h1 hs hd hq hm h
theorem one_calls (s : ByteArray) (i : Int) (W : World) (r : Res) (h0 : 0 ≤ i) (h1 : i ≤ s.size) (hs : s.size ≤ 4000) (ha : 0 < argsN (wordAt s i)) (HC : ∀ W, Calls Tryz.prog 122 #[.string s, .string (wordAt s i), .int .i64 (wordAtEnd s i)] W (RSays r W)) :
    Calls Tryz.prog 88 #[.string s, .int .i64 i] W (RSays r W) := by
  have hz := argsN_ne ha
  have hl := word_letter hz.1
  have hn := letter_not hl
  exact rone_call s i W h0 h1 hs hn.1 hn.2.1 (letter_mark h0 hl) ⟨hz.2.2.2.2.1, hz.2.2.2.2.2.1, hz.2.2.2.2.2.2.1, hz.2.2.2.2.2.2.2⟩ r ha HC
theorem rparse_all (s : ByteArray) (hs : s.size ≤ 4000) : ∀ (k : Nat) (G' : G) (i : Int) (r : Res) (W : World), meas s G' i ≤ k → goodG G' → 0 ≤ i → i ≤ s.size → Par s G' i r → RC s G' i r W := by
  intro k
  induction k using Nat.strongRecOn with
  | _ k ih =>
    intro G' i r W hk hG h0 h1 hr
    have step : ∀ (G2 : G) (i2 : Int) (r2 : Res) (W2 : World), meas s G2 i2 < meas s G' i → goodG G2 → 0 ≤ i2 → i2 ≤ s.size → Par s G2 i2 r2 → RC s G2 i2 r2 W2 := fun G2 i2 r2 W2 hm hg h2 h3 h4 => ih (meas s G2 i2) (by omega) G2 i2 r2 W2 (Nat.le_refl _) hg h2 h3 h4
    have far : ∀ (i2 : Int) (r2 : Res) (W2 : World), i < i2 → i2 ≤ s.size → Par s (.lev 0) i2 r2 → Calls Tryz.prog 40 #[.string s, .int .i64 i2, .int .i64 0] W2 (RSays r2 W2) := fun i2 r2 W2 hm h3 h4 => step (.lev 0) i2 r2 W2 (by unfold meas; simp only [rank]; cases G' <;> simp [rank] <;> omega) (by simp [goodG]) (by omega) h3 h4
    match G', hG with
    | .lev n, hG =>
      have hn6 : n ≤ 6 := hG
      by_cases n2 : n = 2
      · subst n2
        cases hr with
        | not_on hw hx =>
          have hp := word_pos h0 (by rw [hw]; decide)
          exact rlev2_on s i W _ h0 (by omega) hw (up_code hx) fun W2 => step (.lev 2) _ _ W2 (by unfold meas; simp only [rank]; omega) (by simp [goodG]) (by omega) hp.2 hx
        | not_no hw hx => exact rlev2_no s i W _ h0 (by omega) hw fun W2 => step (.lev 3) _ _ W2 (by unfold meas; simp only [rank]; omega) (by simp [goodG]) h0 h1 hx
        | lev_err hn => exact absurd hn (by unfold lv; omega)
        | lev_ok hn => exact absurd hn (by unfold lv; omega)
      · by_cases n6 : n = 6
        · subst n6
          cases hr with
          | neg_on hm hx =>
            have hp := mark_pos hm (by decide)
            exact rlev6_on s i W _ h0 h1 (by omega) hm (up_code hx) fun W2 => step (.lev 6) _ _ W2 (by unfold meas; simp only [rank]; omega) (by simp [goodG]) (by omega) hp.2 hx
          | neg_no hm hx => exact rlev6_no s i W _ h0 h1 (by omega) hm fun W2 => step .part _ _ W2 (by unfold meas; simp only [rank]; omega) trivial h0 h1 hx
          | lev_err hn => exact absurd hn (by unfold lv; omega)
          | lev_ok hn => exact absurd hn (by unfold lv; omega)
        · have hl : lv n := by unfold lv; omega
          refine rlev_of s i (n : Int) n W r hl rfl h0 h1 (by omega) hr fun i' r' W2 h2 h3 h4 => ?_
          have h5 := step (.lev (n + 1)) i' r' W2 (by unfold meas; simp only [rank]; omega) (by simp [goodG]; omega) (by omega) h3 h4
          have e : ((n + 1 : Nat) : Int) = (n : Int) + 1 := by omega
          simp only [RC, e] at h5
          exact h5
    | .part, _ => exact rpart_of s i W r h0 h1 hs hr (fun r' W2 h4 => step .one i r' W2 (by unfold meas; simp only [rank]; omega) trivial h0 h1 h4) far
    | .one, _ =>
      cases hr with
      | one_num hd => exact rone_num s i W h0 h1 hs hd fun W2 => rnumber_any s _ W2 (by have := blanks_ge s i; omega) hd hs
      | one_text hq =>
        by_cases hc : (strF s (blanks s i)).2.2 = 0
        · exact rone_text_ok s i W h0 h1 hs hq hc
        · exact rone_text_err s i W h0 h1 hs hq hc
      | one_err hm hx => have hp := mark_pos hm (by decide); exact rone_in s i W _ _ h0 h1 hs hm hx (fun p c e => (by cases e; exact ⟨rfl, par_code hx⟩)) (fun U p e => (by cases e)) fun W2 => far _ _ W2 hp.1 hp.2 hx
      | one_form hm hx hk => have hp := mark_pos hm (by decide); exact rone_in s i W _ _ h0 h1 hs hm hx (fun p c e => (by cases e)) (fun U p e => (by cases e; exact .inl ⟨hk, rfl⟩)) fun W2 => far _ _ W2 hp.1 hp.2 hx
      | one_in hm hx hk => have hp := mark_pos hm (by decide); exact rone_in s i W _ _ h0 h1 hs hm hx (fun p c e => (by cases e)) (fun U p e => (by cases e; exact .inr ⟨hk, rfl⟩)) fun W2 => far _ _ W2 hp.1 hp.2 hx
      | one_word hd hq hm ha => exact one_words s i W h0 h1 hs hd hq hm ha
      | one_open ha hm =>
        have hwp := word_pos h0 (argsN_ne ha).1
        exact one_calls s i W _ h0 h1 hs ha fun W2 => rcall_open s (wordAtEnd s i) W2 _ (by omega) hwp.2 hs hm
      | one_call ha hm hx =>
        have hwp := word_pos h0 (argsN_ne ha).1
        exact one_calls s i W _ h0 h1 hs ha fun W2 => rcall_of s (wordAtEnd s i) W2 _ _ ha (by omega) hwp.2 hs hm hx fun i' r' W3 h7 h8 h9 => far i' r' W3 (by omega) h8 h9
    | .more _ _, _ => trivial
    | .parts _, _ => trivial
    | .call _ _, _ => trivial
end Go.Proofs.YtdlkdecigpaaaaaGreatDoor
namespace Go.Proofs.YtdlkdecigpaaaaaGreatDoor
set_option linter.unusedVariables false
set_option linter.unusedSimpArgs false
open Go.RowKit

/-- The variable's block bears an answer; the result's block is as it was made. -/
structure PR (r : Res) (x : Nat) (T : XT) (vi vk va : Value) (p c : Int) (w W : World) : Prop where
  blk : W.heap[x]? = some (.cells (T.elf vi vk va p c) 81 (0, 0))
  rep : T.Rep W (w.heap.size < ·) vi vk va
  keeps : Keeps [] w W
  box : W.heap[w.heap.size]? = some (.cells zero9 30 (0, 0))
  at_ : RAt r T p c
def ZerE (w W : World) : Prop := W.heap[w.heap.size]? = some (.cells zero9 30 (0, 0)) ∧ Keeps [] w W
theorem ZerE.drew {w X : World} (h : ZerE w X) : ZerE w X.drew := ⟨h.1, h.2.drew⟩
def RetE (T : XT) (vi vk va : Value) (w W : World) : Prop := W.heap[w.heap.size]? = some (.cells (T.nine vi vk va) 30 (0, 0)) ∧ T.Rep W (w.heap.size ≤ ·) vi vk va ∧ Keeps [] w W
section
variable {r : Res} {x : Nat} {T : XT} {vi vk va : Value} {p c : Int} {w W W' : World}
theorem PR.go (h : PR r x T vi vk va p c w W) (k : Keeps [] W W') : PR r x T vi vk va p c w W' :=
  ⟨k.same h.blk, h.rep.keep (kc_keeps k fun _ _ => by simp), h.keeps.trans k, k.same h.box, h.at_⟩
theorem pr_new (hr : T.Rep W ((w.alloc (.cells zero9 30)).heap.size ≤ ·) vi vk va) (hk : Keeps [] (w.alloc (.cells zero9 30)) W) (ha : RAt r T p c) : PR r W.heap.size T vi vk va p c w (W.alloc (.cells (T.elf vi vk va p c) 81)) := by
  have ka : Keeps [] W (W.alloc (.cells (T.elf vi vk va p c) 81)) := (Keeps.refl _ _).alloc _
  exact ⟨new_blk _ _, (hr.mono (fun k hk => by rw [World.size_alloc] at hk; exact hk)).keep (kc_keeps ka fun _ _ => by simp), (((Keeps.refl _ _).alloc _).trans hk).trans ka, ka.same (hk.same (new_blk _ _)), ha⟩
theorem PR.zer (h : PR r x T vi vk va p c w W) : ZerE w (sets9 W w.heap.size (.string eS) (.string eS) (.int .i64 0) (.bool false) (.int .i64 0) (.string eS) (.slice none 0 0) (.slice none 0 0) (.slice none 0 0)) := by
  have k9 := keeps_sets9 W w.heap.size (.string eS) (.string eS) (.int .i64 0) (.bool false) (.int .i64 0) (.string eS) (.slice none 0 0) (.slice none 0 0) (.slice none 0 0)
  exact ⟨blk_sets9 h.box _ _ _ _ _ _ _ _ _, h.keeps.step k9 (fun k h1 h2 => by simp at h1; omega)⟩
theorem PR.ret (h : PR r x T vi vk va p c w W) : RetE T vi vk va w (sets9 W w.heap.size (.string T.op) (.string T.nm) (.int .i64 T.lit.k) (.bool T.lit.b) (.int .i64 T.lit.n) (.string T.lit.s) vi vk va) := by
  have k9 := keeps_sets9 W w.heap.size (.string T.op) (.string T.nm) (.int .i64 T.lit.k) (.bool T.lit.b) (.int .i64 T.lit.n) (.string T.lit.s) vi vk va
  exact ⟨blk_sets9 h.box _ _ _ _ _ _ _ _ _, (h.rep.keep (kc_keeps k9 fun k hk => by simp; omega)).mono (fun k hk => by omega), h.keeps.step k9 (fun k h1 h2 => by simp at h1; omega)⟩
end
section
variable (s : ByteArray) (w : World) (r : Res)
set_option maxRecDepth 20000 in
set_option maxHeartbeats 1000000 in
theorem rParse_long (hs : 2048 < s.size) (hs2 : s.size ≤ 140737488351232) : Calls Tryz.prog 15 #[.string s] w (Says3 (XT.zero, 0, 7) w) := by
  go_enter Tryz.func15, Tryz.ntmps15
  go_wp2_with fail
  exact bodyPost_ret (v := .tuple #[XT.zero.agg (.slice none 0 0) (.slice none 0 0) (.slice none 0 0), .int .i64 0, .int .i64 7]) (by simp [results, Tryz.results15, go_sem]; exact ⟨rfl, rfl, rfl, rfl, rfl, rfl⟩) rfl ⟨_, _, _, rfl, XT.zero_rep _ _, (Keeps.refl _ _).alloc _⟩
set_option maxRecDepth 20000 in
set_option maxHeartbeats 1500000 in
theorem rParse_any (hs : s.size ≤ 2048) (hr : Par s (.lev 0) 0 r) : Calls Tryz.prog 15 #[.string s] w (Says3 (parseR s r) w) := by
  have HP : Hid (∀ W, Calls Tryz.prog 40 #[.string s, .int .i64 0, .int .i64 0] W (RSays r W)) := Lib.hid (fun W => rparse_all s (by omega) _ (.lev 0) 0 r W (Nat.le_refl _) (by simp [goodG]) (Int.le_refl _) (by omega) hr)
  have HR := Lib.hid hr
  clear hr
  go_enter Tryz.func15, Tryz.ntmps15
  go_wp2_with fail
  refine (HP.out _).mono ?_
  rintro e1 w2 hx
  obtain ⟨T, vi, vk, va, p, c, rfl, hrep, hk1, ha⟩ := rsays_at hx
  obtain ⟨a1, c1, a2, c2, a3, c3, rfl, rfl, rfl⟩ := xrep_shape hrep
  have HX := Lib.hid (pr_new hrep hk1 ha)
  clear hx hrep hk1 ha HP
  go_upto_region 4 with fail
  refine abs_world (F := fun W => PR r w2.heap.size T (.slice a1 T.lit.its.length c1) (.slice a2 T.lit.ks.length c2) (.slice a3 T.args.length c3) p c w W) HX.out (fun W3 HW3 => ?_)
  have H3 := Lib.hid HW3
  clear HW3 HX
  have gx := cell_blk H3.out.blk
  have gb := cell_blk H3.out.box
  have gbf := frozen_blk H3.out.box
  have hl1 := hk_lt H3.out.box
  have hl2 := hk_lt H3.out.blk
  cases r with
  | err p' c' =>
    have hat : T = XT.zero ∧ p = p' ∧ c = c' := H3.out.at_
    obtain ⟨hT, rfl, rfl⟩ := hat
    have hc : c ≠ 0 := par_code HR.out
    have e1 : (c == 0) = false := by rw [beq_eq_false_iff_ne]; exact hc
    have HZD := Lib.hid H3.out.zer.drew
    clear hc hT
    go_upto_region 5 with fail
    go_region_law (fail)
    all_goals
      refine ‹∀ (a : Act) (w : World), _ → _› _ _ ?_
      go_wp2_with fail
      simp only [Act.put, List.getElem_toArray, List.getElem_cons_succ, List.getElem_cons_zero, List.setIfInBounds_toArray, List.set_cons_zero, List.set_cons_succ]
      refine abs_post (F := ZerE w) HZD.out (fun W hW => ?_)
      have cr := cell_blk hW.1
      exact bodyPost_ret (v := .tuple #[XT.zero.agg (.slice none 0 0) (.slice none 0 0) (.slice none 0 0), .int .i64 p, .int .i64 c]) (by simp [results, Tryz.results15, go_sem, cr]; exact ⟨rfl, rfl, rfl, rfl, rfl, rfl⟩) rfl ⟨_, _, _, rfl, XT.zero_rep _ _, hW.2⟩
  | ok U p' =>
    have hat : T = U ∧ p = p' ∧ c = 0 := H3.out.at_
    obtain ⟨rfl, rfl, rfl⟩ := hat
    have hp := par_pos HR.out (Int.le_refl _) (by omega)
    have hp1 : 0 ≤ p := hp.1.1
    have hp2 : p ≤ s.size := hp.1.2
    have HGD : Hid (XGood T) := Lib.hid (par_good HR.out (by simp [goodG]) (Int.le_refl _) (by omega))
    have hdp : (T.depth : Int) ≤ p - 0 := par_deep HR.out (Int.le_refl _) (by omega)
    have HBL := Lib.hid (fun W => blanks_any s p W hp1 (by omega))
    have HDE := Lib.hid (rdepth_any 1000000 T _ _ _ _ W3 (by omega) (Nat.le_refl _) HGD.out H3.out.rep)
    clear hp
    by_cases hq : blanks s p < s.size
    · have HRE : Hid (parseR s (.ok T p) = (XT.zero, blanks s p, 1)) := Lib.hid (by simp only [parseR]; rw [if_pos hq])
      have hd : decide (blanks s p < (s.size : Int)) = true := decide_eq_true hq
      have HZ := Lib.hid H3.out.zer
      generalize blanks s p = q at *
      generalize parseR s (.ok T p) = pr at *
      go_wp2_with (go_at_call 30; (with_reducible refine (HBL.out _).mono ?_); rintro e' w' ⟨rfl, rfl⟩)
      refine abs_post (F := ZerE w) HZ.out (fun W hW => ?_)
      have cr := cell_blk hW.1
      exact bodyPost_ret (v := .tuple #[XT.zero.agg (.slice none 0 0) (.slice none 0 0) (.slice none 0 0), .int .i64 q, .int .i64 1]) (by simp [results, Tryz.results15, go_sem, cr]; exact ⟨rfl, rfl, rfl, rfl, rfl, rfl⟩) rfl (by rw [HRE.out]; exact ⟨_, _, _, rfl, XT.zero_rep _ _, hW.2⟩)
    · have hd : decide (blanks s p < (s.size : Int)) = false := decide_eq_false hq
      by_cases h32 : 32 < T.depth
      · have HRE : Hid (parseR s (.ok T p) = (XT.zero, 0, 6)) := Lib.hid (by simp only [parseR]; rw [if_neg hq, if_pos h32])
        generalize blanks s p = q at *
        generalize parseR s (.ok T p) = pr at *
        go_wp2_with (first
          | (go_at_call 30; (with_reducible refine (HBL.out _).mono ?_); rintro e' w' ⟨rfl, rfl⟩)
          | (go_at_call 31; refine HDE.out.mono ?_; rintro e' w4 ⟨rfl, hk4⟩; have H4 := Lib.hid (H3.out.go hk4); clear hk4; have gb4 := cell_blk H4.out.box; have gbf4 := frozen_blk H4.out.box))
        have HZ := Lib.hid H4.out.zer
        refine abs_post (F := ZerE w) HZ.out (fun W hW => ?_)
        have cr := cell_blk hW.1
        exact bodyPost_ret (v := .tuple #[XT.zero.agg (.slice none 0 0) (.slice none 0 0) (.slice none 0 0), .int .i64 0, .int .i64 6]) (by simp [results, Tryz.results15, go_sem, cr]; exact ⟨rfl, rfl, rfl, rfl, rfl, rfl⟩) rfl (by rw [HRE.out]; exact ⟨_, _, _, rfl, XT.zero_rep _ _, hW.2⟩)
      · have HRE : Hid (parseR s (.ok T p) = (T, 0, 0)) := Lib.hid (by simp only [parseR]; rw [if_neg hq, if_neg h32])
        generalize blanks s p = q at *
        generalize parseR s (.ok T p) = pr at *
        go_wp2_with (first
          | (go_at_call 30; (with_reducible refine (HBL.out _).mono ?_); rintro e' w' ⟨rfl, rfl⟩)
          | (go_at_call 31; refine HDE.out.mono ?_; rintro e' w4 ⟨rfl, hk4⟩; have H4 := Lib.hid (H3.out.go hk4); clear hk4; have gb4 := cell_blk H4.out.box; have gbf4 := frozen_blk H4.out.box; have gx4 := cell_blk H4.out.blk))
        have HZ := Lib.hid H4.out.ret
        refine abs_post (F := RetE T (.slice a1 T.lit.its.length c1) (.slice a2 T.lit.ks.length c2) (.slice a3 T.args.length c3) w) HZ.out (fun W hW => ?_)
        have cr := cell_blk hW.1
        exact bodyPost_ret (v := .tuple #[T.agg (.slice a1 T.lit.its.length c1) (.slice a2 T.lit.ks.length c2) (.slice a3 T.args.length c3), .int .i64 0, .int .i64 0]) (by simp [results, Tryz.results15, go_sem, cr]) rfl (by rw [HRE.out]; exact ⟨_, _, _, rfl, hW.2.1, hW.2.2⟩)
end
end Go.Proofs.YtdlkdecigpaaaaaGreatDoor
