/- Put together: The document's parser: the levels; The document's parser: a level, part by part. -/
import Derived.Test.YtdlkdecigpaaaaaGreatDoorMg37
namespace Go.Proofs.YtdlkdecigpaaaaaGreatDoor
set_option linter.unusedVariables false
set_option linter.unusedSimpArgs false
open Go.RowKit

section
variable (s : ByteArray) (i : Int) (w : World) (r : Res)
set_option maxRecDepth 20000 in
set_option maxHeartbeats 2000000 in
theorem rlev2_on (h0 : 0 ≤ i) (hs : s.size ≤ 1000000) (hw : wordAt s i = notS) (he : ∀ p c, r = .err p c → c ≠ 0)
    (HN : ∀ W, Calls Tryz.prog 40 #[.string s, .int .i64 (wordAtEnd s i), .int .i64 2] W (RSays r W)) :
    Calls Tryz.prog 40 #[.string s, .int .i64 i, .int .i64 2] w (RSays (r.up notS) w) := by
  have HW := Lib.hid (fun w => word_any s i w h0 (by omega))
  have hq : ((wordAt s i).toList == [110, 111, 116]) = true := by have h := str_beq hw; rw [toList_data notS] at h; exact h
  have HX := Lib.hid HN
  have HE := Lib.hid he
  have hB := Lib.hid (boxr_new w)
  clear HN he hw
  generalize wordAt s i = x at *
  generalize wordAtEnd s i = y at *
  go_enter Tryz.func40, Tryz.ntmps40
  go_wp2_with (go_at_call 58; refine (HW.out _).mono ?_; rintro e w' ⟨rfl, rfl⟩)
  refine (HX.out _).mono ?_
  rintro e1 w2 hx
  obtain ⟨T, vi, vk, va, p, c, rfl, hrep, hk1, ha⟩ := rsays_at hx
  obtain ⟨a1, c1, a2, c2, a3, c3, rfl, rfl, rfl⟩ := xrep_shape hrep
  have HA := Lib.hid (rahead_any notS T a1 a2 a3 c1 c2 c3 p c w2 _ r hrep hk1.size ha HE.out)
  have HK1 := Lib.hid hk1
  clear hx hrep hk1 ha
  go_wp2_with fail
  refine HA.out.mono ?_
  rintro e2 w3 hx
  obtain ⟨U, ui, uk, ua, p', c', rfl, hrep, hk2, ha⟩ := asays_at hx
  obtain ⟨b1, d1, b2, d2, b3, d3, rfl, rfl, rfl⟩ := xrep_shape hrep
  have HT := Lib.hid (hB.out.told hrep (HK1.out.trans hk2) ha)
  have HB3 := Lib.hid (hB.out.go (HK1.out.trans hk2))
  have gb := cell_blk HB3.out.box
  have gf := frozen_blk HB3.out.box
  clear hx hrep hk2 ha HA
  go_wp2_with fail
  refine abs_post (F := fun W => ToldR (r.up notS) w.heap.size (U) (.slice b1 U.lit.its.length d1) (.slice b2 U.lit.ks.length d2) (.slice b3 U.args.length d3) (p') (c') w W) (HT.out) (fun W hW => ?_)
  have cr := cell_blk hW.blk
  exact bodyPost_ret (v := .agg ((U : XT).elf (.slice b1 U.lit.its.length d1) (.slice b2 U.lit.ks.length d2) (.slice b3 U.args.length d3) (p') (c'))) (by simp [results, Tryz.results40, go_sem, cr]) rfl (at_rsays rfl hW)
set_option maxRecDepth 20000 in
set_option maxHeartbeats 2000000 in
theorem rlev2_no (h0 : 0 ≤ i) (hs : s.size ≤ 1000000) (hw : wordAt s i ≠ notS)
    (HN : ∀ W, Calls Tryz.prog 40 #[.string s, .int .i64 i, .int .i64 3] W (RSays r W)) :
    Calls Tryz.prog 40 #[.string s, .int .i64 i, .int .i64 2] w (RSays r w) := by
  have HW := Lib.hid (fun w => word_any s i w h0 (by omega))
  have hq : ((wordAt s i).toList == [110, 111, 116]) = false := by have h := str_bne hw; rw [toList_data notS] at h; exact h
  have HX := Lib.hid HN
  have hB := Lib.hid (boxr_new w)
  clear HN hw
  generalize wordAt s i = x at *
  generalize wordAtEnd s i = y at *
  go_enter Tryz.func40, Tryz.ntmps40
  go_wp2_with (go_at_call 58; refine (HW.out _).mono ?_; rintro e w' ⟨rfl, rfl⟩)
  refine (HX.out _).mono ?_
  rintro e1 w2 hx
  obtain ⟨T, vi, vk, va, p, c, rfl, hrep, hk1, ha⟩ := rsays_at hx
  obtain ⟨a1, c1, a2, c2, a3, c3, rfl, rfl, rfl⟩ := xrep_shape hrep
  have HT := Lib.hid (hB.out.told hrep hk1 ha)
  have HB3 := Lib.hid (hB.out.go hk1)
  have gb := cell_blk HB3.out.box
  have gf := frozen_blk HB3.out.box
  clear hx hrep hk1 ha
  go_wp2_with fail
  refine abs_post (F := fun W => ToldR (r) w.heap.size (T) (.slice a1 T.lit.its.length c1) (.slice a2 T.lit.ks.length c2) (.slice a3 T.args.length c3) (p) (c) w W) (HT.out) (fun W hW => ?_)
  have cr := cell_blk hW.blk
  exact bodyPost_ret (v := .agg ((T : XT).elf (.slice a1 T.lit.its.length c1) (.slice a2 T.lit.ks.length c2) (.slice a3 T.args.length c3) (p) (c))) (by simp [results, Tryz.results40, go_sem, cr]) rfl (at_rsays rfl hW)
set_option maxRecDepth 20000 in
set_option maxHeartbeats 2000000 in
theorem rlev6_on (h0 : 0 ≤ i) (h1 : i ≤ s.size) (hs : s.size ≤ 1000000) (hm : 0 ≤ markAt s i ⟨#[45]⟩) (he : ∀ p c, r = .err p c → c ≠ 0)
    (HN : ∀ W, Calls Tryz.prog 40 #[.string s, .int .i64 (markAt s i ⟨#[45]⟩), .int .i64 6] W (RSays r W)) :
    Calls Tryz.prog 40 #[.string s, .int .i64 i, .int .i64 6] w (RSays (r.up negS) w) := by
  have HW := Lib.hid (fun w => rmark_any s ⟨#[45]⟩ i w h0 h1 hs (by decide))
  have HX := Lib.hid HN
  have HE := Lib.hid he
  have hB := Lib.hid (boxr_new w)
  clear HN he
  generalize markAt s i ⟨#[45]⟩ = y at *
  go_enter Tryz.func40, Tryz.ntmps40
  go_wp2_with (go_at_call 66; refine (HW.out _).mono ?_; rintro e w' ⟨rfl, rfl⟩)
  refine (HX.out _).mono ?_
  rintro e1 w2 hx
  obtain ⟨T, vi, vk, va, p, c, rfl, hrep, hk1, ha⟩ := rsays_at hx
  obtain ⟨a1, c1, a2, c2, a3, c3, rfl, rfl, rfl⟩ := xrep_shape hrep
  have HA := Lib.hid (rahead_any negS T a1 a2 a3 c1 c2 c3 p c w2 _ r hrep hk1.size ha HE.out)
  have HK1 := Lib.hid hk1
  clear hx hrep hk1 ha
  go_wp2_with fail
  refine HA.out.mono ?_
  rintro e2 w3 hx
  obtain ⟨U, ui, uk, ua, p', c', rfl, hrep, hk2, ha⟩ := asays_at hx
  obtain ⟨b1, d1, b2, d2, b3, d3, rfl, rfl, rfl⟩ := xrep_shape hrep
  have HT := Lib.hid (hB.out.told hrep (HK1.out.trans hk2) ha)
  have HB3 := Lib.hid (hB.out.go (HK1.out.trans hk2))
  have gb := cell_blk HB3.out.box
  have gf := frozen_blk HB3.out.box
  clear hx hrep hk2 ha HA
  go_wp2_with fail
  refine abs_post (F := fun W => ToldR (r.up negS) w.heap.size (U) (.slice b1 U.lit.its.length d1) (.slice b2 U.lit.ks.length d2) (.slice b3 U.args.length d3) (p') (c') w W) (HT.out) (fun W hW => ?_)
  have cr := cell_blk hW.blk
  exact bodyPost_ret (v := .agg ((U : XT).elf (.slice b1 U.lit.its.length d1) (.slice b2 U.lit.ks.length d2) (.slice b3 U.args.length d3) (p') (c'))) (by simp [results, Tryz.results40, go_sem, cr]) rfl (at_rsays rfl hW)
set_option maxRecDepth 20000 in
set_option maxHeartbeats 2000000 in
theorem rlev6_no (h0 : 0 ≤ i) (h1 : i ≤ s.size) (hs : s.size ≤ 1000000) (hm : markAt s i ⟨#[45]⟩ < 0)
    (HN : ∀ W, Calls Tryz.prog 67 #[.string s, .int .i64 i] W (RSays r W)) :
    Calls Tryz.prog 40 #[.string s, .int .i64 i, .int .i64 6] w (RSays r w) := by
  have HW := Lib.hid (fun w => rmark_any s ⟨#[45]⟩ i w h0 h1 hs (by decide))
  have HX := Lib.hid HN
  have hB := Lib.hid (boxr_new w)
  clear HN
  generalize markAt s i ⟨#[45]⟩ = y at *
  go_enter Tryz.func40, Tryz.ntmps40
  go_wp2_with (go_at_call 66; refine (HW.out _).mono ?_; rintro e w' ⟨rfl, rfl⟩)
  refine (HX.out _).mono ?_
  rintro e1 w2 hx
  obtain ⟨T, vi, vk, va, p, c, rfl, hrep, hk1, ha⟩ := rsays_at hx
  obtain ⟨a1, c1, a2, c2, a3, c3, rfl, rfl, rfl⟩ := xrep_shape hrep
  have HT := Lib.hid (hB.out.told hrep hk1 ha)
  have HB3 := Lib.hid (hB.out.go hk1)
  have gb := cell_blk HB3.out.box
  have gf := frozen_blk HB3.out.box
  clear hx hrep hk1 ha
  go_wp2_with fail
  refine abs_post (F := fun W => ToldR (r) w.heap.size (T) (.slice a1 T.lit.its.length c1) (.slice a2 T.lit.ks.length c2) (.slice a3 T.args.length c3) (p) (c) w W) (HT.out) (fun W hW => ?_)
  have cr := cell_blk hW.blk
  exact bodyPost_ret (v := .agg ((T : XT).elf (.slice a1 T.lit.its.length c1) (.slice a2 T.lit.ks.length c2) (.slice a3 T.args.length c3) (p) (c))) (by simp [results, Tryz.results40, go_sem, cr]) rfl (at_rsays rfl hW)
end
/-- A level's state: it is done with an error; or it goes on, with fewer bytes to come than that number. -/
def LvSt (s : ByteArray) (r : Res) (n : Nat) (i : Int) (k : Nat) (r1 : Res) : Prop := (∃ p c, r1 = .err p c ∧ r = .err p c ∧ c ≠ 0) ∨ ∃ T p, r1 = .ok T p ∧ Par s (.more n T) p r ∧ i < p ∧ p ≤ s.size ∧ s.size - p.toNat < k
section
variable {s : ByteArray} {i p : Int} {n : Nat} {r : Res} {T : XT}
theorem lv_first (hn : lv n) (h : Par s (.lev n) i r) (h0 : 0 ≤ i) (h1 : i ≤ s.size) : ∃ r1, Par s (.lev (n + 1)) i r1 ∧ LvSt s r n i (s.size + 1) r1 := by
  cases h with
  | lev_err _ h => exact ⟨_, h, .inl ⟨_, _, rfl, rfl, par_code h⟩⟩
  | lev_ok _ h k => have hp := par_pos h h0 h1; exact ⟨_, h, .inr ⟨_, _, rfl, k, hp.2, hp.1.2, by omega⟩⟩
  | not_on => exact absurd hn (by unfold lv; omega)
  | not_no => exact absurd hn (by unfold lv; omega)
  | neg_on => exact absurd hn (by unfold lv; omega)
  | neg_no => exact absurd hn (by unfold lv; omega)
theorem more_no (h : Par s (.more n T) p r) (hb : betw s p n = none) : r = .ok T p := by
  cases h with
  | more_end _ => rfl
  | more_err h _ => rw [hb] at h; cases h
  | more_one h _ => rw [hb] at h; cases h
  | more_on _ h _ _ => rw [hb] at h; cases h
theorem more_yes {op : ByteArray} {e : Int} (h : Par s (.more n T) p r) (hb : betw s p n = some (op, e)) : ∃ r2, Par s (.lev (n + 1)) e r2 ∧ (∀ p c, r2 = .err p c → r = .err p c ∧ c ≠ 0) ∧
    ∀ U p', r2 = .ok U p' → (n = 3 ∧ r = .ok (binT op T U) p') ∨ (n ≠ 3 ∧ Par s (.more n (binT op T U)) p' r) := by
  cases h with
  | more_end h => rw [hb] at h; cases h
  | more_err h k => rw [hb] at h; cases h; exact ⟨_, k, fun p c e => (by cases e; exact ⟨rfl, par_code k⟩), fun U p' e => (by cases e)⟩
  | more_one h k => rw [hb] at h; cases h; exact ⟨_, k, fun p c e => (by cases e), fun U p' e => (by cases e; exact .inl ⟨rfl, rfl⟩)⟩
  | more_on h3 h k l => rw [hb] at h; cases h; exact ⟨_, k, fun p c e => (by cases e), fun U p' e => (by cases e; exact .inr ⟨h3, l⟩)⟩
theorem betwV_none (hb : betw s i n = none) : betwV s i n = (eS, i) := by unfold betwV; rw [hb]
theorem betwV_some {x : ByteArray × Int} (hb : betw s i n = some x) : betwV s i n = x := by unfold betwV; rw [hb]
theorem betw_ne {op : ByteArray} {e : Int} (hn : lv n) (h0 : 0 ≤ i) (hb : betw s i n = some (op, e)) : op ≠ eS := by
  obtain ⟨q, hq, h1, _⟩ := betw_some hn h0 hb
  rw [← h1]
  have hm := (signs_size (List.getElem_mem hq)).1
  intro h2
  rw [h2] at hm
  exact absurd hm (by decide)
end
section
variable {r r2 : Res} {b y : Nat} {T U : XT} {vi vk va ui uk ua : Value} {p c p2 c2 : Int} {w W : World}
/-- Both, put together, laid into the variable. -/
theorem VarRY.bin (op : ByteArray) (h : VarRY r r2 b y T vi vk va p c U ui uk ua p2 c2 w W) (hb : w.heap.size < b) :
    VarR (.ok (binT op T U) p2) b (binT op T U) (.slice none 0 0) (.slice none 0 0) (.slice (some ⟨W.heap.size + 1, 0, none⟩) 2 2) p2 0 w
      (((sets11 W b (.string op) (.string eS) (.int .i64 0) (.bool false) (.int .i64 0) (.string eS) (.slice none 0 0) (.slice none 0 0) (.slice (some ⟨W.heap.size + 1, 0, none⟩) 2 2) (.int .i64 p2) (.int .i64 0)).alloc (.cells (T.nine vi vk va) 30)).alloc (.cells (T.nine vi vk va ++ U.nine ui uk ua) 30)) := by
  have hbl := hk_lt h.blk
  have hbx := hk_lt h.box
  rw [← sets11_alloc _ hbl, ← sets11_alloc _ (by rw [World.size_alloc]; omega)]
  have ka : Keeps [] W ((W.alloc (.cells (T.nine vi vk va) 30)).alloc (.cells (T.nine vi vk va ++ U.nine ui uk ua) 30)) := ((Keeps.refl _ _).alloc _).alloc _
  have hn := new_blk1 W (.cells (T.nine vi vk va) 30) (.cells (T.nine vi vk va ++ U.nine ui uk ua) 30)
  generalize (W.alloc (.cells (T.nine vi vk va) 30)).alloc (.cells (T.nine vi vk va ++ U.nine ui uk ua) 30) = W2 at *
  have hu := bin_rep op eS (S := fun k => w.heap.size < k ∧ k ≠ b) hn ⟨by omega, by omega⟩ (h.rep.keep (kc_keeps ka fun k _ => by simp)) ((h.rep2.mono (S' := fun k => w.heap.size < k ∧ k ≠ b) (fun k hk => ⟨hk.1, hk.2.1⟩)).keep (kc_keeps ka fun k _ => by simp))
  exact varr_set (ka.same h.blk) rfl hb (h.keeps.trans ka) (ka.same h.box) hu ⟨rfl, rfl, rfl⟩
end
end Go.Proofs.YtdlkdecigpaaaaaGreatDoor
namespace Go.Proofs.YtdlkdecigpaaaaaGreatDoor
set_option linter.unusedVariables false
set_option linter.unusedSimpArgs false
open Go.RowKit

section
variable (s : ByteArray) (i m : Int) (n : Nat) (w : World) (r : Res)
set_option maxRecDepth 20000 in
set_option maxHeartbeats 4000000 in
theorem rlev_of (hn : lv n) (hm : m = n) (h0 : 0 ≤ i) (h1 : i ≤ s.size) (hs : s.size ≤ 1000000) (hr : Par s (.lev n) i r)
    (HN : ∀ (i' : Int) (r' : Res) (W : World), i ≤ i' → i' ≤ s.size → Par s (.lev (n + 1)) i' r' → Calls Tryz.prog 40 #[.string s, .int .i64 i', .int .i64 (m + 1)] W (RSays r' W)) :
    Calls Tryz.prog 40 #[.string s, .int .i64 i, .int .i64 m] w (RSays r w) := by
  have hB := Lib.hid (boxr_new w)
  obtain ⟨r0, hr0, hst⟩ := lv_first hn hr h0 h1
  have HF := Lib.hid (fun W => HN i r0 W (Int.le_refl _) h1 hr0)
  have HNX := Lib.hid HN
  have HST := Lib.hid hst
  have HLV := Lib.hid hn
  have hm4 : n = 0 ∨ n = 1 ∨ n = 3 ∨ n = 4 ∨ n = 5 := hn
  have hw : IntKind.i64.wrap (m + 1) = m + 1 := by rw [IntKind.wrap_i64]; omega
  have e2 : (m == 2) = false := by rw [beq_eq_false_iff_ne]; omega
  have e6 : (m == 6) = false := by rw [beq_eq_false_iff_ne]; omega
  have HBT := Lib.hid (fun (p : Int) (W : World) (hp0 : 0 ≤ p) (hp : p ≤ s.size) => rbetw_any s p W n m hn hm hp0 hp hs)
  have HM : Hid (m = n) := Lib.hid hm
  have hm0 : 0 ≤ m := by omega
  have hm5 : m ≤ 5 := by omega
  clear HN hr0 hst hr hn hm hm4
  go_enter Tryz.func40, Tryz.ntmps40
  go_wp2_with fail
  refine (HF.out _).mono ?_
  rintro e1 w2 hx
  obtain ⟨T, vi, vk, va, p, c, rfl, hrep, hk1, ha⟩ := rsays_at hx
  obtain ⟨a1, c1, a2, c2, a3, c3, rfl, rfl, rfl⟩ := xrep_shape hrep
  have HV := Lib.hid (hB.out.var hrep hk1 ha)
  have hwz : w.heap.size < w2.heap.size := Nat.lt_of_lt_of_le (hk_lt hB.out.box) hk1.size
  clear hx hrep hk1 ha HF
  go_wp2_with fail
  refine abs_world (F := fun W => VarR r0 w2.heap.size T (.slice a1 T.lit.its.length c1) (.slice a2 T.lit.ks.length c2) (.slice a3 T.args.length c3) p c w W) HV.out (fun W3 HW3 => ?_)
  have HV3 := Lib.hid HW3
  clear HW3 HV
  go_loopg [] (s.size + 1) (fun k W => ∃ (r1 : Res) (T' : XT) (vi vk va : Value) (p c : Int), Hid (LvSt s r n i k r1 ∧ VarR r1 w2.heap.size T' vi vk va p c w W))
  case atStart => exact ⟨r0, T, _, _, _, _, _, Lib.hid ⟨HST.out, HV3.out⟩⟩
  case round =>
    obtain ⟨r1, T', vi, vk, va, pv, cv, HQ⟩ := hrel
    obtain ⟨b1, d1, b2, d2, b3, d3, rfl, rfl, rfl⟩ := xrep_shape HQ.out.2.rep
    have gb3 := cell_blk HQ.out.2.blk
    have gbf3 := frozen_blk HQ.out.2.blk
    have gb4 := cell_blk HQ.out.2.box
    have gbf4 := frozen_blk HQ.out.2.box
    have hl3 := hk_lt HQ.out.2.blk
    have hl4 := hk_lt HQ.out.2.box
    rcases HQ.out.1 with ⟨p1, c1, rfl, rfl, hc⟩ | ⟨T0, p1, rfl, hpar, hip, hp, hpk⟩
    · have hat : T' = XT.zero ∧ pv = p1 ∧ cv = c1 := HQ.out.2.at_
      obtain ⟨hT, rfl, rfl⟩ := hat
      have e1 : (cv == 0) = false := by rw [beq_eq_false_iff_ne]; exact hc
      have HE := Lib.hid HQ.out.2.ret
      clear hc hT
      go_wp2_with fail
      refine abs_post (F := fun W => ToldR (.err pv cv) w.heap.size (T') (.slice b1 T'.lit.its.length d1) (.slice b2 T'.lit.ks.length d2) (.slice b3 T'.args.length d3) (pv) (cv) w W) (HE.out) (fun W hW => ?_)
      have cr := cell_blk hW.blk
      exact bodyPost_ret (v := .agg ((T' : XT).elf (.slice b1 T'.lit.its.length d1) (.slice b2 T'.lit.ks.length d2) (.slice b3 T'.args.length d3) (pv) (cv))) (by simp [results, Tryz.results40, go_sem, cr]) rfl (at_rsays rfl hW)
    · have hat : T' = T0 ∧ pv = p1 ∧ cv = 0 := HQ.out.2.at_
      obtain ⟨rfl, rfl, rfl⟩ := hat
      have hp0 : 0 ≤ pv := by omega
      cases hbt : betw s pv n with
      | none =>
        have HBN : Hid (∀ W, Calls Tryz.prog 68 #[.string s, .int .i64 pv, .int .i64 m] W fun e w' => e = .returned (.tuple #[.string eS, .int .i64 pv]) ∧ Keeps [] W w') := Lib.hid (fun W => by have h := HBT.out pv W hp0 hp; rw [betwV_none hbt] at h; exact h)
        have HRE := Lib.hid (more_no hpar hbt)
        clear hpar hbt
        go_wp2_with (go_at_call 68; refine (HBN.out _).mono ?_; rintro e' w3 ⟨rfl, hk3⟩; have HV4 := Lib.hid (HQ.out.2.go hk3); clear hk3; have gb5 := cell_blk HV4.out.blk; have gbf5 := frozen_blk HV4.out.blk; have gb6 := cell_blk HV4.out.box; have gbf6 := frozen_blk HV4.out.box)
        rw [HRE.out]
        refine abs_post (F := fun W => ToldR (.ok T' pv) w.heap.size (T') (.slice b1 T'.lit.its.length d1) (.slice b2 T'.lit.ks.length d2) (.slice b3 T'.args.length d3) (pv) (0) w W) (HV4.out.ret) (fun W hW => ?_)
        have cr := cell_blk hW.blk
        exact bodyPost_ret (v := .agg ((T' : XT).elf (.slice b1 T'.lit.its.length d1) (.slice b2 T'.lit.ks.length d2) (.slice b3 T'.args.length d3) (pv) (0))) (by simp [results, Tryz.results40, go_sem, cr]) rfl (at_rsays rfl hW)
      | some oe =>
        obtain ⟨op, e⟩ := oe
        obtain ⟨r2, hr2, he2, ho2⟩ := more_yes hpar hbt
        have hpp := betw_pos hp0 hbt
        have hne := wo_nl (betw_ne HLV.out hp0 hbt)
        have HBN : Hid (∀ W, Calls Tryz.prog 68 #[.string s, .int .i64 pv, .int .i64 m] W fun e' w' => e' = .returned (.tuple #[.string op, .int .i64 e]) ∧ Keeps [] W w') := Lib.hid (fun W => by have h := HBT.out pv W hp0 hp; rw [betwV_some hbt] at h; exact h)
        have HN2 := Lib.hid (fun W => HNX.out e r2 W (by omega) hpp.2 hr2)
        have HR2 := Lib.hid hr2
        have HE2 := Lib.hid he2
        have HO2 := Lib.hid ho2
        clear hpar hbt hr2 he2 ho2
        go_wp2_with (go_at_call 68; refine (HBN.out _).mono ?_; rintro e' w3 ⟨rfl, hk3⟩; have HV4 := Lib.hid (HQ.out.2.go hk3); clear hk3)
        refine (HN2.out _).mono ?_
        rintro e5 w5 hx
        obtain ⟨U, ui, uk, ua, p2, c2, rfl, hrep, hk5, ha⟩ := rsays_at hx
        obtain ⟨x1, y1, x2, y2, x3, y3, rfl, rfl, rfl⟩ := xrep_shape hrep
        have HY := Lib.hid (HV4.out.yv hrep hk5 ha)
        have hw5 : w2.heap.size < w5.heap.size := Nat.lt_of_lt_of_le (hk_lt HV4.out.blk) hk5.size
        clear hx hrep hk5 ha gb3 gbf3 gb4 gbf4 hl3 hl4
        cases r2 with
        | err p' c' =>
          have hat : U = XT.zero ∧ p2 = p' ∧ c2 = c' := HY.out.at2
          obtain ⟨hU, rfl, rfl⟩ := hat
          obtain ⟨hre, hc'⟩ := HE2.out p2 c2 rfl
          have e1 : (c2 == 0) = false := by rw [beq_eq_false_iff_ne]; exact hc'
          have HRE := Lib.hid hre
          clear hc' hU hre
          go_upto_region 17 with fail
          refine abs_world (F := fun W => VarRY _ (.err p2 c2) w2.heap.size w5.heap.size T' (.slice b1 T'.lit.its.length d1) (.slice b2 T'.lit.ks.length d2) (.slice b3 T'.args.length d3) pv 0 U (.slice x1 U.lit.its.length y1) (.slice x2 U.lit.ks.length y2) (.slice x3 U.args.length y3) p2 c2 w W) HY.out (fun W6 HW6 => ?_)
          have H6 := Lib.hid HW6
          clear HW6 HY
          have gy := cell_blk H6.out.blk2
          have gb6 := cell_blk H6.out.box
          have gbf6 := frozen_blk H6.out.box
          have HE := Lib.hid H6.out.ret
          go_wp2_with fail
          rw [HRE.out]
          refine abs_post (F := fun W => ToldR (.err p2 c2) w.heap.size (U) (.slice x1 U.lit.its.length y1) (.slice x2 U.lit.ks.length y2) (.slice x3 U.args.length y3) (p2) (c2) w W) (HE.out) (fun W hW => ?_)
          have cr := cell_blk hW.blk
          exact bodyPost_ret (v := .agg ((U : XT).elf (.slice x1 U.lit.its.length y1) (.slice x2 U.lit.ks.length y2) (.slice x3 U.args.length y3) (p2) (c2))) (by simp [results, Tryz.results40, go_sem, cr]) rfl (at_rsays rfl hW)
        | ok U' p' =>
          have hat : U = U' ∧ p2 = p' ∧ c2 = 0 := HY.out.at2
          obtain ⟨rfl, rfl, rfl⟩ := hat
          have hpq := par_pos HR2.out (by omega) hpp.2
          have hpp1 : e < p2 := hpq.2
          have hpp2 : p2 ≤ s.size := hpq.1.2
          clear hpq
          go_upto_region 17 with fail
          refine abs_world (F := fun W => VarRY _ (.ok U p2) w2.heap.size w5.heap.size T' (.slice b1 T'.lit.its.length d1) (.slice b2 T'.lit.ks.length d2) (.slice b3 T'.args.length d3) pv 0 U (.slice x1 U.lit.its.length y1) (.slice x2 U.lit.ks.length y2) (.slice x3 U.args.length y3) p2 0 w W) HY.out (fun W6 HW6 => ?_)
          have H6 := Lib.hid HW6
          clear HW6 HY
          have gx := cell_blk H6.out.blk
          have gfx := frozen_blk H6.out.blk
          have gy := cell_blk H6.out.blk2
          have hlx := hk_lt H6.out.blk
          have hly := hk_lt H6.out.blk2
          have HB := Lib.hid (H6.out.bin op hwz)
          go_upto_region 21 with fail
          refine abs_world (F := fun W => VarR (.ok (binT op T' U) p2) w2.heap.size (binT op T' U) (.slice none 0 0) (.slice none 0 0) (.slice (some ⟨W6.heap.size + 1, 0, none⟩) 2 2) p2 0 w W) HB.out (fun W7 HW7 => ?_)
          have H7 := Lib.hid HW7
          clear HW7 HB gx gfx gy hlx hly
          rcases HO2.out U p2 rfl with ⟨h3, hre⟩ | ⟨h3, hpar'⟩
          · have e3 : (m == 3) = true := by rw [beq_iff_eq, HM.out, h3]; rfl
            have HRE := Lib.hid hre
            have gx := cell_blk H7.out.blk
            have gb6 := cell_blk H7.out.box
            have gbf6 := frozen_blk H7.out.box
            have HE := Lib.hid H7.out.ret
            clear hre h3
            go_wp2_with fail
            rw [HRE.out]
            refine abs_post (F := fun W => ToldR (.ok (binT op T' U) p2) w.heap.size (binT op T' U) (.slice none 0 0) (.slice none 0 0) (.slice (some ⟨W6.heap.size + 1, 0, none⟩) 2 2) (p2) (0) w W) (HE.out) (fun W hW => ?_)
            have cr := cell_blk hW.blk
            exact bodyPost_ret (v := .agg ((binT op T' U : XT).elf (.slice none 0 0) (.slice none 0 0) (.slice (some ⟨W6.heap.size + 1, 0, none⟩) 2 2) (p2) (0))) (by simp [results, Tryz.results40, go_sem, cr]) rfl (at_rsays rfl hW)
          · have e3 : (m == 3) = false := by rw [beq_eq_false_iff_ne, HM.out]; omega
            have HPR := Lib.hid hpar'
            clear hpar'
            go_wp2_with fail
            go_roundg (s.size - pv.toNat)
            case measure => omega
            case rel => exact ⟨_, binT op T' U, _, _, _, _, _, Lib.hid ⟨.inr ⟨_, _, rfl, HPR.out, by omega, hpp2, by omega⟩, H7.out⟩⟩
end
end Go.Proofs.YtdlkdecigpaaaaaGreatDoor
