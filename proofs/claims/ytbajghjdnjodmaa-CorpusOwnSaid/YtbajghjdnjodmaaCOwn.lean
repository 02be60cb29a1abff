/- CorpusOwn: what is put in, and what is told, is of its own: writing to it changes nothing. -/
import Derived.Test.YtbajghjdnjodmaaCPlays
import Derived.Test.YtbajghjdnjodmaaCIs
import Derived.Test.YtbajghjdnjodmaaCAll
import Derived.Test.YtbajghjdnjodmaaSpoil
namespace Go.Proofs.Ytbajghjdnjodmaa
set_option linter.unusedVariables false
set_option linter.unusedSimpArgs false
open Go.RowKit Go.Shelf

theorem out_below {S : Nat → Prop} {w W : World} (h : Below w.heap.size w W) : Out S w W := ⟨h.os, h.tape, h.output, h.size, fun j hj _ => h.block j hj⟩
theorem out_but {m : Nat} {w W : World} (h : But m w W) : Out (fun x => x = m) w W := ⟨h.os, h.tape, h.output, h.size, fun j hj hn => h.block j hj hn⟩
theorem out_blk {S : Nat → Prop} {w W : World} {b : Nat} {o : Obj} (h : Out S w W) (hb : w.heap[b]? = some o) (hn : ¬ S b) : W.heap[b]? = some o := (h.block b (hk_lt hb) hn).trans hb
theorem out_kc {S S' : Nat → Prop} {w W : World} (h : Out S w W) (hd : ∀ g, S' g → ¬ S g) : Kc S' w W := fun g _ _ _ hs hx => out_blk h hx (hd g hs)
theorem below_out {S : Nat → Prop} {w W W' : World} (h : Below w.heap.size w W) (k : Out S W W') (hS : ∀ x, S x → w.heap.size ≤ x) : Below w.heap.size w W' :=
  ⟨k.os.trans h.os, k.tape.trans h.tape, k.output.trans h.output, Nat.le_trans h.size k.size, fun j hj => (k.block j (Nat.lt_of_lt_of_le hj h.size) (fun hs => by have := hS j hs; omega)).trans (h.block j hj)⟩
theorem Out.trans {S : Nat → Prop} {a b c : World} (h : Out S a b) (k : Out S b c) : Out S a c :=
  ⟨k.os.trans h.os, k.tape.trans h.tape, k.output.trans h.output, Nat.le_trans h.size k.size, fun j hj hn => (k.block j (Nat.lt_of_lt_of_le hj h.size) hn).trans (h.block j hj hn)⟩
theorem one_ok {E : ET} (hn : isNameB E.nm = true) (hs : E.nm.size ≤ maxLen) (ho : E.ok) : DocOk [E] :=
  ⟨List.pairwise_singleton _ _, fun e he => by rw [List.mem_singleton.1 he]; exact ⟨hn, hs⟩, fun e he => by rw [List.mem_singleton.1 he]; exact ho, by simp⟩
theorem none_ok : DocOk [] := ⟨List.Pairwise.nil, fun _ h => (by cases h), fun _ h => (by cases h), Nat.zero_le _⟩
theorem put_one {E : ET} (hn : isNameB E.nm = true) : putL [] E = [E] ∧ putK [] E = 0 := by
  simp [putL, putK, hn, findF, insF, posF]
set_option maxRecDepth 20000 in
set_option maxHeartbeats 1000000 in
theorem own1_any (e : ET) (hok : e.ok) (S : Nat → Prop) (vi vk vd : Value) (w : World) (hc : e.Cells w S vi vk vd) :
    Calls Try.prog 24 #[.string e.nm, e.ent vi vk vd] w fun r w' => r = .returned (.bool true) ∧ Out S w w' := by
  obtain ⟨a1, b1, a2, b2, a3, b3, rfl, rfl, rfl⟩ := cells_shape hc
  have HS := Lib.hid (fun (W : World) (hb : Below w.heap.size w W) => spoil_any e hok S _ _ _ W (hc.keep (kc_below hb)))
  clear hc hok
  go_enter Try.func24, Try.ntmps24
  go_wp2_with (go_at_call 19; refine (HS.out _ (by ((repeat (first | with_reducible exact Below.refl _ _ | with_reducible refine bl_drew ?_ | with_reducible refine bl_alloc ?_ _ | with_reducible refine bl_set ?_ (by dsimp only; omega) _)); done))).mono ?_; rintro e' w1 ⟨rfl, ho⟩; have HO : Hid (Out S w w1) := Lib.hid ((out_below (by ((repeat (first | with_reducible exact Below.refl _ _ | with_reducible refine bl_drew ?_ | with_reducible refine bl_alloc ?_ _ | with_reducible refine bl_set ?_ (by dsimp only; omega) _)); done))).trans ho); clear ho)
  go_ret
  exact ⟨rfl, HO.out⟩
/-- The act, and the document's entry of it. -/
structure OwnA (w : World) (E : ET) (act : Array Value) (B3 n2 : Nat) (xi xk xd : Value) (W : World) : Prop where
  bel : Below w.heap.size w W
  act : W.heap[w.heap.size]? = some (.cells act 41 (0, 0))
  want : W.heap[B3]? = some (.cells #[.string E.nm, .int .i64 E.v.k, .bool E.v.b, .int .i64 E.v.n, .string E.v.s, xi, xk, .bool E.has, .string E.st, xd] 48 (0, 0))
  cells : E.Cells W (fun x => x < n2) xi xk xd
  lt : w.heap.size < n2 ∧ B3 < n2 ∧ n2 ≤ W.heap.size
theorem OwnA.out {S : Nat → Prop} {w W W' : World} {E : ET} {act : Array Value} {B3 n2 : Nat} {xi xk xd : Value} (h : OwnA w E act B3 n2 xi xk xd W) (k : Out S W W') (hS : ∀ x, S x → n2 ≤ x) : OwnA w E act B3 n2 xi xk xd W' := by
  obtain ⟨h1, h2, h3⟩ := h.lt
  exact ⟨below_out h.bel k (fun x hx => by have := hS x hx; omega), out_blk k h.act (fun hs => by have := hS _ hs; omega), out_blk k h.want (fun hs => by have := hS _ hs; omega), h.cells.keep (out_kc k fun g hg hs => by have := hS _ hs; omega), h1, h2, Nat.le_trans h3 k.size⟩
/-- .. and the corpus that has it. -/
structure OwnB (w : World) (E : ET) (act : Array Value) (B3 n2 : Nat) (xi xk xd : Value) (g m n4 n5 : Nat) (W : World) : Prop where
  a : OwnA w E act B3 n2 xi xk xd W
  han : W.heap[g]? = some (.cells #[.map (some m)] 69 (0, 0))
  syn : Syn W (fun x => n4 ≤ x ∧ x < n5) m [E]
  rng : n2 ≤ g ∧ n2 ≤ m ∧ g < n5 ∧ m < n5 ∧ n2 ≤ n4 ∧ n5 ≤ W.heap.size
theorem OwnB.out {S : Nat → Prop} {w W W' : World} {E : ET} {act : Array Value} {B3 n2 : Nat} {xi xk xd : Value} {g m n4 n5 : Nat} (h : OwnB w E act B3 n2 xi xk xd g m n4 n5 W) (k : Out S W W') (hS : ∀ x, S x → n2 ≤ x ∧ (x < n4 ∨ n5 ≤ x) ∧ x ≠ g ∧ x ≠ m) : OwnB w E act B3 n2 xi xk xd g m n4 n5 W' := by
  obtain ⟨h1, h2, h3, h4, h5, h6⟩ := h.rng
  exact ⟨h.a.out k fun x hx => (hS x hx).1, out_blk k h.han (fun hs => (hS _ hs).2.2.1 rfl), h.syn.go (k.block m h.syn.lt (fun hs => (hS _ hs).2.2.2 rfl)) (out_kc k fun g hg hs => by have := (hS _ hs).2.1; omega) (fun _ _ _ _ h _ => h), h1, h2, h3, h4, h5, Nat.le_trans h6 k.size⟩
theorem acts_one {W : World} {S : Nat → Prop} {a : AT} {vn vd : Value} (hc : a.Cells W S vn vd) : Acts (W.alloc (.cells #[.int .u8 a.k, .string a.nm, vn, .bool a.has, vd] 41)) (fun _ => True) (.slice (some ⟨W.heap.size, 0, none⟩) 1 1) [a] := by
  refine ⟨by unfold maxLen; simp, _, Sl.one_of (new_blk _ _) trivial rfl, _, [], by simp [AT.head], ⟨vn, vd, rfl, ?_⟩, rfl⟩
  have h := hc.keep (kc_alloc (.cells #[.int .u8 a.k, .string a.nm, vn, .bool a.has, vd] 41))
  obtain ⟨h0, ⟨cs, h1, h2⟩, h3⟩ := h
  exact ⟨h0, ⟨cs, h1.mono fun _ _ => trivial, h2.mono fun _ _ ⟨k0, vi, vk, k1, k2, k3⟩ => ⟨k0, vi, vk, k1, k2.mono fun _ _ => trivial, k3.mono fun _ _ => trivial⟩⟩, h3.mono fun _ _ => trivial⟩
set_option maxRecDepth 20000 in
set_option maxHeartbeats 1000000 in
theorem own24_not (a : AT) (vn vd : Value) (S : Nat → Prop) (w : World) (h : a.Cells w S vn vd) (b : Bool) (hf : fewB [a] = b) (hf' : b = true → isNameB a.nm = false) : Calls Try.prog 5 #[a.agg vn vd] w fun r w' => r = .returned (.bool true) ∧ Below w.heap.size w w' := by
  obtain ⟨a1, c1, a2, c2, rfl, rfl⟩ := act_shape h
  have hsz : a.nm.size ≤ 9223372036854775807 := h.1.2.1
  have HF := Lib.hid (fun (W : World) (hb : Below w.heap.size w W) => few_any [a] _ _ _ (acts_one (h.keep (kc_below hb))))
  have HN := Lib.hid (fun W : World => isname24_any a.nm W hsz)
  rw [hf] at HF
  clear h hf
  cases b
  all_goals
    (try rw [hf' rfl] at HN)
    clear hf'
    go_enter Try.func5, Try.ntmps5
    go_wp2_with fail
    refine (awake24_any _).mono ?_
    rintro e w1 ⟨rfl, hb1⟩
    have HB1 : Hid (Below w.heap.size w w1) := Lib.hid (bl_step (by ((repeat (first | with_reducible exact Below.refl _ _ | with_reducible refine bl_drew ?_ | with_reducible refine bl_alloc ?_ _ | with_reducible refine bl_set ?_ (by dsimp only; omega) _)); done)) hb1)
    have P1 : Hid (w1.heap[w.heap.size]? = some (Obj.cells #[.int .u8 a.k, .string a.nm, .slice a1 a.nodes.length c1, .bool a.has, .slice a2 a.dr.length c2] 41 (0, 0))) := Lib.hid (hk_below (by ((repeat (first | with_reducible exact new_blk _ _ | with_reducible exact new_blk1 _ _ _ | with_reducible exact new_blk2 _ _ _ _ | with_reducible refine hk_drew ?_ | with_reducible refine hk_alloc ?_ _ | with_reducible refine hk_set ?_ (by dsimp only; omega) _)); done)) hb1)
    have q1 := cell_blk P1.out
    clear hb1
    go_wp2_with (first
      | (go_at_call 16; refine (HF.out _ HB1.out).mono ?_; rintro e' w2 ⟨rfl, hb2⟩; have HB2 : Hid (Below w.heap.size w w2) := Lib.hid (bl_step (by ((repeat (first | with_reducible exact HB1.out | with_reducible exact Below.refl _ _ | with_reducible refine bl_drew ?_ | with_reducible refine bl_alloc ?_ _ | with_reducible refine bl_set ?_ (by dsimp only; omega) _)); done)) hb2); have P2 : Hid (w2.heap[w.heap.size]? = some (Obj.cells #[.int .u8 a.k, .string a.nm, .slice a1 a.nodes.length c1, .bool a.has, .slice a2 a.dr.length c2] 41 (0, 0))) := Lib.hid (hk_below (by ((repeat (first | with_reducible exact P1.out | with_reducible exact new_blk _ _ | with_reducible exact new_blk1 _ _ _ | with_reducible exact new_blk2 _ _ _ _ | with_reducible refine hk_drew ?_ | with_reducible refine hk_alloc ?_ _ | with_reducible refine hk_set ?_ (by dsimp only; omega) _)); done)) hb2); have q2 := cell_blk P2.out; clear hb2)
      | (go_at_call 13; refine (HN.out _).mono ?_; rintro e' w3 ⟨rfl, rfl⟩))
    refine (awake24_any _).mono ?_
    rintro e w4 ⟨rfl, hb4⟩
    have HB3 := Lib.hid (bl_step HB2.out hb4)
    clear hb4
    go_wp2_with fail
    go_ret
    exact ⟨rfl, HB3.out⟩
theorem own_yields {E : ET} (ho : E.ok) {w0 : World} {n : Nat} (hn : w0.heap.size ≤ n) : Yields 24 #[] (fun _ W' => Below w0.heap.size w0 W') (fun _ => true) [E] n := by
  intro k e vi vk vd W hk hW hJ hc _
  have hk0 : k = 0 ∧ e = E := by
    cases k with
    | zero => exact ⟨rfl, by simpa using hk.symm⟩
    | succ k => simp at hk
  obtain ⟨rfl, rfl⟩ := hk0
  refine (show Calls Try.prog 24 #[.string e.nm, e.ent vi vk vd] W _ from own1_any e ho _ vi vk vd W hc).mono ?_
  rintro r W' ⟨rfl, h⟩
  exact ⟨rfl, below_out hJ h (fun x hx => Nat.le_trans hn hx), fun h1 => absurd h1 (by simp), h.size⟩
theorem doc_one {w : World} {S : Nat → Prop} {E : ET} {xi xk xd : Value} (h : E.Cells w S xi xk xd) : Doc (w.alloc (.cells #[.string E.nm, .int .i64 E.v.k, .bool E.v.b, .int .i64 E.v.n, .string E.v.s, xi, xk, .bool E.has, .string E.st, xd] 48)) (fun _ => True) (.slice (some ⟨w.heap.size, 0, none⟩) 1 1) [E] :=
  ⟨_, Sl.one_of (new_blk _ _) trivial rfl, _, [], by simp [ET.head], ⟨_, _, _, rfl, (h.keep (kc_alloc _)).mono fun _ _ => trivial⟩, rfl⟩
set_option maxRecDepth 20000 in
set_option maxHeartbeats 2000000 in
theorem own_yes (a : AT) (vn vd : Value) (S : Nat → Prop) (w : World) (h : a.Cells w S vn vd) (hf : fewB [a] = true) (hn : isNameB a.nm = true) : Calls Try.prog 5 #[a.agg vn vd] w fun r w' => r = .returned (.bool true) ∧ Below w.heap.size w w' := by
  obtain ⟨a1, c1, a2, c2, rfl, rfl⟩ := act_shape h
  have hsz : a.nm.size ≤ 9223372036854775807 := h.1.2.1
  have HF := Lib.hid (fun (W : World) (hb : Below w.heap.size w W) => few_any [a] _ _ _ (acts_one (h.keep (kc_below hb))))
  have HN := Lib.hid (fun W : World => isname24_any a.nm W hsz)
  have HDR := Lib.hid ((few_mem hf).2 a (.head _)).2
  have HNB := Lib.hid hn
  rw [hf] at HF
  rw [hn] at HN
  have HE := Lib.hid (fun (W : World) (hb : Below w.heap.size w W) => entry_any a _ _ S W (h.keep (kc_below hb)))
  have HSZ := Lib.hid hsz
  clear h hf hn hsz
  go_enter Try.func5, Try.ntmps5
  go_wp2_with fail
  refine (awake24_any _).mono ?_
  rintro e w1 ⟨rfl, hb1⟩
  have HB1 : Hid (Below w.heap.size w w1) := Lib.hid (bl_step (by ((repeat (first | with_reducible exact Below.refl _ _ | with_reducible refine bl_drew ?_ | with_reducible refine bl_alloc ?_ _ | with_reducible refine bl_set ?_ (by dsimp only; omega) _)); done)) hb1)
  have P1 : Hid (w1.heap[w.heap.size]? = some (Obj.cells #[.int .u8 a.k, .string a.nm, .slice a1 a.nodes.length c1, .bool a.has, .slice a2 a.dr.length c2] 41 (0, 0))) := Lib.hid (hk_below (by ((repeat (first | with_reducible exact new_blk _ _ | with_reducible exact new_blk1 _ _ _ | with_reducible exact new_blk2 _ _ _ _ | with_reducible refine hk_drew ?_ | with_reducible refine hk_alloc ?_ _ | with_reducible refine hk_set ?_ (by dsimp only; omega) _)); done)) hb1)
  have q1 := cell_blk P1.out
  clear hb1
  go_upto_region 3 with (first
    | (go_at_call 16; refine (HF.out _ HB1.out).mono ?_; rintro e' w2 ⟨rfl, hb2⟩; have HB2 : Hid (Below w.heap.size w w2) := Lib.hid (bl_step (by ((repeat (first | with_reducible exact HB1.out | with_reducible exact Below.refl _ _ | with_reducible refine bl_drew ?_ | with_reducible refine bl_alloc ?_ _ | with_reducible refine bl_set ?_ (by dsimp only; omega) _)); done)) hb2); have P2 : Hid (w2.heap[w.heap.size]? = some (Obj.cells #[.int .u8 a.k, .string a.nm, .slice a1 a.nodes.length c1, .bool a.has, .slice a2 a.dr.length c2] 41 (0, 0))) := Lib.hid (hk_below (by ((repeat (first | with_reducible exact P1.out | with_reducible exact new_blk _ _ | with_reducible exact new_blk1 _ _ _ | with_reducible exact new_blk2 _ _ _ _ | with_reducible refine hk_drew ?_ | with_reducible refine hk_alloc ?_ _ | with_reducible refine hk_set ?_ (by dsimp only; omega) _)); done)) hb2); have q2 := cell_blk P2.out; clear hb2)
    | (go_at_call 13; refine (HN.out _).mono ?_; rintro e' w3 ⟨rfl, rfl⟩))
  go_upto_region 4 with (go_at_call 17; refine (HE.out _ HB2.out).mono ?_; rintro e' w4 ⟨E, yi, yk, yd, rfl, hnm, hok, hc4, hb4⟩; obtain ⟨u1, t1, u2, t2, u3, t3, rfl, rfl, rfl⟩ := cells_shape hc4; have HC4 := Lib.hid hc4; have HB4 := Lib.hid hb4; have HEN := Lib.hid hnm; have HOK := Lib.hid (hok HDR.out); clear hc4 hb4 hnm hok)
  refine abs_world (F := OwnA w E #[.int .u8 a.k, .string a.nm, .slice a1 a.nodes.length c1, .bool a.has, .slice a2 a.dr.length c2] w4.heap.size (w4.heap.size + 1) (.slice u1 E.v.its.length t1) (.slice u2 E.v.ks.length t2) (.slice u3 E.dr.length t3)) ⟨?_, ?_, ?_, ?_, ?_⟩ ?_
  · clear q1 q2
    have := bl_step HB2.out HB4.out
    ((repeat (first | with_reducible exact this | with_reducible exact Below.refl _ _ | with_reducible refine bl_drew ?_ | with_reducible refine bl_alloc ?_ _ | with_reducible refine bl_set ?_ (by dsimp only; omega) _)); done)
  · clear q1 q2
    have := hk_below P2.out HB4.out
    ((repeat (first | with_reducible exact this | with_reducible exact new_blk _ _ | with_reducible exact new_blk1 _ _ _ | with_reducible exact new_blk2 _ _ _ _ | with_reducible refine hk_drew ?_ | with_reducible refine hk_alloc ?_ _ | with_reducible refine hk_set ?_ (by dsimp only; omega) _)); done)
  · exact new_blk _ _
  · exact ((HC4.out.go (S' := fun x => x < w4.heap.size + 1) (Kc.refl _ _) (fun x _ _ _ _ hx => by have := hk_lt hx; omega)).keep (kc_alloc _))
  · have h1 := hk_lt P2.out
    have h2 := HB4.out.size
    exact ⟨by omega, by omega, by simp⟩
  clear q1 q2 HC4 HB4 P1 P2 HB1 HB2 HF HN HE
  intro W5 h5
  have z2 := cell_blk h5.want
  have HA := Lib.hid h5
  clear h5
  go_upto_region 5 with (go_at_call 18; refine (real24_any E HOK.out _ _ _ _ _ HA.out.cells).mono ?_; rintro e' w6 ⟨ri, rk, rd, rfl, hc6, hb6⟩; obtain ⟨v1, s1, v2, s2, v3, s3, rfl, rfl, rfl⟩ := cells_shape hc6; have HC6 := Lib.hid hc6; have HB6 := Lib.hid hb6; clear hc6 hb6)
  refine abs_world (F := fun W => OwnA w E #[.int .u8 a.k, .string a.nm, .slice a1 a.nodes.length c1, .bool a.has, .slice a2 a.dr.length c2] w4.heap.size (w4.heap.size + 1) (.slice u1 E.v.its.length t1) (.slice u2 E.v.ks.length t2) (.slice u3 E.dr.length t3) W ∧ W.heap[w6.heap.size]? = some (.cells #[.int .i64 E.v.k, .bool E.v.b, .int .i64 E.v.n, .string E.v.s, .slice v1 E.v.its.length s1, .slice v2 E.v.ks.length s2, .bool E.has, .string E.st, .slice v3 E.dr.length s3] 33 (0, 0)) ∧ E.Cells W (fun x => w4.heap.size + 1 ≤ x ∧ x < w6.heap.size) (.slice v1 E.v.its.length s1) (.slice v2 E.v.ks.length s2) (.slice v3 E.dr.length s3) ∧ w6.heap.size < W.heap.size) ⟨?_, ?_, ?_, ?_⟩ ?_
  · clear z2
    exact HA.out.out (out_below (S := fun _ => False) (by ((repeat (first | with_reducible exact HB6.out | with_reducible exact Below.refl _ _ | with_reducible refine bl_drew ?_ | with_reducible refine bl_alloc ?_ _ | with_reducible refine bl_set ?_ (by dsimp only; omega) _)); done))) (fun _ hx => hx.elim)
  · exact new_blk _ _
  · have := HA.out.lt.2.2
    exact (HC6.out.go (S' := fun x => w4.heap.size + 1 ≤ x ∧ x < w6.heap.size) (Kc.refl _ _) (fun x _ _ _ hx hh => ⟨by omega, hk_lt hh⟩)).keep (kc_alloc _)
  · simp
  clear z2 HA HC6 HB6
  rintro W6 ⟨h6, hb6, hc6, hz6⟩
  have z1 := cell_blk h6.act
  have s1' := hk_lt h6.act
  have z4 := cell_blk hb6
  have HA := Lib.hid h6
  have HBX := Lib.hid hb6
  have HCX := Lib.hid hc6
  have hput : Calls Try.prog 11 #[.pointer (some ⟨W6.heap.size + 1, 0, none⟩), .string a.nm, E.ent (.slice v1 E.v.its.length s1) (.slice v2 E.v.ks.length s2) (.slice v3 E.dr.length s3)] ((W6.alloc (.map #[] 0)).alloc (.cells #[.map (some W6.heap.size)] 69)) fun r w' => r = .returned (.int .i64 0) ∧ Syn w' (fun x => W6.heap.size + 2 ≤ x) W6.heap.size [E] ∧ But W6.heap.size ((W6.alloc (.map #[] 0)).alloc (.cells #[.map (some W6.heap.size)] 69)) w' := by
    have hn := HEN.out
    obtain ⟨e1, e2⟩ := put_one (E := E) (by rw [hn]; exact HNB.out)
    rw [← hn]
    refine (cput_any (W6.heap.size + 1) W6.heap.size [] E (fun _ => False) _ _ _ _ _ (by ((repeat (first | with_reducible exact new_blk _ _ | with_reducible exact new_blk1 _ _ _ | with_reducible exact new_blk2 _ _ _ _ | with_reducible refine hk_drew ?_ | with_reducible refine hk_alloc ?_ _ | with_reducible refine hk_set ?_ (by dsimp only; omega) _)); done)) (syn_new _ _ _) none_ok (hc6.keep (kc_below (by ((repeat (first | with_reducible exact Below.refl _ _ | with_reducible refine bl_drew ?_ | with_reducible refine bl_alloc ?_ _ | with_reducible refine bl_set ?_ (by dsimp only; omega) _)); done)))) HOK.out (by rw [hn]; exact HSZ.out)).mono ?_
    rintro r w' ⟨h1, h2, h3⟩
    rw [e2] at h1
    rw [e1] at h2
    exact ⟨h1, h2.mono fun x hx => hx.elim (fun h => h.elim) (fun h => by simpa using h), h3⟩
  have HPUT := Lib.hid hput
  have HZ6 := Lib.hid hz6
  clear h6 hb6 hc6 hput
  go_upto_region 8 with (first
    | (go_at_call 10; refine (cnew_any _).mono ?_; rintro e' w7 ⟨rfl, rfl⟩)
    | (go_at_call 11; refine HPUT.out.mono ?_; rintro e' w8 ⟨rfl, hsy, hbut⟩; have HSY := Lib.hid hsy; have HBT := Lib.hid hbut; clear hsy hbut))
  refine abs_world (F := fun W => OwnB w E #[.int .u8 a.k, .string a.nm, .slice a1 a.nodes.length c1, .bool a.has, .slice a2 a.dr.length c2] w4.heap.size (w4.heap.size + 1) (.slice u1 E.v.its.length t1) (.slice u2 E.v.ks.length t2) (.slice u3 E.dr.length t3) (W6.heap.size + 1) W6.heap.size (W6.heap.size + 2) w8.heap.size W ∧ W.heap[w6.heap.size]? = some (.cells #[.int .i64 E.v.k, .bool E.v.b, .int .i64 E.v.n, .string E.v.s, .slice v1 E.v.its.length s1, .slice v2 E.v.ks.length s2, .bool E.has, .string E.st, .slice v3 E.dr.length s3] 33 (0, 0)) ∧ E.Cells W (fun x => w4.heap.size + 1 ≤ x ∧ x < w6.heap.size) (.slice v1 E.v.its.length s1) (.slice v2 E.v.ks.length s2) (.slice v3 E.dr.length s3)) ⟨⟨?_, ?_, ?_, ?_⟩, ?_, ?_⟩ ?_
  · have h1 := HA.out.lt
    exact (HA.out.out (out_below (S := fun _ => False) (bl_alloc (bl_alloc (Below.refl _ _) _) _)) (fun _ hx => hx.elim)).out (out_but HBT.out) (fun x hx => by omega)
  · exact but_blk HBT.out (by ((repeat (first | with_reducible exact new_blk _ _ | with_reducible exact new_blk1 _ _ _ | with_reducible exact new_blk2 _ _ _ _ | with_reducible refine hk_drew ?_ | with_reducible refine hk_alloc ?_ _ | with_reducible refine hk_set ?_ (by dsimp only; omega) _)); done)) (by omega)
  · exact HSY.out.go rfl (Kc.refl _ _) (fun x _ _ _ hx hh => ⟨hx, hk_lt hh⟩)
  · have h1 := HA.out.lt
    have h2 := HSY.out.lt
    have h3 := HBT.out.size
    simp only [World.size_alloc] at h3
    exact ⟨by omega, by omega, by omega, by omega, by omega, Nat.le_refl _⟩
  · exact but_blk HBT.out (hk_alloc (hk_alloc HBX.out _) _) (by omega)
  · exact (HCX.out.keep (kc_below (bl_alloc (bl_alloc (Below.refl _ _) _) _))).keep (but_kc HBT.out (es := #[]) (c := 0) (by ((repeat (first | with_reducible exact new_blk _ _ | with_reducible exact new_blk1 _ _ _ | with_reducible exact new_blk2 _ _ _ _ | with_reducible refine hk_drew ?_ | with_reducible refine hk_alloc ?_ _ | with_reducible refine hk_set ?_ (by dsimp only; omega) _)); done)))
  clear z1 z4 s1' hz6 HA HBX HCX HPUT
  rintro W8 ⟨h8, hb8, hc8⟩
  have z4 := cell_blk hb8
  have HB8 := Lib.hid h8
  have HSP := Lib.hid (spoil_any E HOK.out _ _ _ _ W8 hc8)
  clear h8 hb8 hc8
  go_upto_region 9 with (go_at_call 19; refine HSP.out.mono ?_; rintro e' w9 ⟨rfl, ho⟩; have HO := Lib.hid ho; clear ho)
  refine abs_world (F := OwnB w E #[.int .u8 a.k, .string a.nm, .slice a1 a.nodes.length c1, .bool a.has, .slice a2 a.dr.length c2] w4.heap.size (w4.heap.size + 1) (.slice u1 E.v.its.length t1) (.slice u2 E.v.ks.length t2) (.slice u3 E.dr.length t3) (W6.heap.size + 1) W6.heap.size (W6.heap.size + 2) w8.heap.size) (HB8.out.out HO.out (fun x hx => by have h1 := HZ6.out; exact ⟨hx.1, .inl (by omega), by omega, by omega⟩)) ?_
  clear z4 HB8 HSP
  intro W9 h9
  have z1 := cell_blk h9.a.act
  have HB9 := Lib.hid h9
  have hget : Calls Try.prog 20 #[.pointer (some ⟨W6.heap.size + 1, 0, none⟩), .string a.nm] W9 fun r w' => ∃ vi vk vd, r = .returned (.tuple #[E.ent vi vk vd, .int .i64 0]) ∧ E.Cells w' (W9.heap.size ≤ ·) vi vk vd ∧ Below W9.heap.size W9 w' :=
    cget_some _ _ [E] a.nm _ W9 E (.head _) HEN.out HOK.out h9.han h9.syn HSZ.out
  have HGET := Lib.hid hget
  clear h9 hget
  go_upto_region 10 with (go_at_call 20; refine HGET.out.mono ?_; rintro e' w10 ⟨gi, gk, gd, rfl, hc10, hb10⟩; obtain ⟨p1, r1, p2, r2, p3, r3, rfl, rfl, rfl⟩ := cells_shape hc10; have HC10 := Lib.hid hc10; have HB10 := Lib.hid hb10; clear hc10 hb10)
  refine abs_world (F := fun W => OwnB w E #[.int .u8 a.k, .string a.nm, .slice a1 a.nodes.length c1, .bool a.has, .slice a2 a.dr.length c2] w4.heap.size (w4.heap.size + 1) (.slice u1 E.v.its.length t1) (.slice u2 E.v.ks.length t2) (.slice u3 E.dr.length t3) (W6.heap.size + 1) W6.heap.size (W6.heap.size + 2) w8.heap.size W ∧ W.heap[w10.heap.size]? = some (.cells #[.int .i64 E.v.k, .bool E.v.b, .int .i64 E.v.n, .string E.v.s, .slice p1 E.v.its.length r1, .slice p2 E.v.ks.length r2, .bool E.has, .string E.st, .slice p3 E.dr.length r3] 33 (0, 0)) ∧ E.Cells W (fun x => w8.heap.size ≤ x) (.slice p1 E.v.its.length r1) (.slice p2 E.v.ks.length r2) (.slice p3 E.dr.length r3)) ⟨?_, ?_, ?_⟩ ?_
  · clear z1
    exact HB9.out.out (out_below (S := fun _ => False) (by ((repeat (first | with_reducible exact HB10.out | with_reducible exact Below.refl _ _ | with_reducible refine bl_drew ?_ | with_reducible refine bl_alloc ?_ _ | with_reducible refine bl_set ?_ (by dsimp only; omega) _)); done))) (fun _ hx => hx.elim)
  · exact new_blk _ _
  · have := HB9.out.rng.2.2.2.2.2
    exact (HC10.out.mono (S' := fun x => w8.heap.size ≤ x) (fun x hx => by omega)).keep (kc_alloc _)
  clear z1 HB9 HGET HC10 HB10
  rintro W10 ⟨h10, hb10, hc10⟩
  have z1 := cell_blk h10.a.act
  have z2 := cell_blk h10.a.want
  have z3 := cell_blk hb10
  have l1 := hk_lt h10.a.act
  have l2 := hk_lt h10.a.want
  have l3 := hk_lt hb10
  have HX := Lib.hid h10.a.cells
  have HY := Lib.hid hc10
  have HH := Lib.hid h10
  have HBX := Lib.hid hb10
  have HRF := Lib.hid (fun (W : World) (hb : Below W10.heap.size W10 W) => (show Calls Try.prog 22 #[.string a.nm, E.ent (.slice p1 E.v.its.length r1) (.slice p2 E.v.ks.length r2) (.slice p3 E.dr.length r3)] W _ from HEN.out ▸ ref_any E HOK.out _ _ _ _ W (hc10.keep (kc_below hb))))
  have HSM := Lib.hid (fun (W : World) (hb : Below W10.heap.size W10 W) (wi wk wd : Value) (q : ET.Cells W (fun _ => True) E wi wk wd) => same24_any E HOK.out _ _ _ _ _ _ _ _ W q (h10.a.cells.keep (kc_below hb)))
  clear h10 hb10 hc10
  go_region_held3 (fun W' => ∀ b o, b < W10.heap.size → W'.cell? ⟨b, o, none⟩ = W10.cell? ⟨b, o, none⟩)
    (first | exact (fun _ _ _ => rfl) | exact (bcell H6.out).1 | exact (bcell H5.out).1)
    (first
      | (go_at_call 22; refine (HRF.out _ (by ((repeat (first | with_reducible exact Below.refl _ _ | with_reducible refine bl_drew ?_ | with_reducible refine bl_alloc ?_ _ | with_reducible refine bl_set ?_ (by dsimp only; omega) _)); done))).mono ?_; rintro e' w11 ⟨wi, wk, rfl, hc2, hb2⟩; obtain ⟨v1', q1, v2', q2, v3', q3, rfl, rfl, hu3⟩ := cells_shape hc2; cases hu3; have H5 : Hid (Below W10.heap.size W10 w11) := Lib.hid (bl_step (by ((repeat (first | with_reducible exact Below.refl _ _ | with_reducible refine bl_drew ?_ | with_reducible refine bl_alloc ?_ _ | with_reducible refine bl_set ?_ (by dsimp only; omega) _)); done)) hb2); have HC3 := Lib.hid hc2; clear hb2 hc2)
      | (go_at_call 21; refine (HSM.out w11 H5.out _ _ _ HC3.out).mono ?_; rintro e' w12 ⟨rfl, hb3⟩; have H6 : Hid (Below W10.heap.size W10 w12) := Lib.hid (bl_step H5.out hb3); clear hb3))
  all_goals (refine ‹∀ (a : Act) (w : World), _ → _› _ _ ?_)
  all_goals
    have HH2 := Lib.hid (HH.out.out (out_below (S := fun _ => False) H6.out) (fun _ hx => hx.elim))
    have HBX2 := Lib.hid (hk_below HBX.out H6.out)
    have HY2 := Lib.hid (HY.out.keep (kc_below H6.out))
    clear z1 z2 z3 l1 l2 l3 HX HY HH HBX HRF HSM H5 H6 HC3
    have z3 := cell_blk HBX2.out
    have HSP := Lib.hid (spoil_any E HOK.out _ _ _ _ w12 HY2.out)
    go_upto_region 13 with (go_at_call 19; refine HSP.out.mono ?_; rintro e' w13 ⟨rfl, ho⟩; have HO := Lib.hid ho; clear ho)
    refine abs_world (F := OwnB w E #[.int .u8 a.k, .string a.nm, .slice a1 a.nodes.length c1, .bool a.has, .slice a2 a.dr.length c2] w4.heap.size (w4.heap.size + 1) (.slice u1 E.v.its.length t1) (.slice u2 E.v.ks.length t2) (.slice u3 E.dr.length t3) (W6.heap.size + 1) W6.heap.size (W6.heap.size + 2) w8.heap.size) (HH2.out.out HO.out (fun x hx => by obtain ⟨h1, h2, h3, h4, h5, h6⟩ := HH2.out.rng; exact ⟨by omega, .inr hx, by omega, by omega⟩)) ?_
    clear z3 HSP HH2 HBX2 HY2
    intro W13 h13
    have HJ := Lib.hid h13
    have HC13 := Lib.hid (fun (W : World) (hb : Below W13.heap.size W13 W) (hgb : W.heap[W13.heap.size]? = some (.cells #[.pointer (some ⟨W6.heap.size + 1, 0, none⟩)] 24 (0, 0))) =>
      all1_any 24 #[] (enters_of Try.func24 (by kernel_rfl) rfl) (fun _ W' => Below W13.heap.size W13 W') (fun _ => true) W13.heap.size (W6.heap.size + 1) W6.heap.size [E] _ W hgb (hk_below h13.han hb) (h13.syn.below hb) (one_ok (by rw [HEN.out]; exact HNB.out) (by rw [HEN.out]; exact HSZ.out) HOK.out) (fun W' hb2 => bl_step hb hb2) (own_yields HOK.out hb.size))
    have HCALL := Lib.hid (HC13.out (W13.alloc (.cells #[.pointer (some ⟨W6.heap.size + 1, 0, none⟩)] 24)) (by ((repeat (first | with_reducible exact Below.refl _ _ | with_reducible refine bl_drew ?_ | with_reducible refine bl_alloc ?_ _ | with_reducible refine bl_set ?_ (by dsimp only; omega) _)); done)) (by ((repeat (first | with_reducible exact new_blk _ _ | with_reducible exact new_blk1 _ _ _ | with_reducible exact new_blk2 _ _ _ _ | with_reducible refine hk_drew ?_ | with_reducible refine hk_alloc ?_ _ | with_reducible refine hk_set ?_ (by dsimp only; omega) _)); done)))
    clear h13 HC13
    go_upto_region 14 with (first
      | (go_at_call 23; refine (call_all _ _).mono ?_; rintro e' w' ⟨rfl, rfl⟩)
      | (go_at_call 36; refine HCALL.out.mono ?_; rintro e' w14 ⟨rfl, k, hk1, hk2, hk3, hk4⟩; have HE := Lib.hid (HJ.out.out (out_below (S := fun _ => False) hk2) (fun _ hx => hx.elim)); clear hk1 hk2 hk3 hk4))
    have z2 := cell_blk HE.out.a.want
    have HIS := Lib.hid (fun (W : World) (hb : Below w14.heap.size w14 W) (v : Value) (hD : Doc W (fun _ => True) v [E]) => is24_any (W6.heap.size + 1) W6.heap.size [E] v _ _ W (hk_below HE.out.han hb) (HE.out.syn.below hb) (one_ok (by rw [HEN.out]; exact HNB.out) (by rw [HEN.out]; exact HSZ.out) HOK.out) hD)
    have HDD := Lib.hid (doc_one (w := w14) HE.out.a.cells)
    go_wp2_with (go_at_call 25; refine (HIS.out _ (by ((repeat (first | with_reducible exact Below.refl _ _ | with_reducible refine bl_drew ?_ | with_reducible refine bl_alloc ?_ _ | with_reducible refine bl_set ?_ (by dsimp only; omega) _)); done)) _ HDD.out).mono ?_; rintro e' w15 ⟨rfl, hb15⟩; have HB15 : Hid (Below w.heap.size w w15) := Lib.hid (bl_step (by ((repeat (first | with_reducible exact HE.out.a.bel | with_reducible exact Below.refl _ _ | with_reducible refine bl_drew ?_ | with_reducible refine bl_alloc ?_ _ | with_reducible refine bl_set ?_ (by dsimp only; omega) _)); done)) hb15); clear hb15)
    go_ret
    exact ⟨rfl, HB15.out⟩
theorem own_walk (a : AT) (vn vd : Value) (S : Nat → Prop) (w : World) (h : a.Cells w S vn vd) : Calls Try.prog 5 #[a.agg vn vd] w fun r w' => r = .returned (.bool true) ∧ Below w.heap.size w w' := by
  cases hf : fewB [a] with
  | false => exact own24_not a vn vd S w h false hf (fun h => by cases h)
  | true =>
    cases hn : isNameB a.nm with
    | false => exact own24_not a vn vd S w h true hf (fun _ => hn)
    | true => exact own_yes a vn vd S w h hf hn
end Go.Proofs.Ytbajghjdnjodmaa
