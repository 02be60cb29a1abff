/- The law's do: whatever an act is. -/
import Derived.Test.YtbajghjdnjodmaaCDoB
import Derived.Test.YtbajghjdnjodmaaEntry
namespace Go.Proofs.Ytbajghjdnjodmaa
set_option linter.unusedVariables false
set_option linter.unusedSimpArgs false
open Go.RowKit

theorem but_cells {m b : Nat} {w w' : World} {l : List ET} {S : Nat → Prop} {cs : Array Value} {t : TypeId} (h : But m w w') (hs : Syn w S m l) (hb : w.heap[b]? = some (.cells cs t (0, 0))) : w'.heap[b]? = some (.cells cs t (0, 0)) := by
  obtain ⟨es, c, hm⟩ := hs.isMap
  exact but_blk h hb (fun e => by rw [e, hm] at hb; cases hb)
theorem DoSaid.up {S S' : Nat → Prop} {m : Nat} {w : World} {r : Ending} {w' : World} (h : DoSaid S m w r w') (k : ∀ g, S g → S' g) : DoSaid S' m w r w' := by
  obtain ⟨lv, l, h1, h2, h3, h4, h5⟩ := h
  exact ⟨lv, l, h1, h2.go (Kc.refl _ _) (fun x _ _ _ h _ => h.imp (k x) id), h3, h4.mono (fun x h => h.imp (k x) id), h5⟩
theorem two_of {W : World} {b b' : Nat} {cs cs' : Array Value} {t t' : TypeId} (h : W.heap[b]? = some (.cells cs t (0, 0))) (h' : W.heap[b']? = some (.cells cs' t' (0, 0))) :
    W.heap[b]? = some (.cells cs t (0, 0)) ∧ W.heap[b']? = some (.cells cs' t' (0, 0)) ∧ (∀ j, W.cell? ⟨b, j, none⟩ = cs[j]?) ∧ ∀ j, W.cell? ⟨b', j, none⟩ = cs'[j]? := ⟨h, h', cell_blk h, cell_blk h'⟩
section
variable (g m : Nat) (l : List ET) (lv : Value) (a : AT) (vn vd : Value) (S S' : Nat → Prop) (w : World)
set_option maxRecDepth 20000 in
set_option maxHeartbeats 1000000 in
theorem do_put (q : Int) (hq : a.k % 4 = q) (hq2 : q = 0 ∨ q = 1) (h0 : 0 ≤ a.k) (h255 : a.k ≤ 255) (hsz : a.nm.size ≤ 9223372036854775807) (hdr : a.dr.length ≤ 40) (ha : a.Cells w S' vn vd) (hg : w.heap[g]? = some (.cells #[.map (some m)] 69 (0, 0))) (h : Syn w S m l) (hd : DocOk l) (hD : Doc w S lv l) :
    Calls Try.prog 26 #[.pointer (some ⟨g, 0, none⟩), lv, a.agg vn vd] w (DoSaid (fun x => S x ∨ S' x) m w) := by
  have hq1 := rem4 h0 hq
  have e2 : (q == 2) = false := by rcases hq2 with rfl | rfl <;> rfl
  have e3 : (q == 3) = false := by rcases hq2 with rfl | rfl <;> rfl
  have HE := Lib.hid (fun (W : World) (hb : Below w.heap.size w W) => entry_any a vn vd S' W (ha.keep (kc_below hb)))
  have HP := Lib.hid (fun (W : World) (hb : Below w.heap.size w W) (e : ET) (vi vk vd : Value) (hn : e.nm = a.nm) (hc : e.Cells W (fun x => S' x ∨ w.heap.size ≤ x) vi vk vd) => put24_any l lv e S _ vi vk vd W (hD.below hb) hc (by rw [hn]; exact hsz) hd.len)
  have HC := Lib.hid (fun (W : World) (hb : Below w.heap.size w W) (e : ET) (S2 : Nat → Prop) (vi vk vd : Value) (hn : e.nm = a.nm) (ho : e.ok) (hc : e.Cells W S2 vi vk vd) => (show Calls Try.prog 11 #[.pointer (some ⟨g, 0, none⟩), .string a.nm, e.ent vi vk vd] W _ from hn ▸ cput_any g m l e S S2 vi vk vd W (hk_below hg hb) (h.below hb) hd hc ho (by rw [hn]; exact hsz)))
  have HS := Lib.hid h
  have HO := Lib.hid (fun (e : ET) (hn : e.nm = a.nm) (ho : e.ok) => put_ok24 hd (e := e) (by rw [hn]; exact hsz) ho)
  have HDR := Lib.hid hdr
  clear hg h hd hD hq hq2 ha hdr
  go_enter Try.func26, Try.ntmps26
  go_upto_region 13 with (first
    | (go_at_call 17; refine (HE.out _ (by ((repeat (first | with_reducible exact Below.refl _ _ | with_reducible refine bl_drew ?_ | with_reducible refine bl_alloc ?_ _ | with_reducible refine bl_set ?_ (by dsimp only; omega) _)); done))).mono ?_; rintro e' w1 ⟨e, yi, yk, yd, rfl, hnm, hok, hc1, hb1⟩; obtain ⟨u1, t1, u2, t2, u3, t3, rfl, rfl, rfl⟩ := cells_shape hc1; have HC1 := Lib.hid hc1; have HN := Lib.hid hnm; have HOK := Lib.hid (hok HDR.out); have HB1 : Hid (Below w.heap.size w w1) := Lib.hid (bl_step (by ((repeat (first | with_reducible exact Below.refl _ _ | with_reducible refine bl_drew ?_ | with_reducible refine bl_alloc ?_ _ | with_reducible refine bl_set ?_ (by dsimp only; omega) _)); done)) hb1); have P1 := hk_below (by ((repeat (first | with_reducible exact new_blk _ _ | with_reducible exact new_blk1 _ _ _ | with_reducible exact new_blk2 _ _ _ _ | with_reducible refine hk_drew ?_ | with_reducible refine hk_alloc ?_ _ | with_reducible refine hk_set ?_ (by dsimp only; omega) _)); done) : _ = some (Obj.cells #[.int .u8 a.k, .string a.nm, vn, .bool a.has, vd] 41 (0, 0))) hb1; have HP1 := Lib.hid P1; have c1 := cell_blk P1; have s1 := hk_lt P1; clear hb1 P1 hc1 hnm hok)
    | (go_at_call 42; refine (HP.out _ (by ((repeat (first | with_reducible exact HB1.out | with_reducible exact Below.refl _ _ | with_reducible refine bl_drew ?_ | with_reducible refine bl_alloc ?_ _ | with_reducible refine bl_set ?_ (by dsimp only; omega) _)); done)) e _ _ _ HN.out ((HC1.out.mono fun x h => h.imp id fun h => Nat.le_trans (by simp) h).keep (by ((repeat (first | with_reducible exact Kc.refl _ _ | with_reducible refine Kc.trans ?_ (kc_alloc _) | with_reducible refine Kc.trans ?_ kc_drew)); done)))).mono ?_; rintro e' w2 ⟨lv', rfl, hdoc, hb2⟩; have HB2 : Hid (Below w1.heap.size w1 w2) := Lib.hid (bl_step (by ((repeat (first | with_reducible exact Below.refl _ _ | with_reducible refine bl_drew ?_ | with_reducible refine bl_alloc ?_ _ | with_reducible refine bl_set ?_ (by dsimp only; omega) _)); done)) hb2); have P2 := hk_below (by ((repeat (first | with_reducible exact new_blk _ _ | with_reducible exact new_blk1 _ _ _ | with_reducible exact new_blk2 _ _ _ _ | with_reducible refine hk_drew ?_ | with_reducible refine hk_alloc ?_ _ | with_reducible refine hk_set ?_ (by dsimp only; omega) _)); done) : _ = some (Obj.cells #[.string e.nm, .int .i64 e.v.k, .bool e.v.b, .int .i64 e.v.n, .string e.v.s, .slice u1 e.v.its.length t1, .slice u2 e.v.ks.length t2, .bool e.has, .string e.st, .slice u3 e.dr.length t3] 48 (0, 0))) hb2; have HP2 := Lib.hid P2; have s2 := hk_lt P2; have HDoc := Lib.hid (hdoc.go (S' := fun x => (S x ∨ S' x) ∨ w.heap.size ≤ x) (Kc.refl _ _) (fun x _ _ _ h _ => h.elim (fun h => .inl (.inl h)) (fun h => h.elim (fun h => h.elim (fun h => .inl (.inr h)) (fun h => .inr h)) (fun h => .inr (Nat.le_trans HB1.out.size (Nat.le_trans (by simp) h)))))); clear hb2 P2 hdoc))
  have z0 := cell_blk (hk_below HP1.out HB2.out)
  have z1 := hk_lt (hk_below HP1.out HB2.out)
  have z2 := cell_blk HP2.out
  have HCW := Lib.hid (HC1.out.keep (kc_below HB2.out))
  have HW := Lib.hid (bl_step HB1.out HB2.out)
  have Q1 := Lib.hid (hk_below HP1.out HB2.out)
  clear c1 s1
  go_region_held3 (fun W' => W'.heap[w.heap.size]? = some (.cells #[.int .u8 a.k, .string a.nm, vn, .bool a.has, vd] 41 (0, 0)) ∧ W'.heap[w1.heap.size]? = some (.cells #[.string e.nm, .int .i64 e.v.k, .bool e.v.b, .int .i64 e.v.n, .string e.v.s, .slice u1 e.v.its.length t1, .slice u2 e.v.ks.length t2, .bool e.has, .string e.st, .slice u3 e.dr.length t3] 48 (0, 0)) ∧ (∀ j, W'.cell? ⟨w.heap.size, j, none⟩ = (#[.int .u8 a.k, .string a.nm, vn, .bool a.has, vd] : Array Value)[j]?) ∧ (∀ j, W'.cell? ⟨w1.heap.size, j, none⟩ = (#[.string e.nm, .int .i64 e.v.k, .bool e.v.b, .int .i64 e.v.n, .string e.v.s, .slice u1 e.v.its.length t1, .slice u2 e.v.ks.length t2, .bool e.has, .string e.st, .slice u3 e.dr.length t3] : Array Value)[j]?))
    (first | exact two_of Q1.out HP2.out | exact two_of (but_cells HBT.out (HS.out.below (bl_step HW.out H5.out)) (hk_below Q1.out H5.out)) (but_cells HBT.out (HS.out.below (bl_step HW.out H5.out)) (hk_below HP2.out H5.out)) | exact two_of (hk_below Q1.out H5.out) (hk_below HP2.out H5.out))
    (first
      | (go_at_call 18; refine (real24_any e HOK.out _ _ _ _ _ (HCW.out.keep (kc_below (by ((repeat (first | with_reducible exact Below.refl _ _ | with_reducible refine bl_drew ?_ | with_reducible refine bl_alloc ?_ _ | with_reducible refine bl_set ?_ (by dsimp only; omega) _)); done))))).mono ?_; rintro e' w3 ⟨ri, rk, rd, rfl, hc3, hb3⟩; have H5 : Hid (Below w2.heap.size w2 w3) := Lib.hid (bl_step (by ((repeat (first | with_reducible exact Below.refl _ _ | with_reducible refine bl_drew ?_ | with_reducible refine bl_alloc ?_ _ | with_reducible refine bl_set ?_ (by dsimp only; omega) _)); done)) hb3); have HC3 := Lib.hid hc3; clear hb3 hc3)
      | (go_at_call 11; refine (HC.out w3 (bl_step HW.out H5.out) e _ _ _ _ HN.out HOK.out HC3.out).mono ?_; rintro e' w4 ⟨rfl, hsy, hbut⟩; have HY := Lib.hid hsy; have HBT := Lib.hid hbut; clear hsy hbut))
  all_goals (refine ‹∀ (a : Act) (w : World), _ → _› _ _ ?_)
  all_goals
    have HLE := Lib.hid (HB1.out.size)
    have HLE2 := Lib.hid (HB2.out.size)
    have HLE3 := Lib.hid (H5.out.size)
    clear z0 z1 z2 s2
    go_wp2
    go_ret2
    exact ⟨_, _, ret2 rfl (by simp), doc_but (HDoc.out.below H5.out) (HS.out.below (bl_step HW.out H5.out)) HBT.out, HO.out e HN.out HOK.out, HY.out.mono (fun x h => h.elim (fun h => .inl (.inl h)) (fun h => .inr (Nat.le_trans HLE.out (Nat.le_trans HLE2.out (Nat.le_trans HLE3.out h))))), (but_below (bl_step HW.out H5.out)).trans HBT.out⟩
/-- Whatever an act is. -/
theorem do_any (hsz : a.nm.size ≤ 40) (hdr : a.dr.length ≤ 40) (ha : a.Cells w S' vn vd) (hg : w.heap[g]? = some (.cells #[.map (some m)] 69 (0, 0))) (h : Syn w S m l) (hd : DocOk l) (hD : Doc w S lv l) :
    Calls Try.prog 26 #[.pointer (some ⟨g, 0, none⟩), lv, a.agg vn vd] w (DoSaid (fun x => S x ∨ S' x) m w) := by
  have h0 := ha.1.1.1
  have h1 := ha.1.1.2
  rcases (by omega : a.k % 4 = 0 ∨ a.k % 4 = 1 ∨ a.k % 4 = 2 ∨ a.k % 4 = 3) with hq | hq | hq | hq
  · exact do_put g m l lv a vn vd S S' w 0 hq (.inl rfl) h0 h1 (by omega) hdr ha hg h hd hD
  · exact do_put g m l lv a vn vd S S' w 1 hq (.inr rfl) h0 h1 (by omega) hdr ha hg h hd hD
  · exact (do_drop g m l lv a vn vd S w hq h0 h1 (by omega) hg h hd hD).mono fun _ _ h => h.up fun _ h => .inl h
  · cases hf : findF a.nm l 0 with
    | none => exact (do_none g m l lv a vn vd S w hq h0 h1 (by omega) hg h hd hD hf).mono fun _ _ h => h.up fun _ h => .inl h
    | some k =>
      obtain ⟨j, e, hj, hk, hn, _⟩ := findF_at hf
      obtain rfl : j = k := by omega
      have hlt := (List.getElem?_eq_some_iff.1 hk).1
      have he : l[j] = e := by rw [List.getElem?_eq_getElem hlt] at hk; exact Option.some.inj hk
      exact (do_some g m l lv a vn vd S w j hlt (by rw [he]; exact hn) hf hq h0 h1 (by omega) hg h hd hD).mono fun _ _ h => h.up fun _ h => .inl h
end
end Go.Proofs.Ytbajghjdnjodmaa
