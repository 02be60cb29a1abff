/- value.Value.Copy: the same value, of its own. -/
import Derived.Test.YtbajghjdnjodmaaVAt
import Derived.Laws.OwnMore
import Derived.Deep.Onto
namespace Go.Proofs.Ytbajghjdnjodmaa
set_option linter.unusedVariables false
set_option linter.unusedSimpArgs false
open Go.RowKit

/-- Six cells of a row of the call's own are turned. -/
theorem own_six {w : World} {base : Nat} {e : TypeId} {n g cap i : Nat} {c1 r : List Value} {x0 x1 x2 x3 x4 x5 : Value} (h : w.ownsRow base e 6 (.slice (some ⟨g, 0, none⟩) n cap) n (c1 ++ (x0 :: x1 :: x2 :: x3 :: x4 :: x5 :: r))) (hl : c1.length = i * 6) (a0 a1 a2 a3 a4 a5 : Value) :
    ((((((w.setCell ⟨g, i * 6, none⟩ a0).setCell ⟨g, i * 6 + 1, none⟩ a1).setCell ⟨g, i * 6 + 2, none⟩ a2).setCell ⟨g, i * 6 + 3, none⟩ a3).setCell ⟨g, i * 6 + 4, none⟩ a4).setCell ⟨g, i * 6 + 5, none⟩ a5).ownsRow base e 6
      (.slice (some ⟨g, 0, none⟩) n cap) n ((c1 ++ [a0, a1, a2, a3, a4, a5]) ++ r) := by
  have h5 := (((((h.stored (i * 6) a0).1.stored (i * 6 + 1) a1).1.stored (i * 6 + 2) a2).1.stored (i * 6 + 3) a3).1.stored (i * 6 + 4) a4).1.stored (i * 6 + 5) a5
  have key : ∀ (c : Nat) (m : List Value) (a : Value), (c1 ++ m).set (i * 6 + c) a = c1 ++ m.set c a := fun c m a => by
    rw [List.set_append_right _ _ (by omega)]; congr 2; omega
  have e0 := key 0
  rw [Nat.add_zero] at e0
  rw [e0, key 1, key 2, key 3, key 4, key 5] at h5
  have := h5.1
  simpa using this
theorem Rows.split {α : Type} {R : α → List Value → Prop} : ∀ {l : List α} {cs : List Value} {i : Nat}, Rows R l cs → ∀ h : i < l.length, ∃ c1 x r, cs = c1 ++ (x ++ r) ∧ Rows R (l.take i) c1 ∧ R l[i] x ∧ Rows R (l.drop (i + 1)) r
  | [], _, _, _, h => by simp at h
  | a :: l, _, 0, ⟨x, r, h1, h2, h3⟩, _ => ⟨[], x, r, by simpa using h1, rfl, h2, by simpa using h3⟩
  | a :: l, _, i + 1, ⟨x, r, h1, h2, h3⟩, h => by
    obtain ⟨c1, y, r', k1, k2, k3, k4⟩ := Rows.split (i := i) h3 (by simpa using h)
    exact ⟨x ++ c1, y, r', by rw [h1, k1]; simp, ⟨x, c1, rfl, h2, k2⟩, by simpa using k3, by simpa using k4⟩
theorem Rows.head {α : Type} {R : α → List Value → Prop} {l : List α} {cs : List Value} {i : Nat} (h : Rows R (l.drop i) cs) (hi : i < l.length) : ∃ x r, cs = x ++ r ∧ R l[i] x ∧ Rows R (l.drop (i + 1)) r := by
  rw [List.drop_eq_getElem_cons hi] at h; exact h
/-- Where a value is copied: the result's box, the variable's; the items copied so far, those that are yet the old ones, the keys. -/
structure CAt (w : World) (lo : Nat → Prop) (tv : TypeId) (Z : Array Value) (T : VT) (kv rv : Value) (i : Nat) (W : World) : Prop where
  res : W.heap[w.heap.size + 1]? = some (.cells Z tv (0, 0))
  var : W.heap[w.heap.size + 2]? = some (.cells #[.int .i64 T.k, .bool T.b, .int .i64 T.n, .string T.s, rv, kv] tv (0, 0))
  bel : Below w.heap.size w W
  row : ∃ c1 c2, W.ownsRow (w.heap.size + 3) tv 6 rv T.its.length (c1 ++ c2) ∧ Rows (VT.Six W (fun g => w.heap.size + 3 ≤ g ∧ rv.ownBlock ≠ some g)) (T.its.take i) c1 ∧ Rows (VT.Six W (fun g => lo g ∧ g < w.heap.size)) (T.its.drop i) c2
  key : Sl W (fun g => w.heap.size + 3 ≤ g ∧ rv.ownBlock ≠ some g) 1 kv T.ks.length (T.ks.map .string)
/-- One item more is copied. -/
theorem CAt.step {w wr w2 : World} {lo : Nat → Prop} {tv : TypeId} {Z : Array Value} {T : VT} {kv vi vk : Value} {i g cap : Nat} (H : CAt w lo tv Z T kv (.slice (some ⟨g, 0, none⟩) T.its.length cap) i wr) (hi : i < T.its.length)
    (h2 : Below wr.heap.size wr w2) (hr : T.its[i].Rep w2 (wr.heap.size ≤ ·) vi vk) :
    CAt w lo tv Z T kv (.slice (some ⟨g, 0, none⟩) T.its.length cap) (i + 1) ((((((w2.setCell ⟨g, i * 6, none⟩ (.int .i64 T.its[i].k)).setCell ⟨g, i * 6 + 1, none⟩ (.bool T.its[i].b)).setCell ⟨g, i * 6 + 2, none⟩ (.int .i64 T.its[i].n)).setCell ⟨g, i * 6 + 3, none⟩ (.string T.its[i].s)).setCell ⟨g, i * 6 + 4, none⟩ vi).setCell ⟨g, i * 6 + 5, none⟩ vk) := by
  obtain ⟨c1, c2, r1, r2, r3⟩ := H.row
  have hg := r1.lt g rfl
  have hsz := H.bel.size
  have s2 := h2.size
  obtain ⟨x, r, e1, ⟨xi, xk, rfl, _⟩, r4⟩ := r3.head hi
  subst e1
  have hc1 : c1.length = i * 6 := by rw [r2.len six_len, List.length_take]; congr 1; omega
  have keep : ∀ {S : Nat → Prop}, (∀ b, S b → b < wr.heap.size → b ≠ g) → Kc (fun b => S b ∧ b < wr.heap.size) wr ((((((w2.setCell ⟨g, i * 6, none⟩ (.int .i64 T.its[i].k)).setCell ⟨g, i * 6 + 1, none⟩ (.bool T.its[i].b)).setCell ⟨g, i * 6 + 2, none⟩ (.int .i64 T.its[i].n)).setCell ⟨g, i * 6 + 3, none⟩ (.string T.its[i].s)).setCell ⟨g, i * 6 + 4, none⟩ vi).setCell ⟨g, i * 6 + 5, none⟩ vk) := by
    intro S hS b x t fr hs hx
    have hb := hS b hs.1 hs.2
    exact hk_set (hk_set (hk_set (hk_set (hk_set (hk_set (hk_below hx h2) hb _) hb _) hb _) hb _) hb _) hb _
  have keepn : Kc (fun b => wr.heap.size ≤ b) w2 ((((((w2.setCell ⟨g, i * 6, none⟩ (.int .i64 T.its[i].k)).setCell ⟨g, i * 6 + 1, none⟩ (.bool T.its[i].b)).setCell ⟨g, i * 6 + 2, none⟩ (.int .i64 T.its[i].n)).setCell ⟨g, i * 6 + 3, none⟩ (.string T.its[i].s)).setCell ⟨g, i * 6 + 4, none⟩ vi).setCell ⟨g, i * 6 + 5, none⟩ vk) := by
    intro b x t fr hs hx
    have hb : b ≠ g := by omega
    exact hk_set (hk_set (hk_set (hk_set (hk_set (hk_set hx hb _) hb _) hb _) hb _) hb _) hb _
  have blk : ∀ {b : Nat} {o : Obj}, b < w.heap.size + 3 → wr.heap[b]? = some o → ((((((w2.setCell ⟨g, i * 6, none⟩ (.int .i64 T.its[i].k)).setCell ⟨g, i * 6 + 1, none⟩ (.bool T.its[i].b)).setCell ⟨g, i * 6 + 2, none⟩ (.int .i64 T.its[i].n)).setCell ⟨g, i * 6 + 3, none⟩ (.string T.its[i].s)).setCell ⟨g, i * 6 + 4, none⟩ vi).setCell ⟨g, i * 6 + 5, none⟩ vk).heap[b]? = some o := by
    intro b o hb hx
    have hb' : b ≠ g := by omega
    exact hk_set (hk_set (hk_set (hk_set (hk_set (hk_set (hk_below hx h2) hb' _) hb' _) hb' _) hb' _) hb' _) hb' _
  have hgb : w.heap.size ≤ g := by omega
  refine ⟨blk (by omega) H.res, blk (by omega) H.var, bl_set (bl_set (bl_set (bl_set (bl_set (bl_set (bl_step H.bel h2) hgb _) hgb _) hgb _) hgb _) hgb _) hgb _, ⟨c1 ++ T.its[i].head vi vk, r, ?_, ?_, ?_⟩, ?_⟩
  · exact own_six (own_below r1 h2) hc1 _ _ _ _ _ _
  · rw [List.take_succ_eq_append_getElem hi]
    refine Rows.snoc ((six_keep (keep (S := fun g' => w.heap.size + 3 ≤ g' ∧ (Value.slice (some ⟨g, 0, none⟩) T.its.length cap).ownBlock ≠ some g') (fun b hb _ e => hb.2 (by rw [e]; rfl))) (six_lt r2)).mono fun _ _ h => h.go (Kc.refl _ _) fun _ _ _ _ h _ => h.1) ⟨vi, vk, rfl, (hr.keep keepn).mono fun b hb => ⟨by omega, fun e => ?_⟩⟩
    simp [Value.ownBlock] at e; omega
  · exact (six_keep (keep (S := fun g' => lo g' ∧ g' < w.heap.size) (fun b hb _ => by have := hb.2; omega)) (six_lt r4)).mono fun _ _ h => h.go (Kc.refl _ _) fun _ _ _ _ h _ => h.1
  · exact ((H.key.lt.keep (keep (S := fun g' => w.heap.size + 3 ≤ g' ∧ (Value.slice (some ⟨g, 0, none⟩) T.its.length cap).ownBlock ≠ some g') (fun b hb _ e => hb.2 (by rw [e]; rfl)))).mono fun _ h => h.1)
theorem CAt.drew {w wr : World} {lo : Nat → Prop} {tv : TypeId} {Z : Array Value} {T : VT} {kv rv : Value} {i : Nat} (H : CAt w lo tv Z T kv rv i wr) : CAt w lo tv Z T kv rv i wr.drew := by
  obtain ⟨c1, c2, r1, r2, r3⟩ := H.row
  exact ⟨H.res, H.var, bl_drew H.bel, ⟨c1, c2, r1, six_keep kc_drew r2, six_keep kc_drew r3⟩, H.key.keep kc_drew⟩
/-- All items are copied, and it is stored as the result. -/
theorem CAt.done {w wr : World} {lo : Nat → Prop} {tv : TypeId} {Z : Array Value} {T : VT} {kv rv : Value} (H : CAt w lo tv Z T kv rv T.its.length wr) {wf : World} (hk : ∀ b o, b ≠ w.heap.size + 1 → wr.heap[b]? = some o → wf.heap[b]? = some o) :
    T.Rep wf (w.heap.size ≤ ·) rv kv := by
  obtain ⟨c1, c2, r1, r2, r3⟩ := H.row
  rw [List.take_length] at r2
  rw [List.drop_length] at r3
  obtain rfl : c2 = [] := r3
  rw [List.append_nil] at r1
  have kc : Kc (fun g => w.heap.size + 3 ≤ g ∧ rv.ownBlock ≠ some g) wr wf := fun g x t fr hs hx => hk g _ (by omega) hx
  refine rep_iff.2 ⟨⟨c1, ?_, (six_keep kc r2).mono fun _ _ h => h.go (Kc.refl _ _) fun g _ _ _ hs _ => by omega⟩, (H.key.keep kc).mono fun g hs => by omega⟩
  exact ((Sl.of_own r1).keep fun g x t fr hs hx => hk g _ (by omega) hx).mono fun g h => by omega

theorem cb_below {n : Nat} {W W' : World} (h : Below W.heap.size W W') (hn : n ≤ W.heap.size) : ∀ b o, b < n → W'.cell? ⟨b, o, none⟩ = W.cell? ⟨b, o, none⟩ := fun b o hb => h.cell (p := ⟨b, o, none⟩) (by dsimp only; omega)
theorem cb_set {n : Nat} {W W' : World} (h : ∀ b o, b < n → W'.cell? ⟨b, o, none⟩ = W.cell? ⟨b, o, none⟩) {p : Addr} (hp : n ≤ p.block) (v : Value) : ∀ b o, b < n → (W'.setCell p v).cell? ⟨b, o, none⟩ = W.cell? ⟨b, o, none⟩ := fun b o hb => by
  rw [← h b o hb]
  exact World.cell?_of_block (heap_setCell_other W' p b v (by omega))
theorem cb_drew {n : Nat} {W : World} : ∀ b o, b < n → W.drew.cell? ⟨b, o, none⟩ = W.cell? ⟨b, o, none⟩ := fun _ _ _ => rfl
set_option maxRecDepth 20000 in
set_option maxHeartbeats 1000000 in
theorem vcopy_any : ∀ (k : Nat) (T : VT), T.size ≤ k → T.ok → ∀ (S : Nat → Prop) (vi vk : Value) (w : World), T.Rep w S vi vk →
    Calls Try.prog 43 #[T.agg vi vk] w fun e w' => ∃ vi' vk', e = .returned (T.agg vi' vk') ∧ T.Rep w' (w.heap.size ≤ ·) vi' vk' ∧ Below w.heap.size w w'
  | 0, T, hk, _, _, _, _, _, _ => absurd T.size_pos (by omega)
  | k + 1, T, hk, hok, S, vi, vk, w, hT => by
    obtain ⟨⟨cs, hs, hr⟩, hks⟩ := rep_iff.1 hT.lt
    obtain ⟨a, c, rfl, hc0, hc1⟩ := hs.shape
    obtain ⟨kA, kc, rfl, _, _⟩ := hks.shape
    have h39 := hok.its
    have k39 := hok.ks
    have HR := Lib.hid hr
    have HI := Lib.hid (fun (U : VT) (hU : U ∈ T.its) => vcopy_any k U (by have := VT.size_mem hU; omega) (hok.item hU))
    have HV := Lib.hid (fun (W : World) (hb : Below w.heap.size w W) => clone_v (hs.keep (kc_below hb)) (rows_one hr) (by omega))
    have HK := Lib.hid (fun (W : World) (hb : Below w.heap.size w W) => clone_s (hks.keep (kc_below hb)) (one_str _) (by omega))
    clear hs hr hT hk hok hks
    go_enter Try.func43, Try.ntmps43
    go_upto_region 2 with fail
    refine abs_world (F := fun W => W.heap[w.heap.size]? = some (.cells #[.int .i64 T.k, .bool T.b, .int .i64 T.n, .string T.s, .slice a T.its.length c, .slice kA T.ks.length kc] 30 (0, 0)) ∧ W.heap[w.heap.size + 1]? = some (.cells #[.int .i64 0, .bool false, .int .i64 0, .string ⟨#[]⟩, .slice none 0 0, .slice none 0 0] 30 (0, 0)) ∧ W.heap[w.heap.size + 2]? = some (.cells #[.int .i64 T.k, .bool T.b, .int .i64 T.n, .string T.s, .slice a T.its.length c, .slice kA T.ks.length kc] 30 (0, 0)) ∧ Below w.heap.size w W ∧ W.heap.size = w.heap.size + 3)
      ⟨by ((repeat (first | with_reducible exact new_blk _ _ | with_reducible exact new_blk1 _ _ _ | with_reducible exact new_blk2 _ _ _ _ | with_reducible refine hk_drew ?_ | with_reducible refine hk_alloc ?_ _ | with_reducible refine hk_set ?_ (by dsimp only; omega) _)); done), by ((repeat (first | with_reducible exact new_blk _ _ | with_reducible exact new_blk1 _ _ _ | with_reducible exact new_blk2 _ _ _ _ | with_reducible refine hk_drew ?_ | with_reducible refine hk_alloc ?_ _ | with_reducible refine hk_set ?_ (by dsimp only; omega) _)); done), by ((repeat (first | with_reducible exact new_blk _ _ | with_reducible exact new_blk1 _ _ _ | with_reducible exact new_blk2 _ _ _ _ | with_reducible refine hk_drew ?_ | with_reducible refine hk_alloc ?_ _ | with_reducible refine hk_set ?_ (by dsimp only; omega) _)); done), by ((repeat (first | with_reducible exact Below.refl _ _ | with_reducible refine bl_drew ?_ | with_reducible refine bl_alloc ?_ _ | with_reducible refine bl_set ?_ (by dsimp only; omega) _)); done), by simp⟩ ?_
    rintro W ⟨p1, p2, p4, pb, pz⟩
    have p3 := cell_blk p1
    have P2 := Lib.hid p2
    have PV := Lib.hid p4
    have PB := Lib.hid pb
    have PZ := Lib.hid pz
    clear p1 p2 p4 pb pz
    go_cut [8] from 5 to 13 (fun _ wx => ∃ rv kv, Hid (CAt w (fun g => S g ∧ g < w.heap.size) 30 #[.int .i64 0, .bool false, .int .i64 0, .string ⟨#[]⟩, .slice none 0 0, .slice none 0 0] T kv rv 0 wx))
    case first =>
      go_region_held3 (fun W' => ∀ b o, b < w.heap.size + 2 → W'.cell? ⟨b, o, none⟩ = W.cell? ⟨b, o, none⟩)
        (first | exact (fun _ _ _ => rfl) | exact cb_below HBs.out (by rw [PZ.out]; omega) | exact cb_below HBv.out (by rw [PZ.out]; omega) | exact cb_set (cb_below HBs.out (by rw [PZ.out]; omega)) (by dsimp only; omega) _ | exact cb_set (cb_below HBv.out (by rw [PZ.out]; omega)) (by dsimp only; omega) _ | exact cb_set (cb_set (cb_below HBs.out (by rw [PZ.out]; omega)) (Nat.le_refl _) _) (by dsimp only; omega) _ | exact cb_set (cb_set (cb_below HBv.out (by rw [PZ.out]; omega)) (by dsimp only; omega) _) (by dsimp only; omega) _)
        (first
          | (go_at_call 55; refine (HK.out W.drew (bl_drew PB.out)).mono ?_; rintro e ws ⟨kv, rfl, ho, hb⟩; obtain ⟨A1, c1, rfl⟩ := own_slice ho; have HBs : Hid (Below W.heap.size W ws) := Lib.hid (bl_step (bl_drew (Below.refl _ _)) hb); have VA := Lib.hid (hk_below (hk_drew PV.out) hb); have v1 := cell_blk VA.out; have v2 := frozen_blk VA.out; have ROs := Lib.hid ho; clear ho hb)
          | (go_at_call 56; refine (HV.out W.drew (bl_drew PB.out)).mono ?_; rintro e wv ⟨rv, rfl, ho, hb⟩; obtain ⟨A2, c2, rfl⟩ := own_slice ho; have HBv : Hid (Below W.heap.size W wv) := Lib.hid (bl_step (bl_drew (Below.refl _ _)) hb); have VA := Lib.hid (hk_below (hk_drew PV.out) hb); have v1 := cell_blk VA.out; have v2 := frozen_blk VA.out; have ROv := Lib.hid ho; clear ho hb)
          | (go_at_call 56; refine (HV.out ws (PB.out.trans (HBs.out.mono PB.out.size))).mono ?_; rintro e wv ⟨rv, rfl, ho, hb⟩; obtain ⟨A2, c2, rfl⟩ := own_slice ho; have HBv : Hid (Below W.heap.size W wv) := Lib.hid (bl_step HBs.out hb); clear v1 v2; have VB := Lib.hid (hk_below VA.out hb); have v1 := cell_blk VB.out; have v2 := frozen_blk VB.out; have ROv := Lib.hid ho; have LST := Lib.hid hb; clear ho hb)
          | (go_at_call 55; refine (HK.out wv (PB.out.trans (HBv.out.mono PB.out.size))).mono ?_; rintro e ws ⟨kv, rfl, ho, hb⟩; obtain ⟨A1, c1, rfl⟩ := own_slice ho; have HBs : Hid (Below W.heap.size W ws) := Lib.hid (bl_step HBv.out hb); clear v1 v2; have VB := Lib.hid (hk_below VA.out hb); have v1 := cell_blk VB.out; have v2 := frozen_blk VB.out; have ROs := Lib.hid ho; have LST := Lib.hid hb; clear ho hb))
      all_goals (refine ‹∀ (a : Act) (w : World), _ → _› _ _ ?_)
      all_goals go_meet
      case rel =>
        have pz := PZ.out
        have z1 : W.drew.heap.size = w.heap.size + 3 := pz
        have z2 := HBs.out.size
        have b1 := PB.out.trans (HBv.out.mono PB.out.size)
        have bw : Below w.heap.size w ((wv.setCell ⟨w.heap.size + 1 + 1, 5, none⟩ (.slice A1 T.ks.length c1)).setCell ⟨w.heap.size + 1 + 1, 4, none⟩ (.slice A2 T.its.length c2)) := bl_set (bl_set b1 (by dsimp only; omega) _) (by dsimp only; omega) _
        have hk1 := fun g hg => ROs.out.lt g hg
        have hv1 := fun g hg => ROv.out.lt g hg
        have ok1 := ownsRow_setCell_below (ownsRow_setCell_below (own_below ROs.out LST.out) (a := ⟨w.heap.size + 1 + 1, 5, none⟩) (by dsimp only; omega) (.slice A1 T.ks.length c1)) (a := ⟨w.heap.size + 1 + 1, 4, none⟩) (by dsimp only; omega) (.slice A2 T.its.length c2)
        have ok2 := ownsRow_setCell_below (ownsRow_setCell_below ROv.out (a := ⟨w.heap.size + 1 + 1, 5, none⟩) (by dsimp only; omega) (.slice A1 T.ks.length c1)) (a := ⟨w.heap.size + 1 + 1, 4, none⟩) (by dsimp only; omega) (.slice A2 T.its.length c2)
        refine ⟨_, _, Lib.hid ⟨hk_set (hk_set (hk_below P2.out HBv.out) (by dsimp only; omega) _) (by dsimp only; omega) _, set_to (set_to VB.out 5 _ rfl) 4 _ rfl, bw, ⟨[], cs, ok2.mono (by omega), by simp [Rows], by simpa using six_keep (kc_below bw) HR.out⟩, Sl.of_row ok1 fun g g1 g2 g3 => ⟨by omega, fun e => ?_⟩⟩⟩
        have := (hk1 g g3).2
        have := (hv1 g e).1
        omega
    case rest =>
      clear p3 P2 PV PB PZ HK HV
      obtain ⟨rv, kv, H0⟩ := hcut
      obtain ⟨_, _, hrow, _, _⟩ := H0.out.row
      obtain ⟨rA, rc, rfl⟩ := own_slice hrow
      have y0 := cell_blk H0.out.var
      go_wp2_with fail
      go_loopw [17] (fun q W' => ∃ i : Nat, i ≤ T.its.length ∧ q = .int .i64 i ∧ Hid (CAt w (fun g => S g ∧ g < w.heap.size) 30 #[.int .i64 0, .bool false, .int .i64 0, .string ⟨#[]⟩, .slice none 0 0, .slice none 0 0] T kv (.slice rA T.its.length rc) i W')) (fun q _ => T.its.length - (intOf q).toNat)
      case atStart => exact ⟨0, by omega, rfl, H0⟩
      case round =>
        clear y0 H0
        obtain ⟨i, hi, rfl, H⟩ := hrel
        by_cases hlt : i < T.its.length
        · obtain ⟨c1, c2, r1, r2, r3⟩ := H.out.row
          obtain ⟨g, cap, hv, _⟩ := r1.form (by omega)
          cases hv
          obtain ⟨x, r, e1, ⟨xi, xk, rfl, hx⟩, r4⟩ := r3.head hlt
          subst e1
          have hc1 : c1.length = i * 6 := by rw [r2.len six_len, List.length_take]; congr 1; omega
          obtain ⟨a1, b1, a2, b2, rfl, rfl⟩ := rep_shape hx
          have at6 : ∀ (W : World), W.ownsRow (w.heap.size + 3) 30 6 (.slice (some ⟨g, 0, none⟩) T.its.length rc) T.its.length (c1 ++ (T.its[i].head (.slice a1 T.its[i].its.length b1) (.slice a2 T.its[i].ks.length b2) ++ r)) → ∀ cc, cc < 6 → W.cell? ⟨g, i * 6 + cc, none⟩ = (T.its[i].head (.slice a1 T.its[i].its.length b1) (.slice a2 T.its[i].ks.length b2))[cc]? := fun W h cc hcc => by
            rw [h.cellAt _ (by omega), List.getElem?_append_right (by omega), hc1, Nat.add_sub_cancel_left, List.getElem?_append_left (by simpa [VT.head] using hcc)]
          have d0 := at6 wr r1 0 (by omega)
          have d1 := at6 wr r1 1 (by omega)
          have d2 := at6 wr r1 2 (by omega)
          have d3 := at6 wr r1 3 (by omega)
          have d4 := at6 wr r1 4 (by omega)
          have d5 := at6 wr r1 5 (by omega)
          simp only [VT.head, Nat.add_zero, List.getElem?_cons_zero, List.getElem?_cons_succ] at d0 d1 d2 d3 d4 d5
          have HC := Lib.hid (HI.out _ (List.getElem_mem hlt) _ _ _ wr.drew (hx.keep kc_drew))
          have R1 := Lib.hid (fun W (hb : Below wr.heap.size wr W) => own_below r1 hb)
          have A6 := Lib.hid at6
          have HV := Lib.hid H.out.var
          have y0 := cell_blk HV.out
          have l0 := hk_lt HV.out
          clear r1 r2 r3 r4 hx at6
          go_upto_region 6 with fail
          go_region_law (first | (refine step_call rfl 43 _ _ rfl (enters_of Try.func43 (by kernel_rfl) rfl) rfl HC.out ?_; rintro e' w2 ⟨wi, wk, rfl, hr2, hb2⟩; refine ⟨_, rfl, ?_⟩; obtain ⟨u1, t1, u2, t2, rfl, rfl⟩ := rep_shape hr2; have HB2 : Hid (Below wr.heap.size wr w2) := Lib.hid (bl_step (bl_drew (Below.refl _ _)) hb2); have HR2 : Hid (T.its[i].Rep w2 (wr.heap.size ≤ ·) _ _) := Lib.hid hr2; have q := R1.out _ HB2.out; have q0 := A6.out w2 q 0 (by omega); have q1 := A6.out w2 q 1 (by omega); have q2 := A6.out w2 q 2 (by omega); have q3 := A6.out w2 q 3 (by omega); have q4 := A6.out w2 q 4 (by omega); have q5 := A6.out w2 q 5 (by omega); simp only [VT.head, Nat.add_zero, List.getElem?_cons_zero, List.getElem?_cons_succ] at q0 q1 q2 q3 q4 q5; have qf := q.frozenAt; have y1 := cell_blk (hk_below HV.out HB2.out); clear q hr2 hb2))
          all_goals
            have HX := Lib.hid (CAt.step H.out hlt HB2.out HR2.out)
            clear d0 d1 d2 d3 d4 d5 y0 q0 q1 q2 q3 q4 q5 qf y1 HC R1 A6 HB2 HR2
            go_wp2_with fail
            go_roundw
            case rel => exact ⟨i + 1, by omega, by go_num, HX⟩
            case measure => simp [intOf]; omega
        · obtain rfl : i = T.its.length := by omega
          obtain ⟨kA2, kc2, rfl, _, _⟩ := H.out.key.shape
          have r1 := cell_blk H.out.res
          have r2 := frozen_blk H.out.res
          have r3 := cell_blk H.out.var
          go_wp2_with fail
          refine bodyPost_ret (v := T.agg (.slice rA T.its.length rc) (.slice kA2 T.ks.length kc2)) (by simp [results, Try.results43, go_sem, r1]) rfl ⟨_, _, rfl, ?_, ?_⟩
          · refine H.out.done fun b o hb hx => ?_
            ((repeat (first | with_reducible exact hx | with_reducible exact new_blk _ _ | with_reducible exact new_blk1 _ _ _ | with_reducible exact new_blk2 _ _ _ _ | with_reducible refine hk_drew ?_ | with_reducible refine hk_alloc ?_ _ | with_reducible refine hk_set ?_ (by dsimp only; have := hb; omega) _)); done)
          · exact (by ((repeat (first | with_reducible exact H.out.bel | with_reducible exact Below.refl _ _ | with_reducible refine bl_drew ?_ | with_reducible refine bl_alloc ?_ _ | with_reducible refine bl_set ?_ (by dsimp only; omega) _)); done))
end Go.Proofs.Ytbajghjdnjodmaa
