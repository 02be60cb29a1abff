/- The law's Entry: an act's entry, of some value. -/
import Derived.Test.YtbajghjdnjodmaaTreeW
import Derived.Test.YtbajghjdnjodmaaEnt2
import Derived.Test.YtbajghjdnjodmaaCFew
namespace Go.Proofs.Ytbajghjdnjodmaa
set_option linter.unusedVariables false
set_option linter.unusedSimpArgs false
open Go.RowKit

abbrev sS : ByteArray := ⟨#[115]⟩
def EntrySaid (S : Nat → Prop) (a : AT) (w : World) (r : Ending) (w' : World) : Prop := ∃ (e : ET) (vi vk vd : Value), r = .returned (e.agg vi vk vd) ∧ e.nm = a.nm ∧ (a.dr.length ≤ 40 → e.ok) ∧ e.Cells w' (fun x => S x ∨ w.heap.size ≤ x) vi vk vd ∧ Below w.heap.size w w'
theorem tree_any (a : AT) (vn vd : Value) (S : Nat → Prop) (w : World) (h : a.Cells w S vn vd) : Calls Try.prog 31 #[vn] w (TreeSaid w) := by
  obtain ⟨hw, ⟨cs, h1, h2⟩, _⟩ := h
  by_cases h0 : a.nodes.length = 0
  · rw [h0] at h1; exact tree_nil vn S w cs h1
  · exact tree_some a.nodes vn S w cs (by omega) hw.2.2.1 h1 h2
theorem ten_set {W : World} {B : Nat} {t : TypeId} {z0 z1 z2 z3 z4 z5 z6 z7 z8 z9 : Value} (h : W.heap[B]? = some (.cells #[z0, z1, z2, z3, z4, z5, z6, z7, z8, z9] t (0, 0))) (x0 x1 x2 x3 x4 x5 x6 x7 x8 x9 : Value) :
    ((((((((((W.setCell ⟨B, 0, none⟩ x0).setCell ⟨B, 1, none⟩ x1).setCell ⟨B, 2, none⟩ x2).setCell ⟨B, 3, none⟩ x3).setCell ⟨B, 4, none⟩ x4).setCell ⟨B, 5, none⟩ x5).setCell ⟨B, 6, none⟩ x6).setCell ⟨B, 7, none⟩ x7).setCell ⟨B, 8, none⟩ x8).setCell ⟨B, 9, none⟩ x9).heap[B]? = some (.cells #[x0, x1, x2, x3, x4, x5, x6, x7, x8, x9] t (0, 0)) := by
  have h0 := set_to h 0 x0 (cs' := #[x0, z1, z2, z3, z4, z5, z6, z7, z8, z9]) rfl
  have h1 := set_to h0 1 x1 (cs' := #[x0, x1, z2, z3, z4, z5, z6, z7, z8, z9]) rfl
  have h2 := set_to h1 2 x2 (cs' := #[x0, x1, x2, z3, z4, z5, z6, z7, z8, z9]) rfl
  have h3 := set_to h2 3 x3 (cs' := #[x0, x1, x2, x3, z4, z5, z6, z7, z8, z9]) rfl
  have h4 := set_to h3 4 x4 (cs' := #[x0, x1, x2, x3, x4, z5, z6, z7, z8, z9]) rfl
  have h5 := set_to h4 5 x5 (cs' := #[x0, x1, x2, x3, x4, x5, z6, z7, z8, z9]) rfl
  have h6 := set_to h5 6 x6 (cs' := #[x0, x1, x2, x3, x4, x5, x6, z7, z8, z9]) rfl
  have h7 := set_to h6 7 x7 (cs' := #[x0, x1, x2, x3, x4, x5, x6, x7, z8, z9]) rfl
  have h8 := set_to h7 8 x8 (cs' := #[x0, x1, x2, x3, x4, x5, x6, x7, x8, z9]) rfl
  exact set_to h8 9 x9 (cs' := #[x0, x1, x2, x3, x4, x5, x6, x7, x8, x9]) rfl
/-- The entry under way, in block B. -/
structure EntF (a : AT) (T : VT) (act : Array Value) (v1 v2 : Value) (w : World) (B : Nat) (W : World) : Prop where
  box : W.heap[B]? = some (.cells #[.string a.nm, .int .i64 T.k, .bool T.b, .int .i64 T.n, .string T.s, v1, v2, .bool a.has, .string ⟨#[]⟩, .slice none 0 0] 48 (0, 0))
  act : W.heap[w.heap.size]? = some (.cells act 41 (0, 0))
  res : W.heap[w.heap.size + 1]? = some (.cells #[.string ⟨#[]⟩, .int .i64 0, .bool false, .int .i64 0, .string ⟨#[]⟩, .slice none 0 0, .slice none 0 0, .bool false, .string ⟨#[]⟩, .slice none 0 0] 48 (0, 0))
  bel : Below w.heap.size w W
  hB : w.heap.size + 1 < B
  rep : T.Rep W (fun g => w.heap.size ≤ g ∧ g ≠ w.heap.size + 1 ∧ g ≠ B) v1 v2
/-- .. and whole, but for the result. -/
structure EntE (a : AT) (T : VT) (box : Array Value) (v1 v2 : Value) (w : World) (B : Nat) (W : World) : Prop where
  box : W.heap[B]? = some (.cells box 48 (0, 0))
  res : W.heap[w.heap.size + 1]? = some (.cells #[.string ⟨#[]⟩, .int .i64 0, .bool false, .int .i64 0, .string ⟨#[]⟩, .slice none 0 0, .slice none 0 0, .bool false, .string ⟨#[]⟩, .slice none 0 0] 48 (0, 0))
  bel : Below w.heap.size w W
  hB : w.heap.size + 1 < B
  rep : T.Rep W (fun g => w.heap.size ≤ g ∧ g ≠ w.heap.size + 1 ∧ g ≠ B) v1 v2
set_option maxRecDepth 20000 in
set_option maxHeartbeats 1000000 in
theorem entry_any (a : AT) (vn vd : Value) (S : Nat → Prop) (w : World) (h : a.Cells w S vn vd) : Calls Try.prog 17 #[a.agg vn vd] w (EntrySaid S a w) := by
  obtain ⟨a1, c1, a2, c2, rfl, rfl⟩ := act_shape h
  have HT := Lib.hid (fun (W : World) (hb : Below w.heap.size w W) => tree_any a _ _ S W (h.keep (kc_below hb)))
  have HA := Lib.hid h
  clear h
  go_enter Try.func17, Try.ntmps17
  go_upto_region 1 with fail
  refine abs_world (F := fun W => W.heap[w.heap.size]? = some (.cells #[.int .u8 a.k, .string a.nm, .slice a1 a.nodes.length c1, .bool a.has, .slice a2 a.dr.length c2] 41 (0, 0)) ∧ W.heap[w.heap.size + 1]? = some (.cells #[.string ⟨#[]⟩, .int .i64 0, .bool false, .int .i64 0, .string ⟨#[]⟩, .slice none 0 0, .slice none 0 0, .bool false, .string ⟨#[]⟩, .slice none 0 0] 48 (0, 0)) ∧ Below w.heap.size w W ∧ W.heap.size = w.heap.size + 2)
    ⟨by ((repeat (first | with_reducible exact new_blk _ _ | with_reducible exact new_blk1 _ _ _ | with_reducible exact new_blk2 _ _ _ _ | with_reducible refine hk_drew ?_ | with_reducible refine hk_alloc ?_ _ | with_reducible refine hk_set ?_ (by dsimp only; omega) _)); done), by ((repeat (first | with_reducible exact new_blk _ _ | with_reducible exact new_blk1 _ _ _ | with_reducible exact new_blk2 _ _ _ _ | with_reducible refine hk_drew ?_ | with_reducible refine hk_alloc ?_ _ | with_reducible refine hk_set ?_ (by dsimp only; omega) _)); done), by ((repeat (first | with_reducible exact Below.refl _ _ | with_reducible refine bl_drew ?_ | with_reducible refine bl_alloc ?_ _ | with_reducible refine bl_set ?_ (by dsimp only; omega) _)); done), by simp⟩ ?_
  rintro W ⟨p1, p2, pb, pz⟩
  have p3 := cell_blk p1
  have P1 := Lib.hid p1
  have P2 := Lib.hid p2
  have PB := Lib.hid pb
  have PZ := Lib.hid pz
  have z1 : w.heap.size < W.heap.size := by omega
  clear p1 p2 pb pz
  go_region_held3 (fun W' => ∀ b o, b < W.heap.size → W'.cell? ⟨b, o, none⟩ = W.cell? ⟨b, o, none⟩) (first | (refine (bcell (W := W) ?_).1; (focus ((repeat (first | with_reducible exact Below.refl _ _ | with_reducible refine bl_drew ?_ | with_reducible refine bl_alloc ?_ _ | with_reducible refine bl_set ?_ (by dsimp only; omega) _)); done))) | (refine (bcell (W := W) ?_).1; (focus ((repeat (first | with_reducible exact HB2.out | with_reducible exact Below.refl _ _ | with_reducible refine bl_drew ?_ | with_reducible refine bl_alloc ?_ _ | with_reducible refine bl_set ?_ (by dsimp only; omega) _)); done))))
    (first | (go_at_call 31; refine (HT.out _ (by ((repeat (first | with_reducible exact PB.out | with_reducible exact Below.refl _ _ | with_reducible refine bl_drew ?_ | with_reducible refine bl_alloc ?_ _ | with_reducible refine bl_set ?_ (by dsimp only; omega) _)); done))).mono ?_; rintro e' w2 ⟨T, wi, wk, rfl, hok, hr2, hb2⟩; obtain ⟨u1, t1, u2, t2, rfl, rfl⟩ := rep_shape hr2; have HB2 : Hid (Below W.heap.size W w2) := Lib.hid (bl_step (by ((repeat (first | with_reducible exact Below.refl _ _ | with_reducible refine bl_drew ?_ | with_reducible refine bl_alloc ?_ _ | with_reducible refine bl_set ?_ (by dsimp only; omega) _)); done)) hb2); have HR2 := Lib.hid hr2.lt; have HOK := Lib.hid hok; (first | (refine have_then (p := w2.heap[W.heap.size]? = some (.cells #[.string ⟨#[]⟩, .int .i64 0, .bool false, .int .i64 0, .string ⟨#[]⟩, .slice none 0 0, .slice none 0 0, .bool false, .string ⟨#[]⟩, .slice none 0 0] 48 (0, 0))) ?_ ?_; (focus (refine hk_below ?_ hb2; (focus ((repeat (first | with_reducible exact new_blk _ _ | with_reducible exact new_blk1 _ _ _ | with_reducible exact new_blk2 _ _ _ _ | with_reducible refine hk_drew ?_ | with_reducible refine hk_alloc ?_ _ | with_reducible refine hk_set ?_ (by dsimp only; omega) _)); done)))); intro rr; have RR := Lib.hid rr; have r0 := cell_blk rr; have r1 := frozen_blk rr; clear rr) | skip); clear hr2 hb2 hok))
  all_goals (refine ‹∀ (a : Act) (w : World), _ → _› _ _ ?_)
  · refine abs_world (F := EntF a T #[.int .u8 a.k, .string a.nm, .slice a1 a.nodes.length c1, .bool a.has, .slice a2 a.dr.length c2] (.slice u1 T.its.length t1) (.slice u2 T.ks.length t2) w w2.heap.size) ?_ ?_
    · have hb := HB2.out
      have pz := PZ.out
      have hs := hb.size
      have hr := HR2.out.mono (S' := fun g => w.heap.size ≤ g ∧ g ≠ w.heap.size + 1 ∧ g ≠ w2.heap.size) (fun g h => by (try simp only [World.size_drew, World.size_alloc] at h); omega)
      clear p3 z1
      exact ⟨by ((repeat (first | with_reducible exact new_blk _ _ | with_reducible exact new_blk1 _ _ _ | with_reducible exact new_blk2 _ _ _ _ | with_reducible refine hk_drew ?_ | with_reducible refine hk_alloc ?_ _ | with_reducible refine hk_set ?_ (by dsimp only; omega) _)); done), by ((repeat (first | with_reducible exact hk_below P1.out hb | with_reducible exact new_blk _ _ | with_reducible exact new_blk1 _ _ _ | with_reducible exact new_blk2 _ _ _ _ | with_reducible refine hk_drew ?_ | with_reducible refine hk_alloc ?_ _ | with_reducible refine hk_set ?_ (by dsimp only; omega) _)); done), by ((repeat (first | with_reducible exact hk_below P2.out hb | with_reducible exact new_blk _ _ | with_reducible exact new_blk1 _ _ _ | with_reducible exact new_blk2 _ _ _ _ | with_reducible refine hk_drew ?_ | with_reducible refine hk_alloc ?_ _ | with_reducible refine hk_set ?_ (by dsimp only; omega) _)); done), by ((repeat (first | with_reducible exact bl_step PB.out hb | with_reducible exact Below.refl _ _ | with_reducible refine bl_drew ?_ | with_reducible refine bl_alloc ?_ _ | with_reducible refine bl_set ?_ (by dsimp only; omega) _)); done), by omega, hr.keep (by ((repeat (first | with_reducible exact Kc.refl _ _ | with_reducible refine Kc.trans ?_ (kc_alloc _) | with_reducible refine Kc.trans ?_ kc_drew)); done))⟩
    have pz := PZ.out
    have SZ := Lib.hid (HB2.out.size)
    clear p3 z1 HR2 HB2 P1 P2 PB HT
    rintro W3 hE
    have q1 := cell_blk hE.act
    have q2 := cell_blk hE.box
    have q3 := frozen_blk hE.box
    have q4 := frozen_blk hE.res
    have q5 := cell_blk hE.res
    have hB := hE.hB
    have HE := Lib.hid hE
    clear hE pz
    cases hh : a.has with
    | true =>
      go_upto_region 3 with fail
      go_region
      all_goals
        go_upto_region 4 with fail
        refine abs_world (F := EntE a T #[.string a.nm, .int .i64 T.k, .bool T.b, .int .i64 T.n, .string T.s, .slice u1 T.its.length t1, .slice u2 T.ks.length t2, .bool a.has, .string sS, .slice a2 a.dr.length c2] (.slice u1 T.its.length t1) (.slice u2 T.ks.length t2) w w2.heap.size) ⟨set_to (set_to (by ((repeat (first | with_reducible exact HE.out.box | with_reducible exact new_blk _ _ | with_reducible exact new_blk1 _ _ _ | with_reducible exact new_blk2 _ _ _ _ | with_reducible refine hk_drew ?_ | with_reducible refine hk_alloc ?_ _ | with_reducible refine hk_set ?_ (by dsimp only; omega) _)); done)) 8 _ rfl) 9 _ rfl, by ((repeat (first | with_reducible exact HE.out.res | with_reducible exact new_blk _ _ | with_reducible exact new_blk1 _ _ _ | with_reducible exact new_blk2 _ _ _ _ | with_reducible refine hk_drew ?_ | with_reducible refine hk_alloc ?_ _ | with_reducible refine hk_set ?_ (by dsimp only; omega) _)); done), by ((repeat (first | with_reducible exact HE.out.bel | with_reducible exact Below.refl _ _ | with_reducible refine bl_drew ?_ | with_reducible refine bl_alloc ?_ _ | with_reducible refine bl_set ?_ (by dsimp only; omega) _)); done), HE.out.hB, HE.out.rep.keep ((kc_set (fun h => h.2.2 rfl) _).trans (kc_set (fun h => h.2.2 rfl) _))⟩ ?_
        clear q1 q2 q3 q4 q5
        rintro W4 hF
        have q1 := cell_blk hF.box
        have q2 := cell_blk hF.res
        have q3 := frozen_blk hF.res
        have HF := Lib.hid hF
        clear hF
        go_wp2_with fail
        refine bodyPost_ret (v := ET.agg ⟨a.nm, T, a.has, sS, a.dr⟩ (.slice u1 T.its.length t1) (.slice u2 T.ks.length t2) (.slice a2 a.dr.length c2)) (by simp [results, Try.results17, go_sem, q2, hh]) rfl ⟨⟨a.nm, T, a.has, sS, a.dr⟩, _, _, _, rfl, rfl, fun hd => ⟨HOK.out, hd⟩, ⟨(HF.out.rep.keep (kc_ten (fun h => h.2.1 rfl) _ _ _ _ _ _ _ _ _ _)).mono fun _ h => .inr h.1, ?_⟩, ?_⟩
        · exact ((HA.out.2.2.lt.keep (kc_belowN HF.out.bel fun g h => h.2)).keep (kc_ten (fun h => by have := h.2; omega) _ _ _ _ _ _ _ _ _ _)).mono fun _ h => .inl h.1
        · exact (by ((repeat (first | with_reducible exact HF.out.bel | with_reducible exact Below.refl _ _ | with_reducible refine bl_drew ?_ | with_reducible refine bl_alloc ?_ _ | with_reducible refine bl_set ?_ (by dsimp only; omega) _)); done))
    | false =>
      go_wp2_with fail
      refine bodyPost_ret (v := ET.agg ⟨a.nm, T, a.has, ⟨#[]⟩, []⟩ (.slice u1 T.its.length t1) (.slice u2 T.ks.length t2) (.slice none 0 0)) (by simp [results, Try.results17, go_sem, q5, hh]) rfl ⟨⟨a.nm, T, a.has, ⟨#[]⟩, []⟩, _, _, _, rfl, rfl, fun _ => ⟨HOK.out, Nat.zero_le _⟩, ⟨(HE.out.rep.keep (kc_ten (fun h => h.2.1 rfl) _ _ _ _ _ _ _ _ _ _)).mono fun _ h => .inr h.1, Sl.nil⟩, ?_⟩
      exact (by ((repeat (first | with_reducible exact HE.out.bel | with_reducible exact Below.refl _ _ | with_reducible refine bl_drew ?_ | with_reducible refine bl_alloc ?_ _ | with_reducible refine bl_set ?_ (by dsimp only; omega) _)); done))
  · refine abs_world (F := EntF a T #[.int .u8 a.k, .string a.nm, .slice a1 a.nodes.length c1, .bool a.has, .slice a2 a.dr.length c2] (.slice u1 T.its.length t1) (.slice u2 T.ks.length t2) w W.heap.size) ?_ ?_
    · have hb := HB2.out
      have pz := PZ.out
      have hs := hb.size
      have hr := HR2.out.mono (S' := fun g => w.heap.size ≤ g ∧ g ≠ w.heap.size + 1 ∧ g ≠ W.heap.size) (fun g h => by (try simp only [World.size_drew, World.size_alloc] at h); omega)
      have h1 := hk_below P1.out hb
      have h2 := hk_below P2.out hb
      have h3 := bl_step PB.out hb
      clear p3 z1 r0 r1
      exact ⟨ten_set RR.out _ _ _ _ _ _ _ _ _ _, by ((repeat (first | with_reducible exact h1 | with_reducible exact new_blk _ _ | with_reducible exact new_blk1 _ _ _ | with_reducible exact new_blk2 _ _ _ _ | with_reducible refine hk_drew ?_ | with_reducible refine hk_alloc ?_ _ | with_reducible refine hk_set ?_ (by dsimp only; omega) _)); done), by ((repeat (first | with_reducible exact h2 | with_reducible exact new_blk _ _ | with_reducible exact new_blk1 _ _ _ | with_reducible exact new_blk2 _ _ _ _ | with_reducible refine hk_drew ?_ | with_reducible refine hk_alloc ?_ _ | with_reducible refine hk_set ?_ (by dsimp only; omega) _)); done), by ((repeat (first | with_reducible exact h3 | with_reducible exact Below.refl _ _ | with_reducible refine bl_drew ?_ | with_reducible refine bl_alloc ?_ _ | with_reducible refine bl_set ?_ (by dsimp only; omega) _)); done), by omega, hr.keep (kc_ten (fun h => h.2.2 rfl) _ _ _ _ _ _ _ _ _ _)⟩
    have pz := PZ.out
    have SZ := Lib.hid (HB2.out.size)
    clear p3 z1 HR2 HB2 P1 P2 PB HT r0 r1 RR
    rintro W3 hE
    have q1 := cell_blk hE.act
    have q2 := cell_blk hE.box
    have q3 := frozen_blk hE.box
    have q4 := frozen_blk hE.res
    have q5 := cell_blk hE.res
    have hB := hE.hB
    have HE := Lib.hid hE
    clear hE pz
    cases hh : a.has with
    | true =>
      go_upto_region 3 with fail
      go_region
      all_goals
        go_upto_region 4 with fail
        refine abs_world (F := EntE a T #[.string a.nm, .int .i64 T.k, .bool T.b, .int .i64 T.n, .string T.s, .slice u1 T.its.length t1, .slice u2 T.ks.length t2, .bool a.has, .string sS, .slice a2 a.dr.length c2] (.slice u1 T.its.length t1) (.slice u2 T.ks.length t2) w W.heap.size) ⟨set_to (set_to (by ((repeat (first | with_reducible exact HE.out.box | with_reducible exact new_blk _ _ | with_reducible exact new_blk1 _ _ _ | with_reducible exact new_blk2 _ _ _ _ | with_reducible refine hk_drew ?_ | with_reducible refine hk_alloc ?_ _ | with_reducible refine hk_set ?_ (by dsimp only; omega) _)); done)) 8 _ rfl) 9 _ rfl, by ((repeat (first | with_reducible exact HE.out.res | with_reducible exact new_blk _ _ | with_reducible exact new_blk1 _ _ _ | with_reducible exact new_blk2 _ _ _ _ | with_reducible refine hk_drew ?_ | with_reducible refine hk_alloc ?_ _ | with_reducible refine hk_set ?_ (by dsimp only; omega) _)); done), by ((repeat (first | with_reducible exact HE.out.bel | with_reducible exact Below.refl _ _ | with_reducible refine bl_drew ?_ | with_reducible refine bl_alloc ?_ _ | with_reducible refine bl_set ?_ (by dsimp only; omega) _)); done), HE.out.hB, HE.out.rep.keep ((kc_set (fun h => h.2.2 rfl) _).trans (kc_set (fun h => h.2.2 rfl) _))⟩ ?_
        clear q1 q2 q3 q4 q5
        rintro W4 hF
        have q1 := cell_blk hF.box
        have q2 := cell_blk hF.res
        have q3 := frozen_blk hF.res
        have HF := Lib.hid hF
        clear hF
        go_wp2_with fail
        refine bodyPost_ret (v := ET.agg ⟨a.nm, T, a.has, sS, a.dr⟩ (.slice u1 T.its.length t1) (.slice u2 T.ks.length t2) (.slice a2 a.dr.length c2)) (by simp [results, Try.results17, go_sem, q2, hh]) rfl ⟨⟨a.nm, T, a.has, sS, a.dr⟩, _, _, _, rfl, rfl, fun hd => ⟨HOK.out, hd⟩, ⟨(HF.out.rep.keep (kc_ten (fun h => h.2.1 rfl) _ _ _ _ _ _ _ _ _ _)).mono fun _ h => .inr h.1, ?_⟩, ?_⟩
        · exact ((HA.out.2.2.lt.keep (kc_belowN HF.out.bel fun g h => h.2)).keep (kc_ten (fun h => by have := h.2; omega) _ _ _ _ _ _ _ _ _ _)).mono fun _ h => .inl h.1
        · exact (by ((repeat (first | with_reducible exact HF.out.bel | with_reducible exact Below.refl _ _ | with_reducible refine bl_drew ?_ | with_reducible refine bl_alloc ?_ _ | with_reducible refine bl_set ?_ (by dsimp only; omega) _)); done))
    | false =>
      go_wp2_with fail
      refine bodyPost_ret (v := ET.agg ⟨a.nm, T, a.has, ⟨#[]⟩, []⟩ (.slice u1 T.its.length t1) (.slice u2 T.ks.length t2) (.slice none 0 0)) (by simp [results, Try.results17, go_sem, q5, hh]) rfl ⟨⟨a.nm, T, a.has, ⟨#[]⟩, []⟩, _, _, _, rfl, rfl, fun _ => ⟨HOK.out, Nat.zero_le _⟩, ⟨(HE.out.rep.keep (kc_ten (fun h => h.2.1 rfl) _ _ _ _ _ _ _ _ _ _)).mono fun _ h => .inr h.1, Sl.nil⟩, ?_⟩
      exact (by ((repeat (first | with_reducible exact HE.out.bel | with_reducible exact Below.refl _ _ | with_reducible refine bl_drew ?_ | with_reducible refine bl_alloc ?_ _ | with_reducible refine bl_set ?_ (by dsimp only; omega) _)); done))
end Go.Proofs.Ytbajghjdnjodmaa
