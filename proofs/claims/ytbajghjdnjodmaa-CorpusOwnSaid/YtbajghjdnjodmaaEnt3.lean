/- A copy of an entry; the place of a name among entries. -/
import Derived.Test.YtbajghjdnjodmaaEnt2
namespace Go.Proofs.Ytbajghjdnjodmaa
set_option linter.unusedVariables false
set_option linter.unusedSimpArgs false
open Go.RowKit

theorem kc_seven {w : World} {S : Nat → Prop} {B : Nat} (hB : ¬ S B) (x0 x1 x2 x3 x4 x5 x6 : Value) : Kc S w (((((((w.setCell ⟨B, 0, none⟩ x0).setCell ⟨B, 1, none⟩ x1).setCell ⟨B, 2, none⟩ x2).setCell ⟨B, 3, none⟩ x3).setCell ⟨B, 4, none⟩ x4).setCell ⟨B, 5, none⟩ x5).setCell ⟨B, 8, none⟩ x6) :=
  (((((((kc_set hB _).trans (kc_set hB _)).trans (kc_set hB _)).trans (kc_set hB _)).trans (kc_set hB _)).trans (kc_set hB _)).trans (kc_set hB _))
theorem seven_set {W : World} {B : Nat} {t : TypeId} {z0 z1 z2 z3 z4 z5 z6 z7 z8 : Value} (h : W.heap[B]? = some (.cells #[z0, z1, z2, z3, z4, z5, z6, z7, z8] t (0, 0))) (x0 x1 x2 x3 x4 x5 x6 : Value) :
    (((((((W.setCell ⟨B, 0, none⟩ x0).setCell ⟨B, 1, none⟩ x1).setCell ⟨B, 2, none⟩ x2).setCell ⟨B, 3, none⟩ x3).setCell ⟨B, 4, none⟩ x4).setCell ⟨B, 5, none⟩ x5).setCell ⟨B, 8, none⟩ x6).heap[B]? = some (.cells #[x0, x1, x2, x3, x4, x5, z6, z7, x6] t (0, 0)) := by
  have h0 := set_to h 0 x0 (cs' := #[x0, z1, z2, z3, z4, z5, z6, z7, z8]) rfl
  have h1 := set_to h0 1 x1 (cs' := #[x0, x1, z2, z3, z4, z5, z6, z7, z8]) rfl
  have h2 := set_to h1 2 x2 (cs' := #[x0, x1, x2, z3, z4, z5, z6, z7, z8]) rfl
  have h3 := set_to h2 3 x3 (cs' := #[x0, x1, x2, x3, z4, z5, z6, z7, z8]) rfl
  have h4 := set_to h3 4 x4 (cs' := #[x0, x1, x2, x3, x4, z5, z6, z7, z8]) rfl
  have h5 := set_to h4 5 x5 (cs' := #[x0, x1, x2, x3, x4, x5, z6, z7, z8]) rfl
  have h6 := set_to h5 8 x6 (cs' := #[x0, x1, x2, x3, x4, x5, z6, z7, x6]) rfl
  exact h6
set_option maxRecDepth 20000 in
set_option maxHeartbeats 1000000 in
theorem copied_any (e : ET) (hok : e.ok) (S : Nat → Prop) (vi vk vd : Value) (w : World) (hc : e.Cells w S vi vk vd) :
    Calls Try.prog 29 #[e.ent vi vk vd] w fun r w' => ∃ vi' vk' vd', r = .returned (e.ent vi' vk' vd') ∧ e.Cells w' (w.heap.size ≤ ·) vi' vk' vd' ∧ Below w.heap.size w w' := by
  obtain ⟨a1, b1, a2, b2, a3, b3, rfl, rfl, rfl⟩ := cells_shape hc
  have HI := Lib.hid (fun (W : World) (hb : Below w.heap.size w W) => vcopy_any _ e.v (Nat.le_refl _) hok.1 S _ _ W (hc.1.keep (kc_below hb)))
  have HK := Lib.hid (fun (W : World) (hb : Below w.heap.size w W) => clone_i (hc.2.keep (kc_below hb)) (one_int _) hok.2)
  clear hc hok
  go_enter Try.func29, Try.ntmps29
  go_upto_region 1 with fail
  refine abs_world (F := fun W => W.heap[w.heap.size]? = some (.cells #[.int .i64 e.v.k, .bool e.v.b, .int .i64 e.v.n, .string e.v.s, .slice a1 e.v.its.length b1, .slice a2 e.v.ks.length b2, .bool e.has, .string e.st, .slice a3 e.dr.length b3] 33 (0, 0)) ∧ W.heap[w.heap.size + 1]? = some (.cells #[.int .i64 0, .bool false, .int .i64 0, .string ⟨#[]⟩, .slice none 0 0, .slice none 0 0, .bool false, .string ⟨#[]⟩, .slice none 0 0] 33 (0, 0)) ∧ Below w.heap.size w W ∧ W.heap.size = w.heap.size + 2)
    ⟨by ((repeat (first | with_reducible exact new_blk _ _ | with_reducible exact new_blk1 _ _ _ | with_reducible exact new_blk2 _ _ _ _ | with_reducible refine hk_drew ?_ | with_reducible refine hk_alloc ?_ _ | with_reducible refine hk_set ?_ (by dsimp only; omega) _)); done), by ((repeat (first | with_reducible exact new_blk _ _ | with_reducible exact new_blk1 _ _ _ | with_reducible exact new_blk2 _ _ _ _ | with_reducible refine hk_drew ?_ | with_reducible refine hk_alloc ?_ _ | with_reducible refine hk_set ?_ (by dsimp only; omega) _)); done), by ((repeat (first | with_reducible exact Below.refl _ _ | with_reducible refine bl_drew ?_ | with_reducible refine bl_alloc ?_ _ | with_reducible refine bl_set ?_ (by dsimp only; omega) _)); done), by simp⟩ ?_
  rintro W ⟨p1, p2, pb, pz⟩
  have p3 := cell_blk p1
  have P1 := Lib.hid p1
  have P2 := Lib.hid p2
  have PB := Lib.hid pb
  have PZ := Lib.hid pz
  clear p1 p2 pb pz
  go_region_law
    (first
      | (refine step_call rfl 44 _ _ rfl (enters_of Try.func44 (by kernel_rfl) rfl) rfl (HK.out w2 (PB.out.trans (HB2.out.mono PB.out.size))) ?_; rintro e' w3 ⟨v, rfl, ho, hb3⟩; refine ⟨_, rfl, ?_⟩; obtain ⟨vA, vc, rfl⟩ := own_slice ho; have HB3 := Lib.hid hb3; have HO3 := Lib.hid ho; have q0 := cell_blk (hk_below (hk_below P1.out HB2.out) hb3); have q1 := frozen_blk (hk_below (hk_below P1.out HB2.out) hb3); clear ho hb3)
      | (refine step_call rfl 43 _ _ rfl (enters_of Try.func43 (by kernel_rfl) rfl) rfl (HI.out W.drew (bl_drew PB.out)) ?_; rintro e' w2 ⟨wi, wk, rfl, hr2, hb2⟩; refine ⟨_, rfl, ?_⟩; obtain ⟨u1, t1, u2, t2, rfl, rfl⟩ := rep_shape hr2; have HB2 : Hid (Below W.heap.size W w2) := Lib.hid (bl_step (bl_drew (Below.refl _ _)) hb2); have HR2 := Lib.hid hr2; have r0 := cell_blk (hk_below (hk_drew P1.out) hb2); clear hr2 hb2))
  all_goals (refine ‹∀ (a : Act) (w : World), _ → _› _ _ ?_)
  all_goals
    have pz := PZ.out
    have s2 := HB2.out.size
    have s3 := HB3.out.size
    have hz : W.drew.heap.size = w.heap.size + 2 := PZ.out
    have bw := bl_step (PB.out.trans (HB2.out.mono PB.out.size)) HB3.out
    refine abs_world (F := fun W' => W'.heap[w.heap.size]? = some (.cells #[.int .i64 e.v.k, .bool e.v.b, .int .i64 e.v.n, .string e.v.s, .slice u1 e.v.its.length t1, .slice u2 e.v.ks.length t2, .bool e.has, .string e.st, .slice vA e.dr.length vc] 33 (0, 0)) ∧ W'.heap[w.heap.size + 1]? = some (.cells #[.int .i64 0, .bool false, .int .i64 0, .string ⟨#[]⟩, .slice none 0 0, .slice none 0 0, .bool false, .string ⟨#[]⟩, .slice none 0 0] 33 (0, 0)) ∧ Below w.heap.size w W' ∧ e.Cells W' (fun g => w.heap.size + 2 ≤ g) (.slice u1 e.v.its.length t1) (.slice u2 e.v.ks.length t2) (.slice vA e.dr.length vc)) ⟨?_, ?_, ?_, ?_, ?_⟩ ?_
    · exact seven_set (hk_below (hk_below P1.out HB2.out) HB3.out) _ _ _ _ _ _ _
    · have h2 := hk_below (hk_below P2.out HB2.out) HB3.out
      clear p3 r0 q0 q1
      ((repeat (first | with_reducible exact h2 | with_reducible exact new_blk _ _ | with_reducible exact new_blk1 _ _ _ | with_reducible exact new_blk2 _ _ _ _ | with_reducible refine hk_drew ?_ | with_reducible refine hk_alloc ?_ _ | with_reducible refine hk_set ?_ (by dsimp only; omega) _)); done)
    · clear p3 r0 q0 q1
      ((repeat (first | with_reducible exact bw | with_reducible exact Below.refl _ _ | with_reducible refine bl_drew ?_ | with_reducible refine bl_alloc ?_ _ | with_reducible refine bl_set ?_ (by dsimp only; omega) _)); done)
    · clear p3 r0 q0 q1
      exact ((HR2.out.keep (kc_below HB3.out)).mono (S' := fun g => w.heap.size + 2 ≤ g) (fun g h => by omega)).keep (kc_seven (fun h => by omega) _ _ _ _ _ _ _)
    · clear p3 r0 q0 q1
      exact ((Sl.of_own HO3.out).mono (S' := fun g => w.heap.size + 2 ≤ g) (fun g h => by omega)).keep (kc_seven (fun h => by omega) _ _ _ _ _ _ _)
    clear p3 r0 q0 q1 PZ PB HB2 HB3 pz s2 s3 hz bw P1 P2 HR2 HO3
    rintro W' ⟨g1, g2, g3, g4⟩
    have c1 := cell_blk g1
    have c2 := cell_blk g2
    have f2 := frozen_blk g2
    have G3 := Lib.hid g3
    have G4 := Lib.hid g4
    clear g1 g2 g3 g4
    go_wp2_with fail
    refine bodyPost_ret (v := e.ent (.slice u1 e.v.its.length t1) (.slice u2 e.v.ks.length t2) (.slice vA e.dr.length vc)) (by simp [results, Try.results29, go_sem, c2]) rfl ⟨_, _, _, rfl, ⟨(G4.out.1.keep (kc_nine (fun h => by omega) _ _ _ _ _ _ _ _ _)).mono fun _ h => by omega, (G4.out.2.keep (kc_nine (fun h => by omega) _ _ _ _ _ _ _ _ _)).mono fun _ h => by omega⟩, ?_⟩
    exact (by ((repeat (first | with_reducible exact G3.out | with_reducible exact Below.refl _ _ | with_reducible refine bl_drew ?_ | with_reducible refine bl_alloc ?_ _ | with_reducible refine bl_set ?_ (by dsimp only; omega) _)); done))
end Go.Proofs.Ytbajghjdnjodmaa
