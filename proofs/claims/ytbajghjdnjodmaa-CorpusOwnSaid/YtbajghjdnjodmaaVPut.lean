/- chevalref03.Put: an object with one more key: some value, of no more parts than both. -/
import Derived.Test.YtbajghjdnjodmaaPts
import Derived.Test.YtbajghjdnjodmaaDoc
namespace Go.Proofs.Ytbajghjdnjodmaa
set_option linter.unusedVariables false
set_option linter.unusedSimpArgs false
open Go.RowKit

/-- Where an object is put together: the boxes of both values. -/
structure PAt (w : World) (t : TypeId) (A B Z : Array Value) (W : World) : Prop where
  one : W.heap[w.heap.size]? = some (.cells A t (0, 0))
  two : W.heap[w.heap.size + 1]? = some (.cells B t (0, 0))
  res : W.heap[w.heap.size + 2]? = some (.cells Z t (0, 0))
  bel : Below w.heap.size w W
theorem PAt.drewN {w W : World} {t : TypeId} {A B Z : Array Value} (h : PAt w t A B Z W) (n : Nat) : PAt w t A B Z (W.drewN n) := ⟨h.one, h.two, h.res, bl_drewN h.bel n⟩
theorem kc_six' {w : World} {S : Nat → Prop} {B : Nat} (hB : ¬ S B) (x0 x1 x2 x3 x4 x5 : Value) : Kc S w ((((((w.setCell ⟨B, 0, none⟩ x0).setCell ⟨B, 1, none⟩ x1).setCell ⟨B, 2, none⟩ x2).setCell ⟨B, 3, none⟩ x3).setCell ⟨B, 4, none⟩ x4).setCell ⟨B, 5, none⟩ x5) :=
  ((((((kc_set hB _).trans (kc_set hB _)).trans (kc_set hB _)).trans (kc_set hB _)).trans (kc_set hB _)).trans (kc_set hB _))
def insK (T : VT) (j : Nat) (key : ByteArray) : List ByteArray := T.ks.take j ++ key :: T.ks.drop j
def insI (T : VT) (j : Nat) (U : VT) : List VT := T.its.take j ++ U :: T.its.drop j
theorem insI_size (T : VT) (j : Nat) (U : VT) : VT.sizes (insI T j U) = VT.sizes T.its + U.size := by
  unfold insI
  rw [VT.sizes_append, VT.sizes_cons]
  conv => rhs; rw [← List.take_append_drop j T.its, VT.sizes_append]
  omega
theorem ins_len {T U : VT} {j : Nat} {key : ByteArray} (hk : T.ks.length = T.its.length) (hj : j ≤ T.its.length) : (VT.mk 5 false 0 ⟨#[]⟩ (insI T j U) (insK T j key)).ks.length = (VT.mk 5 false 0 ⟨#[]⟩ (insI T j U) (insK T j key)).its.length ∧ 0 < (VT.mk 5 false 0 ⟨#[]⟩ (insI T j U) (insK T j key)).its.length ∧ (T.k = 5 → (VT.mk 5 false 0 ⟨#[]⟩ (insI T j U) (insK T j key)).k = 5) := by
  refine ⟨?_, ?_, fun _ => rfl⟩
  · show (insK T j key).length = (insI T j U).length
    simp only [insI, insK, List.length_append, List.length_cons, List.length_take, List.length_drop]; omega
  · show 0 < (insI T j U).length
    simp only [insI, List.length_append, List.length_cons]; omega
theorem ins_ok {T U : VT} {j : Nat} {key : ByteArray} (hk : T.ks.length ≤ T.its.length) : (VT.mk 5 false 0 ⟨#[]⟩ (insI T j U) (insK T j key)).size ≤ T.size + U.size ∧ (key.size ≤ 60 → T.keyed → U.keyed → (VT.mk 5 false 0 ⟨#[]⟩ (insI T j U) (insK T j key)).keyed) := by
  refine ⟨?_, fun hq h h' => VT.keyed_iff.2 ⟨⟨?_, ?_⟩, ?_⟩⟩
  · rw [VT.size_its, T.size_its, show (VT.mk 5 false 0 ⟨#[]⟩ (insI T j U) (insK T j key)).its = insI T j U from rfl, insI_size]; omega
  · rw [show (VT.mk 5 false 0 ⟨#[]⟩ (insI T j U) (insK T j key)).its = insI T j U from rfl, show (VT.mk 5 false 0 ⟨#[]⟩ (insI T j U) (insK T j key)).ks = insK T j key from rfl]
    simp only [insI, insK, List.length_append, List.length_cons, List.length_take, List.length_drop]; omega
  · intro s hs
    rw [show (VT.mk 5 false 0 ⟨#[]⟩ (insI T j U) (insK T j key)).ks = insK T j key from rfl] at hs
    simp only [insK, List.mem_append, List.mem_cons] at hs
    rcases hs with hs | rfl | hs
    · exact (VT.keyed_iff.1 h).1.2 s (List.mem_of_mem_take hs)
    · exact hq
    · exact (VT.keyed_iff.1 h).1.2 s (List.mem_of_mem_drop hs)
  · intro X hX
    rw [show (VT.mk 5 false 0 ⟨#[]⟩ (insI T j U) (insK T j key)).its = insI T j U from rfl] at hX
    simp only [insI, List.mem_append, List.mem_cons] at hX
    rcases hX with hX | rfl | hX
    · exact (VT.keyed_iff.1 h).2 X (List.mem_of_mem_take hX)
    · exact h'
    · exact (VT.keyed_iff.1 h).2 X (List.mem_of_mem_drop hX)
/-- .. and the new value's box, its keys laid. -/
structure QAt (w : World) (t : TypeId) (A B Z : Array Value) (Vb : Nat) (kv : Value) (ks : List ByteArray) (W : World) : Prop where
  at_ : PAt w t A B Z W
  var : W.heap[Vb]? = some (.cells #[.int .i64 5, .bool false, .int .i64 0, .string ⟨#[]⟩, .slice none 0 0, kv] t (0, 0))
  hV : w.heap.size + 2 < Vb
  key : Sl W (fun g => g ≠ Vb ∧ g ≠ w.heap.size + 2 ∧ w.heap.size ≤ g) 1 kv ks.length (ks.map .string)
/-- What Put tells. -/
def PutSays (T U : VT) (key : ByteArray) (S S' : Nat → Prop) (w : World) (e : Ending) (w' : World) : Prop := ∃ (T' : VT) (vi' vk' : Value) (b : Bool), e = .returned (.tuple #[T'.agg vi' vk', .bool b]) ∧ T'.Rep w' (fun g => S g ∨ S' g ∨ w.heap.size ≤ g) vi' vk' ∧ T'.size ≤ T.size + U.size ∧ (key.size ≤ 60 → T.keyed → U.keyed → T'.keyed) ∧ (T'.ks.length = T'.its.length ∧ 0 < T'.its.length ∧ (T.k = 5 → T'.k = 5)) ∧ Below w.heap.size w w'
set_option maxRecDepth 20000 in
set_option maxHeartbeats 1000000 in
theorem vput_ne (T U : VT) (key : ByteArray) (hn : 0 < T.its.length) (hk : T.ks.length = T.its.length) (hT : T.size ≤ 1000) (S S' : Nat → Prop) (vi vk wi wk : Value) (w : World) (h : T.Rep w S vi vk) (h' : U.Rep w S' wi wk) :
    Calls Try.prog 50 #[T.agg vi vk, .string key, U.agg wi wk] w (PutSays T U key S S' w) := by
  obtain ⟨⟨cs, hs, hr⟩, hks⟩ := rep_iff.1 h
  obtain ⟨gi, oi, c, rfl, hc0, _, _, _⟩ := hs.at hn
  obtain ⟨gk, ok, kc, rfl, hd0, _, _, _⟩ := hks.at (by omega)
  obtain ⟨a1, c1, a2, c2, rfl, rfl⟩ := rep_shape h'
  have HT := Lib.hid h
  have HU := Lib.hid h'
  have HS := Lib.hid hs
  have HR := Lib.hid hr
  have HK := Lib.hid hks
  have its := T.its_len
  have HKL := Lib.hid hk
  have kn : T.ks.length ≤ 1000 := by omega
  clear h h' hs hr hks hk
  go_enter Try.func50, Try.ntmps50
  go_upto_block 0 with fail
  refine abs_world (F := PAt w 46 #[.int .i64 T.k, .bool T.b, .int .i64 T.n, .string T.s, .slice (some ⟨gi, oi, none⟩) T.its.length c, .slice (some ⟨gk, ok, none⟩) T.ks.length kc] #[.int .i64 U.k, .bool U.b, .int .i64 U.n, .string U.s, .slice a1 U.its.length c1, .slice a2 U.ks.length c2] #[.int .i64 0, .bool false, .int .i64 0, .string ⟨#[]⟩, .slice none 0 0, .slice none 0 0]) ⟨by ((repeat (first | with_reducible exact new_blk _ _ | with_reducible exact new_blk1 _ _ _ | with_reducible exact new_blk2 _ _ _ _ | with_reducible refine hk_drew ?_ | with_reducible refine hk_alloc ?_ _ | with_reducible refine hk_set ?_ (by dsimp only; omega) _)); done), by ((repeat (first | with_reducible exact new_blk _ _ | with_reducible exact new_blk1 _ _ _ | with_reducible exact new_blk2 _ _ _ _ | with_reducible refine hk_drew ?_ | with_reducible refine hk_alloc ?_ _ | with_reducible refine hk_set ?_ (by dsimp only; omega) _)); done), by ((repeat (first | with_reducible exact new_blk _ _ | with_reducible exact new_blk1 _ _ _ | with_reducible exact new_blk2 _ _ _ _ | with_reducible refine hk_drew ?_ | with_reducible refine hk_alloc ?_ _ | with_reducible refine hk_set ?_ (by dsimp only; omega) _)); done), by ((repeat (first | with_reducible exact Below.refl _ _ | with_reducible refine bl_drew ?_ | with_reducible refine bl_alloc ?_ _ | with_reducible refine bl_set ?_ (by dsimp only; omega) _)); done)⟩ ?_
  intro W0 hW0
  have H0 := Lib.hid hW0
  clear hW0
  go_cut [8] from 10 to 25 (fun p wx => ∃ j : Nat, j ≤ T.ks.length ∧ p = .int .i64 j ∧ Hid (PAt w 46 #[.int .i64 T.k, .bool T.b, .int .i64 T.n, .string T.s, .slice (some ⟨gi, oi, none⟩) T.its.length c, .slice (some ⟨gk, ok, none⟩) T.ks.length kc] #[.int .i64 U.k, .bool U.b, .int .i64 U.n, .string U.s, .slice a1 U.its.length c1, .slice a2 U.ks.length c2] #[.int .i64 0, .bool false, .int .i64 0, .string ⟨#[]⟩, .slice none 0 0, .slice none 0 0] wx))
  case first =>
    go_wp2_with fail
    go_loopw [8] (fun p wx => ∃ j : Nat, j ≤ T.ks.length ∧ p = .int .i64 j ∧ Hid (PAt w 46 #[.int .i64 T.k, .bool T.b, .int .i64 T.n, .string T.s, .slice (some ⟨gi, oi, none⟩) T.its.length c, .slice (some ⟨gk, ok, none⟩) T.ks.length kc] #[.int .i64 U.k, .bool U.b, .int .i64 U.n, .string U.s, .slice a1 U.its.length c1, .slice a2 U.ks.length c2] #[.int .i64 0, .bool false, .int .i64 0, .string ⟨#[]⟩, .slice none 0 0, .slice none 0 0] wx)) (fun p _ => T.ks.length - (intOf p).toNat)
    case atStart => exact ⟨0, by omega, rfl, H0⟩
    case round =>
      obtain ⟨j, hj, rfl, H⟩ := hrel
      have x0 := cell_blk H.out.one
      by_cases hlt : j < T.ks.length
      · obtain ⟨g, o, c3, hv, _, u, hu, hcu⟩ := (HK.out.keep (kc_below H.out.bel)).cell1 hlt
        cases hv
        rw [List.getElem?_map, List.getElem?_eq_getElem hlt] at hu
        cases hu
        generalize T.ks[j] = x at *
        cases hb : Op.bytesLess x.toList key.toList
        · go_wp2
          go_meet
          exact ⟨j, by omega, rfl, H⟩
        · go_wp2
          go_roundw
          case rel => exact ⟨j + 1, by omega, by go_num, H⟩
          case measure => simp [intOf]; omega
      · go_wp2
        go_meet
        exact ⟨j, hj, rfl, H⟩
  case rest =>
    obtain ⟨j, hj, rfl, H⟩ := hcut
    clear H0
    go_upto_region 4 with fail
    go_cut [39] from 26 to 39 (fun p wx => ∃ q : Bool, p = .bool q ∧ Hid (PAt w 46 #[.int .i64 T.k, .bool T.b, .int .i64 T.n, .string T.s, .slice (some ⟨gi, oi, none⟩) T.its.length c, .slice (some ⟨gk, ok, none⟩) T.ks.length kc] #[.int .i64 U.k, .bool U.b, .int .i64 U.n, .string U.s, .slice a1 U.its.length c1, .slice a2 U.ks.length c2] #[.int .i64 0, .bool false, .int .i64 0, .string ⟨#[]⟩, .slice none 0 0, .slice none 0 0] wx))
    case first =>
      have x0 := cell_blk H.out.one
      by_cases hlt : j < T.ks.length
      · obtain ⟨g, o, c3, hv, _, u, hu, hcu⟩ := (HK.out.keep (kc_below H.out.bel)).cell1 hlt
        cases hv
        rw [List.getElem?_map, List.getElem?_eq_getElem hlt] at hu
        cases hu
        generalize T.ks[j] = x at *
        go_wp2
        go_meet
        exact ⟨_, rfl, H⟩
      · go_wp2
        go_meet
        exact ⟨_, rfl, H⟩
    case rest =>
      obtain ⟨q, rfl, H2⟩ := hcut
      clear H
      cases q with
      | true =>
        have x0 := cell_blk H2.out.one
        have x1 := cell_blk H2.out.res
        have x2 := frozen_blk H2.out.res
        go_wp2
        refine bodyPost_ret (v := .tuple #[T.agg (.slice (some ⟨gi, oi, none⟩) T.its.length c) (.slice (some ⟨gk, ok, none⟩) T.ks.length kc), .bool false]) (by simp [results, Try.results50, go_sem, x1]) rfl ⟨T, _, _, false, rfl, ?_, by omega, fun _ h _ => h, ⟨HKL.out, hn, fun h => h⟩, ?_⟩
        · exact ((HT.out.lt.keep (kc_below H2.out.bel)).keep (kc_six' (fun h => by have := h.2; omega) _ _ _ _ _ _)).mono fun _ h => .inl h.1
        · exact (by ((repeat (first | with_reducible exact H2.out.bel | with_reducible exact Below.refl _ _ | with_reducible refine bl_drew ?_ | with_reducible refine bl_alloc ?_ _ | with_reducible refine bl_set ?_ (by dsimp only; omega) _)); done))
      | false =>
        go_upto_region 7 with fail
        refine abs_world (F := fun W => PAt w 46 #[.int .i64 T.k, .bool T.b, .int .i64 T.n, .string T.s, .slice (some ⟨gi, oi, none⟩) T.its.length c, .slice (some ⟨gk, ok, none⟩) T.ks.length kc] #[.int .i64 U.k, .bool U.b, .int .i64 U.n, .string U.s, .slice a1 U.its.length c1, .slice a2 U.ks.length c2] #[.int .i64 0, .bool false, .int .i64 0, .string ⟨#[]⟩, .slice none 0 0, .slice none 0 0] W ∧ W.heap[wc.heap.size]? = some (.cells #[.int .i64 5, .bool false, .int .i64 0, .string ⟨#[]⟩, .slice none 0 0, .slice none 0 0] 46 (0, 0))) ⟨⟨by ((repeat (first | with_reducible exact H2.out.one | with_reducible exact new_blk _ _ | with_reducible exact new_blk1 _ _ _ | with_reducible exact new_blk2 _ _ _ _ | with_reducible refine hk_drew ?_ | with_reducible refine hk_alloc ?_ _ | with_reducible refine hk_set ?_ (by dsimp only; omega) _)); done), by ((repeat (first | with_reducible exact H2.out.two | with_reducible exact new_blk _ _ | with_reducible exact new_blk1 _ _ _ | with_reducible exact new_blk2 _ _ _ _ | with_reducible refine hk_drew ?_ | with_reducible refine hk_alloc ?_ _ | with_reducible refine hk_set ?_ (by dsimp only; omega) _)); done), by ((repeat (first | with_reducible exact H2.out.res | with_reducible exact new_blk _ _ | with_reducible exact new_blk1 _ _ _ | with_reducible exact new_blk2 _ _ _ _ | with_reducible refine hk_drew ?_ | with_reducible refine hk_alloc ?_ _ | with_reducible refine hk_set ?_ (by dsimp only; omega) _)); done), by ((repeat (first | with_reducible exact H2.out.bel | with_reducible exact Below.refl _ _ | with_reducible refine bl_drew ?_ | with_reducible refine bl_alloc ?_ _ | with_reducible refine bl_set ?_ (by dsimp only; omega) _)); done)⟩, by ((repeat (first | with_reducible exact new_blk _ _ | with_reducible exact new_blk1 _ _ _ | with_reducible exact new_blk2 _ _ _ _ | with_reducible refine hk_drew ?_ | with_reducible refine hk_alloc ?_ _ | with_reducible refine hk_set ?_ (by dsimp only; omega) _)); done)⟩ ?_
        rintro W2 ⟨g1, g2⟩
        obtain ⟨Vb, hVb⟩ : ∃ Vb, wc.heap.size = Vb := ⟨_, rfl⟩
        have hv3 : w.heap.size + 2 < Vb := by rw [← hVb]; exact hk_lt H2.out.res
        rw [hVb] at g2 ⊢
        clear H2 hVb
        have G := Lib.hid g1
        have P1 := Lib.hid g1.one
        have PV := Lib.hid g2
        have L1 : Hid (w.heap.size < W2.heap.size) := Lib.hid (hk_lt g1.one)
        have L2 : Hid (w.heap.size + 2 < W2.heap.size) := Lib.hid (hk_lt g1.res)
        have LV : Hid (Vb < W2.heap.size) := Lib.hid (hk_lt g2)
        have HZ := L1
        have BW := Lib.hid g1.bel
        have q0 := cell_blk g1.one
        have HS1 := Lib.hid (fun (W : World) (hb : Below w.heap.size w W) => (HK.out.keep (kc_below hb)).take (k := j) hj)
        have HS2 : Hid (∀ W : World, Below w.heap.size w W → Sl W S 1 (.slice (if kc = j then some ⟨gk, ok, none⟩ else some ⟨gk, ok + j, none⟩) (T.ks.length - j) (kc - j)) (T.ks.length - j) ((T.ks.map Value.string).drop j)) := Lib.hid (fun W hb => by have := (HK.out.keep (kc_below hb)).drop' (k := j) hj; rw [Nat.mul_one] at this; exact this)
        have HO1 := Lib.hid (fun u (hu : u ∈ (T.ks.map Value.string).take (j * 1)) => one_str _ u (List.mem_of_mem_take hu))
        have HO2 := Lib.hid (fun u (hu : u ∈ (T.ks.map Value.string).drop j) => one_str _ u (List.mem_of_mem_drop hu))
        have HE1 := Lib.hid (one_str [key])
        have k1 : (0 : Int) ≤ (j : Int) := by omega
        have k2 : (j : Int) ≤ (kc : Int) := by omega
        have k3 : (j : Int) ≤ (T.ks.length : Int) := by omega
        clear g1 g2
        go_cut [47] from 40 to 56 (fun _ wx => ∃ kE ke, Hid (QAt w 46 #[.int .i64 T.k, .bool T.b, .int .i64 T.n, .string T.s, .slice (some ⟨gi, oi, none⟩) T.its.length c, .slice (some ⟨gk, ok, none⟩) T.ks.length kc] #[.int .i64 U.k, .bool U.b, .int .i64 U.n, .string U.s, .slice a1 U.its.length c1, .slice a2 U.ks.length c2] #[.int .i64 0, .bool false, .int .i64 0, .string ⟨#[]⟩, .slice none 0 0, .slice none 0 0] Vb (.slice kE (insK T j key).length ke) (insK T j key) wx))
        case first =>
          go_region_held3 (fun W' => (W'.heap[w.heap.size]? = some (.cells #[.int .i64 T.k, .bool T.b, .int .i64 T.n, .string T.s, .slice (some ⟨gi, oi, none⟩) T.its.length c, .slice (some ⟨gk, ok, none⟩) T.ks.length kc] 46 (0, 0)) ∧ ∀ jj, W'.cell? ⟨w.heap.size, jj, none⟩ = (#[.int .i64 T.k, .bool T.b, .int .i64 T.n, .string T.s, .slice (some ⟨gi, oi, none⟩) T.its.length c, .slice (some ⟨gk, ok, none⟩) T.ks.length kc] : Array Value)[jj]?)) ((refine blk_of ?_; ((repeat (first | with_reducible exact P1.out | with_reducible exact HK1.out _ _ L1.out P1.out | with_reducible exact HK2.out _ _ L1.out P1.out | with_reducible exact HK3.out _ _ L1.out P1.out | with_reducible exact new_blk _ _ | with_reducible exact new_blk1 _ _ _ | with_reducible exact new_blk2 _ _ _ _ | with_reducible refine hk_drew ?_ | with_reducible refine hk_alloc ?_ _ | with_reducible refine hk_set ?_ (by dsimp only; omega) _)); done))) (first | (refine step_append_sl rfl _ _ _ rfl rfl elem_s (v := .slice (some ⟨W2.heap.size, 0, none⟩) 0 0) (base := W2.heap.size) rfl rfl (own_here _ (by ((repeat (first | with_reducible exact new_blk _ _ | with_reducible exact new_blk1 _ _ _ | with_reducible exact new_blk2 _ _ _ _ | with_reducible refine hk_drew ?_ | with_reducible refine hk_alloc ?_ _ | with_reducible refine hk_set ?_ (by dsimp only; omega) _)); done)) (by omega)) (HS1.out _ (by ((repeat (first | with_reducible exact BW.out | with_reducible exact Below.refl _ _ | with_reducible refine bl_drew ?_ | with_reducible refine bl_alloc ?_ _ | with_reducible refine bl_set ?_ (by dsimp only; omega) _)); done))) HO1.out (by unfold maxLen; omega) (by omega) (by (try simp only [World.size_drew, World.size_alloc]); omega) ?_; intro v1 w1 ho hg hb; rw [Nat.zero_add, List.nil_append] at ho; obtain ⟨vA, vc, hv⟩ := own_slice ho; subst hv; have HB1 : Hid (Below w.heap.size w w1) := Lib.hid (Below.grown (by ((repeat (first | with_reducible exact BW.out | with_reducible exact Below.refl _ _ | with_reducible refine bl_drew ?_ | with_reducible refine bl_alloc ?_ _ | with_reducible refine bl_set ?_ (by dsimp only; omega) _)); done)) hg (by have := HZ.out; (try simp only [World.size_drew, World.size_alloc]); omega) (fun k e => by have := HZ.out; simp [Value.ownBlock] at e; omega)); have RO1 := Lib.hid ho; have S1 := Lib.hid hg.size; have HK1 : Hid (∀ b o, b < W2.heap.size → W2.heap[b]? = some o → w1.heap[b]? = some o) := Lib.hid (fun b o hb2 hx => hk_grow (by ((repeat (first | with_reducible exact hx | with_reducible exact new_blk _ _ | with_reducible exact new_blk1 _ _ _ | with_reducible exact new_blk2 _ _ _ _ | with_reducible refine hk_drew ?_ | with_reducible refine hk_alloc ?_ _ | with_reducible refine hk_set ?_ (by dsimp only; omega) _)); done)) hg (by simp [Value.ownBlock] <;> omega)); (first | (refine have_then (p := w1.heap[W2.heap.size + 1]? = some (.cells #[.string key] 9 (0, 0))) ?_ ?_; (focus (refine hk_grow ?_ hg ?_; (focus ((repeat (first | with_reducible exact new_blk _ _ | with_reducible exact new_blk1 _ _ _ | with_reducible exact new_blk2 _ _ _ _ | with_reducible refine hk_drew ?_ | with_reducible refine hk_alloc ?_ _ | with_reducible refine hk_set ?_ (by dsimp only; omega) _)); done)); (focus simp [Value.ownBlock]))); intro rr; have RR := Lib.hid rr; clear rr) | skip); clear ho hg hb) | (refine step_append_sl rfl _ _ _ rfl rfl elem_s (v := .slice (some ⟨W2.heap.size + 1, 0, none⟩) 0 0) (base := W2.heap.size) rfl rfl (own_here _ (by ((repeat (first | with_reducible exact new_blk _ _ | with_reducible exact new_blk1 _ _ _ | with_reducible exact new_blk2 _ _ _ _ | with_reducible refine hk_drew ?_ | with_reducible refine hk_alloc ?_ _ | with_reducible refine hk_set ?_ (by dsimp only; omega) _)); done)) (by omega)) (HS1.out _ (by ((repeat (first | with_reducible exact BW.out | with_reducible exact Below.refl _ _ | with_reducible refine bl_drew ?_ | with_reducible refine bl_alloc ?_ _ | with_reducible refine bl_set ?_ (by dsimp only; omega) _)); done))) HO1.out (by unfold maxLen; omega) (by omega) (by (try simp only [World.size_drew, World.size_alloc]); omega) ?_; intro v1 w1 ho hg hb; rw [Nat.zero_add, List.nil_append] at ho; obtain ⟨vA, vc, hv⟩ := own_slice ho; subst hv; have HB1 : Hid (Below w.heap.size w w1) := Lib.hid (Below.grown (by ((repeat (first | with_reducible exact BW.out | with_reducible exact Below.refl _ _ | with_reducible refine bl_drew ?_ | with_reducible refine bl_alloc ?_ _ | with_reducible refine bl_set ?_ (by dsimp only; omega) _)); done)) hg (by have := HZ.out; (try simp only [World.size_drew, World.size_alloc]); omega) (fun k e => by have := HZ.out; simp [Value.ownBlock] at e; omega)); have RO1 := Lib.hid ho; have S1 := Lib.hid hg.size; have HK1 : Hid (∀ b o, b < W2.heap.size → W2.heap[b]? = some o → w1.heap[b]? = some o) := Lib.hid (fun b o hb2 hx => hk_grow (by ((repeat (first | with_reducible exact hx | with_reducible exact new_blk _ _ | with_reducible exact new_blk1 _ _ _ | with_reducible exact new_blk2 _ _ _ _ | with_reducible refine hk_drew ?_ | with_reducible refine hk_alloc ?_ _ | with_reducible refine hk_set ?_ (by dsimp only; omega) _)); done)) hg (by simp [Value.ownBlock] <;> omega)); (first | (refine have_then (p := w1.heap[W2.heap.size]? = some (.cells #[.string key] 9 (0, 0))) ?_ ?_; (focus (refine hk_grow ?_ hg ?_; (focus ((repeat (first | with_reducible exact new_blk _ _ | with_reducible exact new_blk1 _ _ _ | with_reducible exact new_blk2 _ _ _ _ | with_reducible refine hk_drew ?_ | with_reducible refine hk_alloc ?_ _ | with_reducible refine hk_set ?_ (by dsimp only; omega) _)); done)); (focus simp [Value.ownBlock]))); intro rr; have RR := Lib.hid rr; clear rr) | skip); clear ho hg hb) | (refine step_append_sl rfl _ _ _ rfl rfl elem_s (v := .slice vA j vc) (base := W2.heap.size) (x := .slice (some ⟨w1.heap.size, 0, none⟩) 1 1) (S := fun _ => True) rfl rfl (RO1.out.alloc _) (Sl.one_of (new_blk _ _) trivial rfl) (by exact HE1.out) (by unfold maxLen; omega) (by omega) (by have := S1.out; (try simp only [World.size_drew, World.size_alloc] at *); omega) ?_; intro v2 w2 ho hg hb; obtain ⟨vB, vd, hv⟩ := own_slice ho; subst hv; have HB2 : Hid (Below w.heap.size w w2) := Lib.hid (Below.grown (by ((repeat (first | with_reducible exact HB1.out | with_reducible exact Below.refl _ _ | with_reducible refine bl_drew ?_ | with_reducible refine bl_alloc ?_ _ | with_reducible refine bl_set ?_ (by dsimp only; omega) _)); done)) hg (by have := HB1.out.size; (try simp only [World.size_drew, World.size_alloc]); omega) (fun k e => by have := (RO1.out.lt k e).1; have := HZ.out; omega)); have RO2 := Lib.hid ho; have S2 : Hid (W2.heap.size ≤ w2.heap.size) := Lib.hid (by have := S1.out; have := hg.size; (try simp only [World.size_drew, World.size_alloc] at *); omega); have HK2 : Hid (∀ b o, b < W2.heap.size → W2.heap[b]? = some o → w2.heap[b]? = some o) := Lib.hid (fun b o hb2 hx => hk_grow (by ((repeat (first | with_reducible exact HK1.out b o hb2 hx | with_reducible exact new_blk _ _ | with_reducible exact new_blk1 _ _ _ | with_reducible exact new_blk2 _ _ _ _ | with_reducible refine hk_drew ?_ | with_reducible refine hk_alloc ?_ _ | with_reducible refine hk_set ?_ (by dsimp only; omega) _)); done)) hg (fun e => by have := (RO1.out.lt _ e.symm).1; omega)); clear ho hg hb) | (refine step_append_sl rfl _ _ _ rfl rfl elem_s (v := .slice vA j vc) (base := W2.heap.size) (x := .slice (some ⟨W2.heap.size, 0, none⟩) 1 1) (S := fun _ => True) rfl rfl (RO1.out) (Sl.one_of (RR.out) trivial rfl) (by exact HE1.out) (by unfold maxLen; omega) (by omega) (by have := S1.out; (try simp only [World.size_drew, World.size_alloc] at *); omega) ?_; intro v2 w2 ho hg hb; obtain ⟨vB, vd, hv⟩ := own_slice ho; subst hv; have HB2 : Hid (Below w.heap.size w w2) := Lib.hid (Below.grown (by ((repeat (first | with_reducible exact HB1.out | with_reducible exact Below.refl _ _ | with_reducible refine bl_drew ?_ | with_reducible refine bl_alloc ?_ _ | with_reducible refine bl_set ?_ (by dsimp only; omega) _)); done)) hg (by have := HB1.out.size; (try simp only [World.size_drew, World.size_alloc]); omega) (fun k e => by have := (RO1.out.lt k e).1; have := HZ.out; omega)); have RO2 := Lib.hid ho; have S2 : Hid (W2.heap.size ≤ w2.heap.size) := Lib.hid (by have := S1.out; have := hg.size; (try simp only [World.size_drew, World.size_alloc] at *); omega); have HK2 : Hid (∀ b o, b < W2.heap.size → W2.heap[b]? = some o → w2.heap[b]? = some o) := Lib.hid (fun b o hb2 hx => hk_grow (by ((repeat (first | with_reducible exact HK1.out b o hb2 hx | with_reducible exact new_blk _ _ | with_reducible exact new_blk1 _ _ _ | with_reducible exact new_blk2 _ _ _ _ | with_reducible refine hk_drew ?_ | with_reducible refine hk_alloc ?_ _ | with_reducible refine hk_set ?_ (by dsimp only; omega) _)); done)) hg (fun e => by have := (RO1.out.lt _ e.symm).1; omega)); clear ho hg hb) | (refine step_append_sl rfl _ _ _ rfl rfl elem_s (v := .slice vA j vc) (base := W2.heap.size) (x := .slice (some ⟨W2.heap.size + 1, 0, none⟩) 1 1) (S := fun _ => True) rfl rfl (RO1.out) (Sl.one_of (RR.out) trivial rfl) (by exact HE1.out) (by unfold maxLen; omega) (by omega) (by have := S1.out; (try simp only [World.size_drew, World.size_alloc] at *); omega) ?_; intro v2 w2 ho hg hb; obtain ⟨vB, vd, hv⟩ := own_slice ho; subst hv; have HB2 : Hid (Below w.heap.size w w2) := Lib.hid (Below.grown (by ((repeat (first | with_reducible exact HB1.out | with_reducible exact Below.refl _ _ | with_reducible refine bl_drew ?_ | with_reducible refine bl_alloc ?_ _ | with_reducible refine bl_set ?_ (by dsimp only; omega) _)); done)) hg (by have := HB1.out.size; (try simp only [World.size_drew, World.size_alloc]); omega) (fun k e => by have := (RO1.out.lt k e).1; have := HZ.out; omega)); have RO2 := Lib.hid ho; have S2 : Hid (W2.heap.size ≤ w2.heap.size) := Lib.hid (by have := S1.out; have := hg.size; (try simp only [World.size_drew, World.size_alloc] at *); omega); have HK2 : Hid (∀ b o, b < W2.heap.size → W2.heap[b]? = some o → w2.heap[b]? = some o) := Lib.hid (fun b o hb2 hx => hk_grow (by ((repeat (first | with_reducible exact HK1.out b o hb2 hx | with_reducible exact new_blk _ _ | with_reducible exact new_blk1 _ _ _ | with_reducible exact new_blk2 _ _ _ _ | with_reducible refine hk_drew ?_ | with_reducible refine hk_alloc ?_ _ | with_reducible refine hk_set ?_ (by dsimp only; omega) _)); done)) hg (fun e => by have := (RO1.out.lt _ e.symm).1; omega)); clear ho hg hb) | (refine step_append_sl rfl _ _ _ rfl rfl elem_s (v := .slice vB (j + 1) vd) (base := W2.heap.size)  rfl rfl RO2.out (HS2.out _ HB2.out) HO2.out (by unfold maxLen; omega) (by omega) S2.out ?_; intro v3 w3 ho hg hb; obtain ⟨vE, ve, hv⟩ := own_slice ho; subst hv; have HB3 : Hid (Below w.heap.size w w3) := Lib.hid (HB2.out.grown hg HB2.out.size (fun k e => by have := (RO2.out.lt k e).1; have := HZ.out; omega)); have RO3 := Lib.hid ho; have HK3 : Hid (∀ b o, b < W2.heap.size → W2.heap[b]? = some o → w3.heap[b]? = some o) := Lib.hid (fun b o hb2 hx => hk_grow (HK2.out b o hb2 hx) hg (fun e => by have := (RO2.out.lt _ e.symm).1; omega)); have z1 := cell_blk (HK3.out _ _ LV.out PV.out); have z2 := frozen_blk (HK3.out _ _ LV.out PV.out); clear ho hg hb))
          all_goals (refine ‹∀ (a : Act) (w : World), _ → _› _ _ ?_)
          all_goals go_meet
          all_goals
            have eL : (insK T j key).length = j + 1 + (T.ks.length - j) := by simp only [insK, List.length_append, List.length_cons, List.length_take, List.length_drop]; omega
            rw [eL]
            have h1 := HK3.out _ _ L1.out P1.out
            have h2 := HK3.out _ _ (by have := L2.out; omega) G.out.two
            have h3 := HK3.out _ _ L2.out G.out.res
            have hb3 := HB3.out
            have hl := LV.out
            have hl2 := L2.out
            refine ⟨vE, ve, Lib.hid ⟨⟨hk_set h1 (by dsimp only; omega) _, hk_set h2 (by dsimp only; omega) _, hk_set h3 (by dsimp only; omega) _, bl_set hb3 (by dsimp only; omega) _⟩, set_to (HK3.out _ _ LV.out PV.out) 5 _ rfl, hv3, ?_⟩⟩
            rw [eL]
            have hs := Sl.of_row (S := fun g => g ≠ Vb ∧ g ≠ w.heap.size + 2 ∧ w.heap.size ≤ g) RO3.out (fun g g1 _ _ => by omega)
            have eC : (insK T j key).map Value.string = (List.map Value.string T.ks).take (j * 1) ++ [Value.string key] ++ (List.map Value.string T.ks).drop j := by simp [insK, List.map_take, List.map_drop]
            rw [eC]
            exact hs.keep (kc_set (fun h => h.1 rfl) _)
        case rest =>
          obtain ⟨kE, ke, H3⟩ := hcut
          clear P1 PV L1 L2 LV HZ BW q0 HS1 HS2 HO1 HO2 HE1 k1 k2 k3 G
          go_upto_region 8 with fail
          refine abs_world (F := QAt w 46 #[.int .i64 T.k, .bool T.b, .int .i64 T.n, .string T.s, .slice (some ⟨gi, oi, none⟩) T.its.length c, .slice (some ⟨gk, ok, none⟩) T.ks.length kc] #[.int .i64 U.k, .bool U.b, .int .i64 U.n, .string U.s, .slice a1 U.its.length c1, .slice a2 U.ks.length c2] #[.int .i64 0, .bool false, .int .i64 0, .string ⟨#[]⟩, .slice none 0 0, .slice none 0 0] Vb (.slice kE (insK T j key).length ke) (insK T j key)) H3.out ?_
          intro W2 g0
          have G := Lib.hid g0
          have P1 := Lib.hid g0.at_.one
          have P5 := Lib.hid g0.at_.two
          have PV := Lib.hid g0.var
          have L1 : Hid (w.heap.size < W2.heap.size) := Lib.hid (hk_lt g0.at_.one)
          have L5 : Hid (w.heap.size + 1 < W2.heap.size) := Lib.hid (hk_lt g0.at_.two)
          have L2 : Hid (w.heap.size + 2 < W2.heap.size) := Lib.hid (hk_lt g0.at_.res)
          have LV : Hid (Vb < W2.heap.size) := Lib.hid (hk_lt g0.var)
          have HZ := L1
          have BW := Lib.hid g0.at_.bel
          have q0 := cell_blk g0.at_.one
          have q5 := cell_blk g0.at_.two
          have HS1 := Lib.hid (fun (W : World) (hb : Below w.heap.size w W) => (HS.out.keep (kc_below hb)).take (k := j) (by have := HKL.out; omega))
          have HS2 := Lib.hid (fun (W : World) (hb : Below w.heap.size w W) => (HS.out.keep (kc_below hb)).drop' (k := j) (by have := HKL.out; omega))
          have HO1 := Lib.hid (fun u (hu : u ∈ cs.take (j * 6)) => rows_one HR.out u (List.mem_of_mem_take hu))
          have HO2 := Lib.hid (fun u (hu : u ∈ cs.drop (j * 6)) => rows_one HR.out u (List.mem_of_mem_drop hu))
          have HE1 := Lib.hid (head_one (T := U) (rep_one HU.out).1 (rep_one HU.out).2)
          have kl := HKL.out
          have k1 : (0 : Int) ≤ (j : Int) := by omega
          have k2 : (j : Int) ≤ (c : Int) := by omega
          have k3 : (j : Int) ≤ (T.its.length : Int) := by omega
          clear g0 H3 kl
          go_region_held3 (fun W' => (W'.heap[w.heap.size]? = some (.cells #[.int .i64 T.k, .bool T.b, .int .i64 T.n, .string T.s, .slice (some ⟨gi, oi, none⟩) T.its.length c, .slice (some ⟨gk, ok, none⟩) T.ks.length kc] 46 (0, 0)) ∧ ∀ jj, W'.cell? ⟨w.heap.size, jj, none⟩ = (#[.int .i64 T.k, .bool T.b, .int .i64 T.n, .string T.s, .slice (some ⟨gi, oi, none⟩) T.its.length c, .slice (some ⟨gk, ok, none⟩) T.ks.length kc] : Array Value)[jj]?) ∧ (W'.heap[w.heap.size + 1]? = some (.cells #[.int .i64 U.k, .bool U.b, .int .i64 U.n, .string U.s, .slice a1 U.its.length c1, .slice a2 U.ks.length c2] 46 (0, 0)) ∧ ∀ jj, W'.cell? ⟨w.heap.size + 1, jj, none⟩ = (#[.int .i64 U.k, .bool U.b, .int .i64 U.n, .string U.s, .slice a1 U.its.length c1, .slice a2 U.ks.length c2] : Array Value)[jj]?)) ((refine ⟨blk_of ?_, blk_of ?_⟩; (focus ((repeat (first | with_reducible exact P1.out | with_reducible exact HK1.out _ _ L1.out P1.out | with_reducible exact HK2.out _ _ L1.out P1.out | with_reducible exact HK3.out _ _ L1.out P1.out | with_reducible exact new_blk _ _ | with_reducible exact new_blk1 _ _ _ | with_reducible exact new_blk2 _ _ _ _ | with_reducible refine hk_drew ?_ | with_reducible refine hk_alloc ?_ _ | with_reducible refine hk_set ?_ (by dsimp only; omega) _)); done)); (focus ((repeat (first | with_reducible exact P5.out | with_reducible exact HK1.out _ _ L5.out P5.out | with_reducible exact HK2.out _ _ L5.out P5.out | with_reducible exact HK3.out _ _ L5.out P5.out | with_reducible exact new_blk _ _ | with_reducible exact new_blk1 _ _ _ | with_reducible exact new_blk2 _ _ _ _ | with_reducible refine hk_drew ?_ | with_reducible refine hk_alloc ?_ _ | with_reducible refine hk_set ?_ (by dsimp only; omega) _)); done)))) (first | (refine step_append_sl rfl _ _ _ rfl rfl elem_r (v := .slice (some ⟨W2.heap.size, 0, none⟩) 0 0) (base := W2.heap.size) rfl rfl (own_here _ (by ((repeat (first | with_reducible exact new_blk _ _ | with_reducible exact new_blk1 _ _ _ | with_reducible exact new_blk2 _ _ _ _ | with_reducible refine hk_drew ?_ | with_reducible refine hk_alloc ?_ _ | with_reducible refine hk_set ?_ (by dsimp only; omega) _)); done)) (by omega)) (HS1.out _ (by ((repeat (first | with_reducible exact BW.out | with_reducible exact Below.refl _ _ | with_reducible refine bl_drew ?_ | with_reducible refine bl_alloc ?_ _ | with_reducible refine bl_set ?_ (by dsimp only; omega) _)); done))) HO1.out (by unfold maxLen; omega) (by omega) (by (try simp only [World.size_drew, World.size_alloc]); omega) ?_; intro v1 w1 ho hg hb; rw [Nat.zero_add, List.nil_append] at ho; obtain ⟨vA, vc, hv⟩ := own_slice ho; subst hv; have HB1 : Hid (Below w.heap.size w w1) := Lib.hid (Below.grown (by ((repeat (first | with_reducible exact BW.out | with_reducible exact Below.refl _ _ | with_reducible refine bl_drew ?_ | with_reducible refine bl_alloc ?_ _ | with_reducible refine bl_set ?_ (by dsimp only; omega) _)); done)) hg (by have := HZ.out; (try simp only [World.size_drew, World.size_alloc]); omega) (fun k e => by have := HZ.out; simp [Value.ownBlock] at e; omega)); have RO1 := Lib.hid ho; have S1 := Lib.hid hg.size; have HK1 : Hid (∀ b o, b < W2.heap.size → W2.heap[b]? = some o → w1.heap[b]? = some o) := Lib.hid (fun b o hb2 hx => hk_grow (by ((repeat (first | with_reducible exact hx | with_reducible exact new_blk _ _ | with_reducible exact new_blk1 _ _ _ | with_reducible exact new_blk2 _ _ _ _ | with_reducible refine hk_drew ?_ | with_reducible refine hk_alloc ?_ _ | with_reducible refine hk_set ?_ (by dsimp only; omega) _)); done)) hg (by simp [Value.ownBlock] <;> omega)); (first | (refine have_then (p := w1.heap[W2.heap.size + 1]? = some (.cells #[.int .i64 U.k, .bool U.b, .int .i64 U.n, .string U.s, .slice a1 U.its.length c1, .slice a2 U.ks.length c2] 46 (0, 0))) ?_ ?_; (focus (refine hk_grow ?_ hg ?_; (focus ((repeat (first | with_reducible exact new_blk _ _ | with_reducible exact new_blk1 _ _ _ | with_reducible exact new_blk2 _ _ _ _ | with_reducible refine hk_drew ?_ | with_reducible refine hk_alloc ?_ _ | with_reducible refine hk_set ?_ (by dsimp only; omega) _)); done)); (focus simp [Value.ownBlock]))); intro rr; have RR := Lib.hid rr; clear rr) | skip); clear ho hg hb) | (refine step_append_sl rfl _ _ _ rfl rfl elem_r (v := .slice (some ⟨W2.heap.size + 1, 0, none⟩) 0 0) (base := W2.heap.size) rfl rfl (own_here _ (by ((repeat (first | with_reducible exact new_blk _ _ | with_reducible exact new_blk1 _ _ _ | with_reducible exact new_blk2 _ _ _ _ | with_reducible refine hk_drew ?_ | with_reducible refine hk_alloc ?_ _ | with_reducible refine hk_set ?_ (by dsimp only; omega) _)); done)) (by omega)) (HS1.out _ (by ((repeat (first | with_reducible exact BW.out | with_reducible exact Below.refl _ _ | with_reducible refine bl_drew ?_ | with_reducible refine bl_alloc ?_ _ | with_reducible refine bl_set ?_ (by dsimp only; omega) _)); done))) HO1.out (by unfold maxLen; omega) (by omega) (by (try simp only [World.size_drew, World.size_alloc]); omega) ?_; intro v1 w1 ho hg hb; rw [Nat.zero_add, List.nil_append] at ho; obtain ⟨vA, vc, hv⟩ := own_slice ho; subst hv; have HB1 : Hid (Below w.heap.size w w1) := Lib.hid (Below.grown (by ((repeat (first | with_reducible exact BW.out | with_reducible exact Below.refl _ _ | with_reducible refine bl_drew ?_ | with_reducible refine bl_alloc ?_ _ | with_reducible refine bl_set ?_ (by dsimp only; omega) _)); done)) hg (by have := HZ.out; (try simp only [World.size_drew, World.size_alloc]); omega) (fun k e => by have := HZ.out; simp [Value.ownBlock] at e; omega)); have RO1 := Lib.hid ho; have S1 := Lib.hid hg.size; have HK1 : Hid (∀ b o, b < W2.heap.size → W2.heap[b]? = some o → w1.heap[b]? = some o) := Lib.hid (fun b o hb2 hx => hk_grow (by ((repeat (first | with_reducible exact hx | with_reducible exact new_blk _ _ | with_reducible exact new_blk1 _ _ _ | with_reducible exact new_blk2 _ _ _ _ | with_reducible refine hk_drew ?_ | with_reducible refine hk_alloc ?_ _ | with_reducible refine hk_set ?_ (by dsimp only; omega) _)); done)) hg (by simp [Value.ownBlock] <;> omega)); (first | (refine have_then (p := w1.heap[W2.heap.size]? = some (.cells #[.int .i64 U.k, .bool U.b, .int .i64 U.n, .string U.s, .slice a1 U.its.length c1, .slice a2 U.ks.length c2] 46 (0, 0))) ?_ ?_; (focus (refine hk_grow ?_ hg ?_; (focus ((repeat (first | with_reducible exact new_blk _ _ | with_reducible exact new_blk1 _ _ _ | with_reducible exact new_blk2 _ _ _ _ | with_reducible refine hk_drew ?_ | with_reducible refine hk_alloc ?_ _ | with_reducible refine hk_set ?_ (by dsimp only; omega) _)); done)); (focus simp [Value.ownBlock]))); intro rr; have RR := Lib.hid rr; clear rr) | skip); clear ho hg hb) | (refine step_append_sl rfl _ _ _ rfl rfl elem_r (v := .slice vA j vc) (base := W2.heap.size) (x := .slice (some ⟨w1.heap.size, 0, none⟩) 1 1) (S := fun _ => True) rfl rfl (RO1.out.alloc _) (Sl.one_of (new_blk _ _) trivial rfl) (by exact HE1.out) (by unfold maxLen; omega) (by omega) (by have := S1.out; (try simp only [World.size_drew, World.size_alloc] at *); omega) ?_; intro v2 w2 ho hg hb; obtain ⟨vB, vd, hv⟩ := own_slice ho; subst hv; have HB2 : Hid (Below w.heap.size w w2) := Lib.hid (Below.grown (by ((repeat (first | with_reducible exact HB1.out | with_reducible exact Below.refl _ _ | with_reducible refine bl_drew ?_ | with_reducible refine bl_alloc ?_ _ | with_reducible refine bl_set ?_ (by dsimp only; omega) _)); done)) hg (by have := HB1.out.size; (try simp only [World.size_drew, World.size_alloc]); omega) (fun k e => by have := (RO1.out.lt k e).1; have := HZ.out; omega)); have RO2 := Lib.hid ho; have S2 : Hid (W2.heap.size ≤ w2.heap.size) := Lib.hid (by have := S1.out; have := hg.size; (try simp only [World.size_drew, World.size_alloc] at *); omega); have HK2 : Hid (∀ b o, b < W2.heap.size → W2.heap[b]? = some o → w2.heap[b]? = some o) := Lib.hid (fun b o hb2 hx => hk_grow (by ((repeat (first | with_reducible exact HK1.out b o hb2 hx | with_reducible exact new_blk _ _ | with_reducible exact new_blk1 _ _ _ | with_reducible exact new_blk2 _ _ _ _ | with_reducible refine hk_drew ?_ | with_reducible refine hk_alloc ?_ _ | with_reducible refine hk_set ?_ (by dsimp only; omega) _)); done)) hg (fun e => by have := (RO1.out.lt _ e.symm).1; omega)); clear ho hg hb) | (refine step_append_sl rfl _ _ _ rfl rfl elem_r (v := .slice vA j vc) (base := W2.heap.size) (x := .slice (some ⟨W2.heap.size, 0, none⟩) 1 1) (S := fun _ => True) rfl rfl (RO1.out) (Sl.one_of (RR.out) trivial rfl) (by exact HE1.out) (by unfold maxLen; omega) (by omega) (by have := S1.out; (try simp only [World.size_drew, World.size_alloc] at *); omega) ?_; intro v2 w2 ho hg hb; obtain ⟨vB, vd, hv⟩ := own_slice ho; subst hv; have HB2 : Hid (Below w.heap.size w w2) := Lib.hid (Below.grown (by ((repeat (first | with_reducible exact HB1.out | with_reducible exact Below.refl _ _ | with_reducible refine bl_drew ?_ | with_reducible refine bl_alloc ?_ _ | with_reducible refine bl_set ?_ (by dsimp only; omega) _)); done)) hg (by have := HB1.out.size; (try simp only [World.size_drew, World.size_alloc]); omega) (fun k e => by have := (RO1.out.lt k e).1; have := HZ.out; omega)); have RO2 := Lib.hid ho; have S2 : Hid (W2.heap.size ≤ w2.heap.size) := Lib.hid (by have := S1.out; have := hg.size; (try simp only [World.size_drew, World.size_alloc] at *); omega); have HK2 : Hid (∀ b o, b < W2.heap.size → W2.heap[b]? = some o → w2.heap[b]? = some o) := Lib.hid (fun b o hb2 hx => hk_grow (by ((repeat (first | with_reducible exact HK1.out b o hb2 hx | with_reducible exact new_blk _ _ | with_reducible exact new_blk1 _ _ _ | with_reducible exact new_blk2 _ _ _ _ | with_reducible refine hk_drew ?_ | with_reducible refine hk_alloc ?_ _ | with_reducible refine hk_set ?_ (by dsimp only; omega) _)); done)) hg (fun e => by have := (RO1.out.lt _ e.symm).1; omega)); clear ho hg hb) | (refine step_append_sl rfl _ _ _ rfl rfl elem_r (v := .slice vA j vc) (base := W2.heap.size) (x := .slice (some ⟨W2.heap.size + 1, 0, none⟩) 1 1) (S := fun _ => True) rfl rfl (RO1.out) (Sl.one_of (RR.out) trivial rfl) (by exact HE1.out) (by unfold maxLen; omega) (by omega) (by have := S1.out; (try simp only [World.size_drew, World.size_alloc] at *); omega) ?_; intro v2 w2 ho hg hb; obtain ⟨vB, vd, hv⟩ := own_slice ho; subst hv; have HB2 : Hid (Below w.heap.size w w2) := Lib.hid (Below.grown (by ((repeat (first | with_reducible exact HB1.out | with_reducible exact Below.refl _ _ | with_reducible refine bl_drew ?_ | with_reducible refine bl_alloc ?_ _ | with_reducible refine bl_set ?_ (by dsimp only; omega) _)); done)) hg (by have := HB1.out.size; (try simp only [World.size_drew, World.size_alloc]); omega) (fun k e => by have := (RO1.out.lt k e).1; have := HZ.out; omega)); have RO2 := Lib.hid ho; have S2 : Hid (W2.heap.size ≤ w2.heap.size) := Lib.hid (by have := S1.out; have := hg.size; (try simp only [World.size_drew, World.size_alloc] at *); omega); have HK2 : Hid (∀ b o, b < W2.heap.size → W2.heap[b]? = some o → w2.heap[b]? = some o) := Lib.hid (fun b o hb2 hx => hk_grow (by ((repeat (first | with_reducible exact HK1.out b o hb2 hx | with_reducible exact new_blk _ _ | with_reducible exact new_blk1 _ _ _ | with_reducible exact new_blk2 _ _ _ _ | with_reducible refine hk_drew ?_ | with_reducible refine hk_alloc ?_ _ | with_reducible refine hk_set ?_ (by dsimp only; omega) _)); done)) hg (fun e => by have := (RO1.out.lt _ e.symm).1; omega)); clear ho hg hb) | (refine step_append_sl rfl _ _ _ rfl rfl elem_r (v := .slice vB (j + 1) vd) (base := W2.heap.size)  rfl rfl RO2.out (HS2.out _ HB2.out) HO2.out (by unfold maxLen; omega) (by omega) S2.out ?_; intro v3 w3 ho hg hb; obtain ⟨vE, ve, hv⟩ := own_slice ho; subst hv; have HB3 : Hid (Below w.heap.size w w3) := Lib.hid (HB2.out.grown hg HB2.out.size (fun k e => by have := (RO2.out.lt k e).1; have := HZ.out; omega)); have RO3 := Lib.hid ho; have HK3 : Hid (∀ b o, b < W2.heap.size → W2.heap[b]? = some o → w3.heap[b]? = some o) := Lib.hid (fun b o hb2 hx => hk_grow (HK2.out b o hb2 hx) hg (fun e => by have := (RO2.out.lt _ e.symm).1; omega)); have z1 := cell_blk (HK3.out _ _ LV.out PV.out); have z2 := frozen_blk (HK3.out _ _ LV.out PV.out); clear ho hg hb))
          all_goals (refine ‹∀ (a : Act) (w : World), _ → _› _ _ ?_)
          all_goals
            have hl := LV.out
            have hl2 := L2.out
            have hb3 := HB3.out
            refine abs_world (F := fun W4 => W4.heap[w.heap.size + 2]? = some (.cells #[.int .i64 0, .bool false, .int .i64 0, .string ⟨#[]⟩, .slice none 0 0, .slice none 0 0] 46 (0, 0)) ∧ W4.heap[Vb]? = some (.cells #[.int .i64 5, .bool false, .int .i64 0, .string ⟨#[]⟩, .slice vE (j + 1 + (T.its.length - j)) ve, .slice kE (insK T j key).length ke] 46 (0, 0)) ∧ Below w.heap.size w W4 ∧ (VT.mk 5 false 0 ⟨#[]⟩ (insI T j U) (insK T j key)).Rep W4 (fun g => g ≠ w.heap.size + 2 ∧ (S g ∨ S' g ∨ w.heap.size ≤ g)) (.slice vE (j + 1 + (T.its.length - j)) ve) (.slice kE (insK T j key).length ke)) ⟨?_, ?_, ?_, ?_⟩ ?_
            · exact hk_set (HK3.out _ _ L2.out G.out.at_.res) (by dsimp only; omega) _
            · exact set_to (HK3.out _ _ LV.out PV.out) 4 _ rfl
            · exact bl_set hb3 (by dsimp only; omega) _
            · have eI : (insI T j U).length = j + 1 + (T.its.length - j) := by have := HKL.out; simp only [insI, List.length_append, List.length_cons, List.length_take, List.length_drop]; omega
              have hb4 : Below w.heap.size w (w3.setCell ⟨Vb, 4, none⟩ (.slice vE (j + 1 + (T.its.length - j)) ve)) := bl_set hb3 (by dsimp only; omega) _
              refine rep_iff.2 ⟨⟨(cs.take (j * 6) ++ U.head (.slice a1 U.its.length c1) (.slice a2 U.ks.length c2)) ++ cs.drop (j * 6), ?_, ?_⟩, ?_⟩
              · show Sl _ _ 6 _ (insI T j U).length _
                rw [eI]
                exact (Sl.of_row (S := fun g => g ≠ Vb ∧ g ≠ w.heap.size + 2 ∧ w.heap.size ≤ g) RO3.out (fun g g1 _ _ => by omega)).keep (kc_set (fun h => h.1 rfl) _) |>.mono fun g h => ⟨h.2.1, .inr (.inr h.2.2)⟩
              · show Rows _ (insI T j U) _
                unfold insI
                have e1 := six_go (S' := fun g => g ≠ w.heap.size + 2 ∧ (S g ∨ S' g ∨ w.heap.size ≤ g)) (kc_below hb4) (fun g _ _ _ h _ => ⟨by have := h.2; omega, .inl h.1⟩) (six_lt HR.out)
                rw [List.append_assoc]
                exact Rows.append (e1.take six_len j (by have := HKL.out; omega)) ⟨_, _, rfl, ⟨_, _, rfl, (HU.out.lt.keep (kc_below hb4)).mono fun g h => ⟨by have := h.2; omega, .inr (.inl h.1)⟩⟩, e1.drop six_len j (by have := HKL.out; omega)⟩
              · exact ((G.out.key.lt.keep (fun g x t fr hs hx => HK3.out _ _ hs.2 hx)).keep (kc_set (fun h => h.1.1 rfl) _)).mono fun g h => ⟨h.1.2.1, .inr (.inr h.1.2.2)⟩
            clear q0 q5 z1 z2 hb3 HK1 HK2 HK3 RO1 RO2 RO3 HB1 HB2 HB3 G P1 P5 PV HS1 HS2 HO1 HO2 HE1
            rintro W4 ⟨g1, g2, g3, g4⟩
            have r1 := cell_blk g1
            have r2 := frozen_blk g1
            have r3 := cell_blk g2
            have G3 := Lib.hid g3
            have G4 := Lib.hid g4
            have HOK := Lib.hid (ins_ok (T := T) (U := U) (j := j) (key := key) (by have := HKL.out; omega))
            clear g1 g2 g3 g4
            go_wp2_with fail
            all_goals
              refine bodyPost_ret (v := .tuple #[.agg #[.int .i64 5, .bool false, .int .i64 0, .string ⟨#[]⟩, .slice vE (j + 1 + (T.its.length - j)) ve, .slice kE (insK T j key).length ke], .bool true]) (by simp [results, Try.results50, go_sem, r1]) rfl ⟨VT.mk 5 false 0 ⟨#[]⟩ (insI T j U) (insK T j key), _, _, true, rfl, ?_, HOK.out.1, HOK.out.2, ins_len HKL.out (by have := HKL.out; omega), ?_⟩
              · exact (G4.out.keep (kc_six' (fun h => h.1 rfl) _ _ _ _ _ _)).mono fun _ h => h.2
              · exact (by ((repeat (first | with_reducible exact G3.out | with_reducible exact Below.refl _ _ | with_reducible refine bl_drew ?_ | with_reducible refine bl_alloc ?_ _ | with_reducible refine bl_set ?_ (by dsimp only; omega) _)); done))
end Go.Proofs.Ytbajghjdnjodmaa
