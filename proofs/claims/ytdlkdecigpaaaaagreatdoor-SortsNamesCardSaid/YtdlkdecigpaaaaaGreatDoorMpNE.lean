/- SortsNames: the law's walk. -/
import Derived.Test.YtdlkdecigpaaaaaGreatDoorMpND
namespace Go.Proofs.YtdlkdecigpaaaaaGreatDoor
set_option linter.unusedVariables false
set_option linter.unusedSimpArgs false
open Go.RowKit

section
variable (s : ByteArray) (w : World)
set_option maxRecDepth 20000 in
set_option maxHeartbeats 4000000 in
theorem snames_walk (hv : VarOk w) (hs : s.size ≤ 140737488351232) :
    Calls Tryz.prog 4 #[.string s] w fun e w' => e = .returned (.bool true) ∧ Below w.heap.size w w' := by
  have HA := Lib.hid (fun (W : World) (k : Keeps [] w W) => awake9_any W (hv.keeps k (by simp)))
  obtain ⟨r, hr⟩ := par_ex s
  have HR := Lib.hid hr
  clear hr hv
  go_enter Tryz.func4, Tryz.ntmps4
  go_wp2_with fail
  refine (HA.out _ (Keeps.refl _ _)).mono ?_
  rintro e1 w1 ⟨rfl, hk1⟩
  have HK1 : Hid (Keeps [] w w1) := Lib.hid hk1
  clear hk1
  by_cases h6 : s.size ≤ 600
  · have HP := Lib.hid (fun W => rParse_any s W r (by omega) HR.out)
    go_wp2_with fail
    refine (HP.out _).mono ?_
    rintro e2 w2 ⟨vi, vk, va, rfl, hrep, hk2⟩
    have HG := Lib.hid (fun hc => And.intro (parse_good HR.out hc) (parse_cnt HR.out hc))
    generalize parseR s r = q at *
    obtain ⟨T, pl, cd⟩ := q
    obtain ⟨x1, y1, x2, y2, x3, y3, rfl, rfl, rfl⟩ := xrep_shape hrep
    have HK2 := Lib.hid (HK1.out.trans hk2)
    have HT2 := Lib.hid hrep
    clear hrep hk2 HP
    by_cases hc : cd = 0
    · obtain ⟨⟨hg, hd⟩, hcn⟩ := HG.out hc
      have HGD := Lib.hid hg
      have hcd : cd = 0 := hc
      subst hcd
      clear HG hc hg
      dsimp only at hcn hd
      go_upto_region 6 with fail
      refine abs_world (F := fun W => Keeps [] w W ∧ W.heap[w2.heap.size]? = some (.cells (T.nine (.slice x1 T.lit.its.length y1) (.slice x2 T.lit.ks.length y2) (.slice x3 T.args.length y3)) 30 (0, 0)) ∧ T.Rep W (w1.heap.size ≤ ·) (.slice x1 T.lit.its.length y1) (.slice x2 T.lit.ks.length y2) (.slice x3 T.args.length y3))
        (by exact ⟨HK2.out.alloc _, new_blk _ _, HT2.out.keep (kc_alloc _)⟩) (fun W3 HW3 => ?_)
      have H3 := Lib.hid HW3
      clear HW3 HK2 HT2 HA HK1
      have gm := cell_blk H3.out.2.1
      have hlm := hk_lt H3.out.2.1
      have HNM := Lib.hid (fun W hr => names_any 40 T (.slice x1 T.lit.its.length y1) (.slice x2 T.lit.ks.length y2) (.slice x3 T.args.length y3) (w1.heap.size ≤ ·) none 0 [] W (by omega) HGD.out hr (.inl ⟨rfl, rfl, rfl⟩) (by simp; omega))
      have HLL := Lib.hid (names_len T [])
      have HTD := Lib.hid (fun l hl => names_told (T := T) HGD.out (l := l) hl)
      go_wp2_with fail
      refine (HNM.out W3 H3.out.2.2).mono ?_
      rintro e4 w4 hx
      obtain ⟨a, c, rfl, hrow, hk4⟩ := names_at hx
      have HTD2 := Lib.hid (HTD.out _ rfl)
      generalize namesF [] T = l at *
      have hll : l.length ≤ 600 := by have := HLL.out; simp at this; omega
      have HRW := Lib.hid hrow
      have HK4 := Lib.hid hk4
      clear hrow hk4 hx HNM HLL HTD gm hlm
      have HS1 := Lib.hid (fun (vi vk va vN vS : Value) (S S2 : Nat → Prop) (W : World) (hr : T.Rep W S vi vk va) (he : EnvAt (envAll []) vN vS W S2) => scheck_any (envAll []) 40 T vi vk va vN vS S S2 W (by omega) (by decide) HGD.out hr he)
      have HS2 := Lib.hid (fun (vi vk va vN vS : Value) (S S2 : Nat → Prop) (W : World) (hr : T.Rep W S vi vk va) (he : EnvAt (envAll l) vN vS W S2) => scheck_any (envAll l) 40 T vi vk va vN vS S S2 W (by omega) (by decide) HGD.out hr he)
      have ho : l = [] ∨ 0 < l.length ∧ l ≠ [] := by
        cases l with
        | nil => exact .inl rfl
        | cons x l => exact .inr ⟨by simp, by simp⟩
      obtain ⟨ht1, ht2, ht3⟩ := HTD2.out
      clear HTD2
      rcases ho with rfl | ⟨hpos, hne0⟩
      · have ht := ht1 rfl
        clear ht1 ht2 ht3 HS2
        generalize chk (envAll []) T = ca at *
        obtain ⟨ca1, ca2⟩ := ca
        have hq : (ca2 == 13) = false := by rw [beq_eq_false_iff_ne]; exact ht
        have hor : ca2 = 0 ∨ (ca2 == 0) = false := by
          by_cases hz : ca2 = 0
          · exact .inl hz
          · exact .inr (by rw [beq_eq_false_iff_ne]; exact hz)
        have hq2 : ¬ ca2 = 13 := ht
        have hq3 : (ca2 != 13) = true := by rw [bne_iff_ne]; exact ht
        clear ht
        go_upto_region 8 with fail
        refine abs_world (F := fun W => Keeps [] w W ∧ W.heap[w2.heap.size]? = some (.cells (T.nine (.slice x1 T.lit.its.length y1) (.slice x2 T.lit.ks.length y2) (.slice x3 T.args.length y3)) 30 (0, 0)) ∧ T.Rep W (w1.heap.size ≤ ·) (.slice x1 T.lit.its.length y1) (.slice x2 T.lit.ks.length y2) (.slice x3 T.args.length y3) ∧ W.heap[w4.heap.size]? = some (.cells #[.int .i64 63, .slice none 0 0, .slice none 0 0] 36 (0, 0)))
          (by exact ⟨(H3.out.1.trans HK4.out).alloc _, hk_alloc (HK4.out.same H3.out.2.1) _, H3.out.2.2.keep (kc_keeps (HK4.out.alloc _) fun _ _ => by simp), new_blk _ _⟩) (fun W7 HW7 => ?_)
        have H7 := Lib.hid HW7
        clear HW7 H3 HK4 HRW
        have HTR1 := Lib.hid H7.out.2.2.1
        have gt := cell_blk H7.out.2.1
        have ge := cell_blk H7.out.2.2.2
        have hlt1 := hk_lt H7.out.2.1
        have hle1 := hk_lt H7.out.2.2.2
        go_region_held3 (fun W' => (∀ o, W'.cell? ⟨w2.heap.size, o, none⟩ = W7.cell? ⟨w2.heap.size, o, none⟩) ∧ (∀ o, W'.cell? ⟨w4.heap.size, o, none⟩ = W7.cell? ⟨w4.heap.size, o, none⟩))
          ((refine two_held0 hlt1 hle1 ?_; (repeat (first | with_reducible exact Keeps.refl _ _ | with_reducible exact (KC1.out) | with_reducible exact (KR1.out) | with_reducible refine Keeps.drew ?_)); done))
          (first
          | (go_at_call 18; refine (xreal_any 40 T _ _ _ _ _ (by omega) HGD.out (HTR1.out.keep (by (repeat (first | with_reducible exact Kc.refl _ _ | with_reducible exact kc_drew))))).mono ?_; rintro e' wq1 hx; obtain ⟨vi, vk, va, rfl, hrep, hk⟩ := xreal_at hx; obtain ⟨p1, q1, p2, q2, p3, q3, rfl, rfl, rfl⟩ := xrep_shape hrep; have KR1 : Hid (Keeps [] W7 wq1) := Lib.hid (Keeps.trans (by (repeat (first | with_reducible exact Keeps.refl _ _ | with_reducible refine Keeps.drew ?_))) hk); have HRR1 := Lib.hid hrep; clear hrep hk hx)
          | (go_at_call 17; refine (HS1.out _ _ _ _ _ _ _ _ HRR1.out ((env_none (W := W7)).keep (kc_keeps KR1.out fun _ _ => by simp))).mono ?_; rintro e' wc1 ⟨rfl, hk⟩; have KC1 : Hid (Keeps [] W7 wc1) := Lib.hid (KR1.out.trans hk); clear hk))
        refine ‹∀ (a : Act) (w : World), _ → _› _ _ ?_
        refine abs_world (F := fun W => Keeps [] w W ∧ W.heap[w2.heap.size]? = some (.cells (T.nine (.slice x1 T.lit.its.length y1) (.slice x2 T.lit.ks.length y2) (.slice x3 T.args.length y3)) 30 (0, 0)) ∧ T.Rep W (w1.heap.size ≤ ·) (.slice x1 T.lit.its.length y1) (.slice x2 T.lit.ks.length y2) (.slice x3 T.args.length y3) ∧ W.heap[w4.heap.size]? = some (.cells #[.int .i64 63, .slice none 0 0, .slice none 0 0] 36 (0, 0)))
          (by exact ⟨H7.out.1.trans KC1.out, KC1.out.same H7.out.2.1, H7.out.2.2.1.keep (kc_keeps KC1.out fun _ _ => by simp), KC1.out.same H7.out.2.2.2⟩) (fun W8 HW8 => ?_)
        have H8 := Lib.hid HW8
        clear HW8 H7 gt ge hlt1 hle1 HTR1 KR1 KC1 HRR1
        have HTR2 := Lib.hid H8.out.2.2.1
        go_upto_region 12 with fail
        refine wp_loop_once ?_
        go_upto_region 16 with fail
        have gt := cell_blk H8.out.2.1
        have ge := cell_blk H8.out.2.2.2
        have hlt2 := hk_lt H8.out.2.1
        have hle2 := hk_lt H8.out.2.2.2
        go_region_held3 (fun W' => (∀ o, W'.cell? ⟨w2.heap.size, o, none⟩ = W8.cell? ⟨w2.heap.size, o, none⟩) ∧ (∀ o, W'.cell? ⟨w4.heap.size, o, none⟩ = W8.cell? ⟨w4.heap.size, o, none⟩))
          ((refine two_held0 hlt2 hle2 ?_; (repeat (first | with_reducible exact Keeps.refl _ _ | with_reducible exact (KC2.out) | with_reducible exact (KR2.out) | with_reducible refine Keeps.drew ?_)); done))
          (first
          | (go_at_call 18; refine (xreal_any 40 T _ _ _ _ _ (by omega) HGD.out (HTR2.out.keep (by (repeat (first | with_reducible exact Kc.refl _ _ | with_reducible exact kc_drew))))).mono ?_; rintro e' wq2 hx; obtain ⟨vi, vk, va, rfl, hrep, hk⟩ := xreal_at hx; obtain ⟨p1, q1, p2, q2, p3, q3, rfl, rfl, rfl⟩ := xrep_shape hrep; have KR2 : Hid (Keeps [] W8 wq2) := Lib.hid (Keeps.trans (by (repeat (first | with_reducible exact Keeps.refl _ _ | with_reducible refine Keeps.drew ?_))) hk); have HRR2 := Lib.hid hrep; clear hrep hk hx)
          | (go_at_call 17; refine (HS1.out _ _ _ _ _ _ _ _ HRR2.out ((env_none (W := W8)).keep (kc_keeps KR2.out fun _ _ => by simp))).mono ?_; rintro e' wc2 ⟨rfl, hk⟩; have KC2 : Hid (Keeps [] W8 wc2) := Lib.hid (KR2.out.trans hk); clear hk))
        refine ‹∀ (a : Act) (w : World), _ → _› _ _ ?_
        have HKE := Lib.hid (H8.out.1.trans KC2.out)
        clear H8 gt ge hlt2 hle2 HTR2 KR2 KC2 HRR2
        rcases hor with rfl | hz
        all_goals go_wp2_with fail
        all_goals
          go_ret
          first
          | exact ⟨rfl, HKE.out.nil_below⟩
          | exact ⟨ret_bool hq3, HKE.out.nil_below⟩
      · have hb2 := ht2 hne0
        clear ht1 ht2
        have hln : ((l.length : Int) == 0) = false := by rw [beq_eq_false_iff_ne]; omega
        have hln2 : (l.length == 0) = false := by rw [beq_eq_false_iff_ne]; omega
        have hln3 : ¬ (l.length : Int) = 0 := by omega
        generalize chk (envAll []) T = ca at *
        generalize chk (envAll l) T = cb at *
        obtain ⟨ca1, ca2⟩ := ca
        obtain ⟨cb1, cb2⟩ := cb
        have hq : (cb2 == 13) = false := by rw [beq_eq_false_iff_ne]; exact ht3
        have hq2 : ¬ cb2 = 13 := ht3
        have hq3 : (cb2 != 13) = true := by rw [bne_iff_ne]; exact ht3
        have hz : (ca2 == 0) = false := by rw [beq_eq_false_iff_ne]; exact hb2
        have hz2 : ¬ ca2 = 0 := hb2
        have hz3 : (ca2 != 0) = true := by rw [bne_iff_ne]; exact hb2
        have HDEC := Lib.hid (And.intro hq (And.intro hq2 (And.intro hq3 (And.intro hz (And.intro hz2 hz3)))))
        clear ht3 hb2 hq hq2 hq3 hz hz2 hz3
        go_upto_region 8 with fail
        refine abs_world (F := fun W => Keeps [] w W ∧ W.heap[w2.heap.size]? = some (.cells (T.nine (.slice x1 T.lit.its.length y1) (.slice x2 T.lit.ks.length y2) (.slice x3 T.args.length y3)) 30 (0, 0)) ∧ T.Rep W (w1.heap.size ≤ ·) (.slice x1 T.lit.its.length y1) (.slice x2 T.lit.ks.length y2) (.slice x3 T.args.length y3) ∧ W.heap[w4.heap.size]? = some (.cells #[.int .i64 63, .slice none 0 0, .slice none 0 0] 36 (0, 0)) ∧ Keeps [] w4 W)
          (by exact ⟨(H3.out.1.trans HK4.out).alloc _, hk_alloc (HK4.out.same H3.out.2.1) _, H3.out.2.2.keep (kc_keeps (HK4.out.alloc _) fun _ _ => by simp), new_blk _ _, (Keeps.refl _ _).alloc _⟩) (fun W7 HW7 => ?_)
        have H7 := Lib.hid HW7
        have HM4 := Lib.hid (And.intro (H3.out.1.trans HK4.out) (And.intro (HK4.out.same H3.out.2.1) (H3.out.2.2.keep (kc_keeps HK4.out fun _ _ => by simp))))
        clear HW7 H3 HK4
        have HTR1 := Lib.hid H7.out.2.2.1
        have gt := cell_blk H7.out.2.1
        have ge := cell_blk H7.out.2.2.2.1
        have hlt1 := hk_lt H7.out.2.1
        have hle1 := hk_lt H7.out.2.2.2.1
        go_region_held3 (fun W' => (∀ o, W'.cell? ⟨w2.heap.size, o, none⟩ = W7.cell? ⟨w2.heap.size, o, none⟩) ∧ (∀ o, W'.cell? ⟨w4.heap.size, o, none⟩ = W7.cell? ⟨w4.heap.size, o, none⟩))
          ((refine two_held0 hlt1 hle1 ?_; (repeat (first | with_reducible exact Keeps.refl _ _ | with_reducible exact (KC1.out) | with_reducible exact (KR1.out) | with_reducible refine Keeps.drew ?_)); done))
          (first
          | (go_at_call 18; refine (xreal_any 40 T _ _ _ _ _ (by omega) HGD.out (HTR1.out.keep (by (repeat (first | with_reducible exact Kc.refl _ _ | with_reducible exact kc_drew))))).mono ?_; rintro e' wq1 hx; obtain ⟨vi, vk, va, rfl, hrep, hk⟩ := xreal_at hx; obtain ⟨p1, q1, p2, q2, p3, q3, rfl, rfl, rfl⟩ := xrep_shape hrep; have KR1 : Hid (Keeps [] W7 wq1) := Lib.hid (Keeps.trans (by (repeat (first | with_reducible exact Keeps.refl _ _ | with_reducible refine Keeps.drew ?_))) hk); have HRR1 := Lib.hid hrep; clear hrep hk hx)
          | (go_at_call 17; refine (HS1.out _ _ _ _ _ _ _ _ HRR1.out ((env_none (W := W7)).keep (kc_keeps KR1.out fun _ _ => by simp))).mono ?_; rintro e' wc1 ⟨rfl, hk⟩; have KC1 : Hid (Keeps [] W7 wc1) := Lib.hid (KR1.out.trans hk); clear hk))
        refine ‹∀ (a : Act) (w : World), _ → _› _ _ ?_
        have HG0 := Lib.hid (GrJ.zero (l := l) (KC1.out.same H7.out.2.2.2.1) (H7.out.2.2.2.2.trans KC1.out) (Nat.le_refl _))
        clear H7 gt ge hlt1 hle1 HTR1 KR1 KC1 HRR1
        go_upto_region 12 with fail
        go_loopw [49] (fun v W => ∃ (j : Nat) (vN vS : Value), j ≤ l.length ∧ v = .int .i64 j ∧ Hid (GrJ w4.heap.size w4 l j vN vS W)) (fun v _ => l.length - (intOf v).toNat)
        case atStart => exact ⟨0, _, _, Nat.zero_le _, rfl, HG0⟩
        case round =>
          obtain ⟨j, vN, vS, hj, rfl, HQ⟩ := hrel
          by_cases hlt : j < l.length
          · have hd : decide ((j : Int) < (l.length : Int)) = true := decide_eq_true (by omega)
            have HR5 := Lib.hid (HRW.out.keep HQ.out.keeps)
            obtain ⟨g', o', c', hv, _, _, _, hcells⟩ := HR5.out.sl.at (by omega)
            cases hv
            have y0 := hcells j (.string l[j]) (by rw [List.getElem?_map, List.getElem?_eq_getElem hlt]; rfl)
            clear hcells
            go_upto_region 14 with fail
            refine till_start (by kernel_rfl) [10, 11, 12] (fun W' => W'.heap[w4.heap.size]? = some (.cells #[.int .i64 63, vN, vS] 36 (0, 0))) ?_
            have HD := Lib.hid HQ.out.drew
            have hlj : j ≤ 600 := by omega
            generalize wr.drew = wd at *
            refine till_take (i := 0) (oi := { dst := some 53, op := Op.fieldAddr 36 (Operand.tmp 7) 1, type := 0, pos := "law.go:99", after := #[], guard := none }) (v := .pointer (some ⟨w4.heap.size, 1, none⟩)) rfl (by kernel_rfl) (by kernel_rfl) (by kernel_rfl) (by kernel_rfl) (by kernel_rfl) (fun _ _ _ h => h) (Or.inl ⟨by rfl, ?_⟩) HD.out.blk rfl ?_
            · intro W hS
              have gs := cell_blk hS
              go_simp
            simp only [Act.put, List.setIfInBounds_toArray, List.set_cons_zero, List.set_cons_succ]
            refine till_take (i := 2) (oi := { dst := some 55, op := Op.move (Operand.tmp 11), type := 9, pos := "law.go:99", after := #[], guard := none }) (v := .string l[j]) rfl (by kernel_rfl) (by kernel_rfl) (by kernel_rfl) (by kernel_rfl) (by kernel_rfl) (fun _ _ _ h => h) (Or.inl ⟨by rfl, ?_⟩) HD.out.blk rfl ?_
            · intro W hS
              have gs := cell_blk hS
              go_simp
            simp only [Act.put, List.setIfInBounds_toArray, List.set_cons_zero, List.set_cons_succ]
            refine till_take (i := 5) (oi := { dst := some 58, op := Op.fieldAddr 36 (Operand.tmp 7) 2, type := 0, pos := "law.go:99", after := #[], guard := none }) (v := .pointer (some ⟨w4.heap.size, 2, none⟩)) rfl (by kernel_rfl) (by kernel_rfl) (by kernel_rfl) (by kernel_rfl) (by kernel_rfl) (fun _ _ _ h => h) (Or.inl ⟨by rfl, ?_⟩) HD.out.blk rfl ?_
            · intro W hS
              have gs := cell_blk hS
              go_simp
            simp only [Act.put, List.setIfInBounds_toArray, List.set_cons_zero, List.set_cons_succ]
            refine till_take (i := 1) (oi := { dst := some 54, op := Op.load 25 (Operand.tmp 53), type := 25, pos := "law.go:99", after := #[{ on := 0, ground := Ground.data }], guard := none }) (v := vN) rfl (by kernel_rfl) (by kernel_rfl) (by kernel_rfl) (by kernel_rfl) (by kernel_rfl) (fun _ _ _ h => h) (Or.inl ⟨by rfl, ?_⟩) HD.out.blk rfl ?_
            · intro W hS
              have gs := cell_blk hS
              go_simp
            simp only [Act.put, List.setIfInBounds_toArray, List.set_cons_zero, List.set_cons_succ]
            refine till_take (i := 6) (oi := { dst := some 59, op := Op.load 34 (Operand.tmp 58), type := 34, pos := "law.go:99", after := #[{ on := 5, ground := Ground.data }], guard := none }) (v := vS) rfl (by kernel_rfl) (by kernel_rfl) (by kernel_rfl) (by kernel_rfl) (by kernel_rfl) (fun _ _ _ h => h) (Or.inl ⟨by rfl, ?_⟩) HD.out.blk rfl ?_
            · intro W hS
              have gs := cell_blk hS
              go_simp
            simp only [Act.put, List.setIfInBounds_toArray, List.set_cons_zero, List.set_cons_succ]
            refine till_ready (rs := [3, 7]) (by kernel_rfl) (by simp) ?_
            refine (AllTill.cons (o := { dst := some 56, op := Op.buildSlice 25 1 #[(0, Operand.tmp 55)], type := 25, pos := "law.go:99", after := #[{ on := 2, ground := Ground.data }], guard := none }) rfl (fun K hK => ?_) (AllTill.cons (o := { dst := some 60, op := Op.buildSlice 34 1 #[(0, Operand.const (Value.int IntKind.i64 63))], type := 34, pos := "law.go:99", after := #[], guard := none }) rfl (fun K hK => ?_) AllTill.nil))
            · go_simp
              refine hK.out _ _ (fun _ => (HD.out.alloc _).blk) ?_
              clear hK K
              refine till_ready (rs := [4, 7]) (by kernel_rfl) (by simp) ?_
              refine (AllTill.cons (o := { dst := some 57, op := Op.call { callee := Callee.builtin Builtin.append, args := #[Operand.tmp 54, Operand.tmp 56], argTypes := #[25, 25] }, type := 25, pos := "law.go:99", after := #[{ on := 1, ground := Ground.data }, { on := 3, ground := Ground.data }], guard := none }) rfl (fun K hK => ?_) (AllTill.cons (o := { dst := some 60, op := Op.buildSlice 34 1 #[(0, Operand.const (Value.int IntKind.i64 63))], type := 34, pos := "law.go:99", after := #[], guard := none }) rfl (fun K hK => ?_) AllTill.nil))
              · refine step_append_sl rfl _ _ _ rfl rfl elem_st (v := vN) (base := w4.heap.size + 1) (x := .slice (some ⟨wd.heap.size, 0, none⟩) 1 1) (S := fun _ => True) rfl rfl (HD.out.alloc _).nm (Sl.of_blk (n := 1) (new_blk _ _) trivial rfl) (one_str [l[j]]) (by unfold maxLen; omega) (by omega) (by exact Nat.succ_le_of_lt (hk_lt (HD.out.alloc _).blk)) ?_
                intro vM GAw ho hg hv
                have GA := Lib.hid ((HD.out.alloc _).app1 ho hg hv)
                clear ho hg hv
                refine hK.out _ _ (fun _ => GA.out.blk) ?_
                clear hK K
                refine till_take (i := 9) (oi := { dst := some 62, op := Op.fieldAddr 36 (Operand.tmp 7) 1, type := 0, pos := "law.go:99", after := #[{ on := 0, ground := Ground.phase }, { on := 1, ground := Ground.phase }, { on := 2, ground := Ground.phase }, { on := 3, ground := Ground.phase }, { on := 4, ground := Ground.phase }, { on := 5, ground := Ground.phase }, { on := 6, ground := Ground.phase }, { on := 7, ground := Ground.textOnly Departure.lateStores }, { on := 8, ground := Ground.textOnly Departure.lateStoresUnsure }], guard := none }) (v := .pointer (some ⟨w4.heap.size, 1, none⟩)) rfl (by kernel_rfl) (by kernel_rfl) (by kernel_rfl) (by kernel_rfl) (by kernel_rfl) (fun _ _ _ h => h) (Or.inl ⟨by rfl, ?_⟩) GA.out.blk rfl ?_
                · intro W hS
                  have gs := cell_blk hS
                  go_simp
                simp only [Act.put, List.setIfInBounds_toArray, List.set_cons_zero, List.set_cons_succ]
                refine till_ready (rs := [7]) (by kernel_rfl) (by simp) ?_
                refine (AllTill.cons (o := { dst := some 60, op := Op.buildSlice 34 1 #[(0, Operand.const (Value.int IntKind.i64 63))], type := 34, pos := "law.go:99", after := #[], guard := none }) rfl (fun K hK => ?_) AllTill.nil)
                go_simp
                refine hK.out _ _ (fun _ => (GA.out.alloc _).blk) ?_
                clear hK K
                refine till_ready (rs := [8]) (by kernel_rfl) (by simp) ?_
                refine (AllTill.cons (o := { dst := some 61, op := Op.call { callee := Callee.builtin Builtin.append, args := #[Operand.tmp 59, Operand.tmp 60], argTypes := #[34, 34] }, type := 34, pos := "law.go:99", after := #[{ on := 6, ground := Ground.data }, { on := 7, ground := Ground.data }, { on := 4, ground := Ground.chain }], guard := none }) rfl (fun K hK => ?_) AllTill.nil)
                refine step_append_sl rfl _ _ _ rfl rfl elem_so (v := vS) (base := w4.heap.size + 1) (x := .slice (some ⟨GAw.heap.size, 0, none⟩) 1 1) (S := fun _ => True) rfl rfl (GA.out.alloc _).so (Sl.of_blk (n := 1) (new_blk _ _) trivial rfl) (one_int [63]) (by unfold maxLen; omega) (by omega) (by exact Nat.succ_le_of_lt (hk_lt (GA.out.alloc _).blk)) ?_
                intro vT GZw ho hg hv
                have GZ := Lib.hid ((GA.out.alloc _).app2 ho hg hv)
                clear ho hg hv
                refine hK.out _ _ (fun _ => GZ.out.blk) ?_
                clear hK K
                obtain ⟨aM, cM, rfl⟩ := own_slice GZ.out.nm
                obtain ⟨aT, cT, rfl⟩ := own_slice GZ.out.so
                have gz := cell_blk GZ.out.blk
                have gzf := frozen_blk GZ.out.blk
                have hlz := hk_lt GZ.out.blk
                clear y0 HR5
                refine till_ready (rs := [10]) (by kernel_rfl) (by simp) ?_
                refine (AllTill.cons (o := { dst := none, op := Op.store 25 (Operand.tmp 62) (Operand.tmp 57), type := 0, pos := "law.go:99", after := #[{ on := 9, ground := Ground.data }, { on := 4, ground := Ground.data }, { on := 8, ground := Ground.chain }, { on := 0, ground := Ground.phase }, { on := 1, ground := Ground.phase }, { on := 2, ground := Ground.phase }, { on := 3, ground := Ground.phase }, { on := 4, ground := Ground.phase }, { on := 5, ground := Ground.phase }, { on := 6, ground := Ground.phase }, { on := 7, ground := Ground.textOnly Departure.lateStores }, { on := 8, ground := Ground.textOnly Departure.lateStoresUnsure }], guard := none }) rfl (fun K hK => ?_) AllTill.nil)
                go_simp
                refine hK.out _ _ (fun h => (h (by simp)).elim) ?_
                clear hK K
                refine till_ready (rs := [11]) (by kernel_rfl) (by simp) ?_
                refine (AllTill.cons (o := { dst := some 63, op := Op.fieldAddr 36 (Operand.tmp 7) 2, type := 0, pos := "law.go:99", after := #[{ on := 0, ground := Ground.phase }, { on := 1, ground := Ground.phase }, { on := 2, ground := Ground.phase }, { on := 3, ground := Ground.phase }, { on := 4, ground := Ground.phase }, { on := 5, ground := Ground.phase }, { on := 6, ground := Ground.phase }, { on := 7, ground := Ground.phase }, { on := 8, ground := Ground.phase }, { on := 9, ground := Ground.phase }, { on := 10, ground := Ground.phase }], guard := none }) rfl (fun K hK => ?_) AllTill.nil)
                go_simp
                refine hK.out _ _ (fun h => (h (by simp)).elim) ?_
                clear hK K
                refine till_ready (rs := [12]) (by kernel_rfl) (by simp) ?_
                refine (AllTill.cons (o := { dst := none, op := Op.store 34 (Operand.tmp 63) (Operand.tmp 61), type := 0, pos := "law.go:99", after := #[{ on := 11, ground := Ground.data }, { on := 8, ground := Ground.data }, { on := 10, ground := Ground.chain }, { on := 0, ground := Ground.phase }, { on := 1, ground := Ground.phase }, { on := 2, ground := Ground.phase }, { on := 3, ground := Ground.phase }, { on := 4, ground := Ground.phase }, { on := 5, ground := Ground.phase }, { on := 6, ground := Ground.phase }, { on := 7, ground := Ground.phase }, { on := 8, ground := Ground.phase }, { on := 9, ground := Ground.phase }, { on := 10, ground := Ground.phase }], guard := none }) rfl (fun K hK => ?_) AllTill.nil)
                go_simp
                refine hK.out _ _ (fun h => (h (by simp)).elim) ?_
                clear hK K
                refine till_done (by kernel_rfl) ?_ _
                refine ‹∀ (a : Act) (w : World), _ → _› _ _ ?_
                refine abs_world (F := fun W => GrJ w4.heap.size w4 l (j + 1) (.slice aM (j + 1) cM) (.slice aT (j + 1) cT) W) (by exact GrJ.next hlt GZ.out) (fun W9 HW9 => ?_)
                have H9 := Lib.hid HW9
                clear HW9 gz gzf hlz
                go_wp2_with fail
                go_roundw
                case rel => exact ⟨j + 1, _, _, hlt, by go_num, H9⟩
                case measure => simp [intOf]; omega
              · go_simp
                refine hK.out _ _ (fun _ => ((Lib.hid (HD.out.alloc _)).out.alloc _).blk) ?_
                clear hK K
                refine till_ready (rs := [4]) (by kernel_rfl) (by simp) ?_
                refine (AllTill.cons (o := { dst := some 57, op := Op.call { callee := Callee.builtin Builtin.append, args := #[Operand.tmp 54, Operand.tmp 56], argTypes := #[25, 25] }, type := 25, pos := "law.go:99", after := #[{ on := 1, ground := Ground.data }, { on := 3, ground := Ground.data }], guard := none }) rfl (fun K hK => ?_) AllTill.nil)
                refine step_append_sl rfl _ _ _ rfl rfl elem_st (v := vN) (base := w4.heap.size + 1) (x := .slice (some ⟨wd.heap.size, 0, none⟩) 1 1) (S := fun _ => True) rfl rfl ((HD.out.alloc _).alloc _).nm (Sl.of_blk (n := 1) (hk_alloc (new_blk _ _) _) trivial rfl) (one_str [l[j]]) (by unfold maxLen; omega) (by omega) (by exact Nat.succ_le_of_lt (hk_lt ((HD.out.alloc _).alloc _).blk)) ?_
                intro vM GAw ho hg hv
                have GA := Lib.hid (((HD.out.alloc _).alloc _).app1 ho hg hv)
                have BX := Lib.hid (hk_grow (new_blk1 wd (.cells #[.string l[j]] 9) (.cells #[.int .i64 63] 33)) hg (fun e => by have := (HD.out.nm.lt _ e.symm).2; simp only [World.size_alloc] at *; omega))
                clear ho hg hv
                refine hK.out _ _ (fun _ => GA.out.blk) ?_
                clear hK K
                refine till_take (i := 9) (oi := { dst := some 62, op := Op.fieldAddr 36 (Operand.tmp 7) 1, type := 0, pos := "law.go:99", after := #[{ on := 0, ground := Ground.phase }, { on := 1, ground := Ground.phase }, { on := 2, ground := Ground.phase }, { on := 3, ground := Ground.phase }, { on := 4, ground := Ground.phase }, { on := 5, ground := Ground.phase }, { on := 6, ground := Ground.phase }, { on := 7, ground := Ground.textOnly Departure.lateStores }, { on := 8, ground := Ground.textOnly Departure.lateStoresUnsure }], guard := none }) (v := .pointer (some ⟨w4.heap.size, 1, none⟩)) rfl (by kernel_rfl) (by kernel_rfl) (by kernel_rfl) (by kernel_rfl) (by kernel_rfl) (fun _ _ _ h => h) (Or.inl ⟨by rfl, ?_⟩) GA.out.blk rfl ?_
                · intro W hS
                  have gs := cell_blk hS
                  go_simp
                simp only [Act.put, List.setIfInBounds_toArray, List.set_cons_zero, List.set_cons_succ]
                refine till_ready (rs := [8]) (by kernel_rfl) (by simp) ?_
                refine (AllTill.cons (o := { dst := some 61, op := Op.call { callee := Callee.builtin Builtin.append, args := #[Operand.tmp 59, Operand.tmp 60], argTypes := #[34, 34] }, type := 34, pos := "law.go:99", after := #[{ on := 6, ground := Ground.data }, { on := 7, ground := Ground.data }, { on := 4, ground := Ground.chain }], guard := none }) rfl (fun K hK => ?_) AllTill.nil)
                refine step_append_sl rfl _ _ _ rfl rfl elem_so (v := vS) (base := w4.heap.size + 1) (x := .slice (some ⟨(wd.heap.size + 1), 0, none⟩) 1 1) (S := fun _ => True) rfl rfl GA.out.so (Sl.of_blk (n := 1) BX.out trivial rfl) (one_int [63]) (by unfold maxLen; omega) (by omega) (by exact Nat.succ_le_of_lt (hk_lt GA.out.blk)) ?_
                intro vT GZw ho hg hv
                have GZ := Lib.hid (GA.out.app2 ho hg hv)
                clear ho hg hv
                refine hK.out _ _ (fun _ => GZ.out.blk) ?_
                clear hK K
                obtain ⟨aM, cM, rfl⟩ := own_slice GZ.out.nm
                obtain ⟨aT, cT, rfl⟩ := own_slice GZ.out.so
                have gz := cell_blk GZ.out.blk
                have gzf := frozen_blk GZ.out.blk
                have hlz := hk_lt GZ.out.blk
                clear y0 HR5
                refine till_ready (rs := [10]) (by kernel_rfl) (by simp) ?_
                refine (AllTill.cons (o := { dst := none, op := Op.store 25 (Operand.tmp 62) (Operand.tmp 57), type := 0, pos := "law.go:99", after := #[{ on := 9, ground := Ground.data }, { on := 4, ground := Ground.data }, { on := 8, ground := Ground.chain }, { on := 0, ground := Ground.phase }, { on := 1, ground := Ground.phase }, { on := 2, ground := Ground.phase }, { on := 3, ground := Ground.phase }, { on := 4, ground := Ground.phase }, { on := 5, ground := Ground.phase }, { on := 6, ground := Ground.phase }, { on := 7, ground := Ground.textOnly Departure.lateStores }, { on := 8, ground := Ground.textOnly Departure.lateStoresUnsure }], guard := none }) rfl (fun K hK => ?_) AllTill.nil)
                go_simp
                refine hK.out _ _ (fun h => (h (by simp)).elim) ?_
                clear hK K
                refine till_ready (rs := [11]) (by kernel_rfl) (by simp) ?_
                refine (AllTill.cons (o := { dst := some 63, op := Op.fieldAddr 36 (Operand.tmp 7) 2, type := 0, pos := "law.go:99", after := #[{ on := 0, ground := Ground.phase }, { on := 1, ground := Ground.phase }, { on := 2, ground := Ground.phase }, { on := 3, ground := Ground.phase }, { on := 4, ground := Ground.phase }, { on := 5, ground := Ground.phase }, { on := 6, ground := Ground.phase }, { on := 7, ground := Ground.phase }, { on := 8, ground := Ground.phase }, { on := 9, ground := Ground.phase }, { on := 10, ground := Ground.phase }], guard := none }) rfl (fun K hK => ?_) AllTill.nil)
                go_simp
                refine hK.out _ _ (fun h => (h (by simp)).elim) ?_
                clear hK K
                refine till_ready (rs := [12]) (by kernel_rfl) (by simp) ?_
                refine (AllTill.cons (o := { dst := none, op := Op.store 34 (Operand.tmp 63) (Operand.tmp 61), type := 0, pos := "law.go:99", after := #[{ on := 11, ground := Ground.data }, { on := 8, ground := Ground.data }, { on := 10, ground := Ground.chain }, { on := 0, ground := Ground.phase }, { on := 1, ground := Ground.phase }, { on := 2, ground := Ground.phase }, { on := 3, ground := Ground.phase }, { on := 4, ground := Ground.phase }, { on := 5, ground := Ground.phase }, { on := 6, ground := Ground.phase }, { on := 7, ground := Ground.phase }, { on := 8, ground := Ground.phase }, { on := 9, ground := Ground.phase }, { on := 10, ground := Ground.phase }], guard := none }) rfl (fun K hK => ?_) AllTill.nil)
                go_simp
                refine hK.out _ _ (fun h => (h (by simp)).elim) ?_
                clear hK K
                refine till_done (by kernel_rfl) ?_ _
                refine ‹∀ (a : Act) (w : World), _ → _› _ _ ?_
                refine abs_world (F := fun W => GrJ w4.heap.size w4 l (j + 1) (.slice aM (j + 1) cM) (.slice aT (j + 1) cT) W) (by exact GrJ.next hlt GZ.out) (fun W9 HW9 => ?_)
                have H9 := Lib.hid HW9
                clear HW9 gz gzf hlz
                go_wp2_with fail
                go_roundw
                case rel => exact ⟨j + 1, _, _, hlt, by go_num, H9⟩
                case measure => simp [intOf]; omega
            · go_simp
              refine hK.out _ _ (fun _ => (HD.out.alloc _).blk) ?_
              clear hK K
              refine till_ready (rs := [3]) (by kernel_rfl) (by simp) ?_
              refine (AllTill.cons (o := { dst := some 56, op := Op.buildSlice 25 1 #[(0, Operand.tmp 55)], type := 25, pos := "law.go:99", after := #[{ on := 2, ground := Ground.data }], guard := none }) rfl (fun K hK => ?_) AllTill.nil)
              go_simp
              refine hK.out _ _ (fun _ => ((Lib.hid (HD.out.alloc _)).out.alloc _).blk) ?_
              clear hK K
              refine till_ready (rs := [4]) (by kernel_rfl) (by simp) ?_
              refine (AllTill.cons (o := { dst := some 57, op := Op.call { callee := Callee.builtin Builtin.append, args := #[Operand.tmp 54, Operand.tmp 56], argTypes := #[25, 25] }, type := 25, pos := "law.go:99", after := #[{ on := 1, ground := Ground.data }, { on := 3, ground := Ground.data }], guard := none }) rfl (fun K hK => ?_) AllTill.nil)
              refine step_append_sl rfl _ _ _ rfl rfl elem_st (v := vN) (base := w4.heap.size + 1) (x := .slice (some ⟨(wd.heap.size + 1), 0, none⟩) 1 1) (S := fun _ => True) rfl rfl ((HD.out.alloc _).alloc _).nm (Sl.of_blk (n := 1) (new_blk1 wd (.cells #[.int .i64 63] 33) (.cells #[.string l[j]] 9)) trivial rfl) (one_str [l[j]]) (by unfold maxLen; omega) (by omega) (by exact Nat.succ_le_of_lt (hk_lt ((HD.out.alloc _).alloc _).blk)) ?_
              intro vM GAw ho hg hv
              have GA := Lib.hid (((HD.out.alloc _).alloc _).app1 ho hg hv)
              have BX := Lib.hid (hk_grow (hk_alloc (new_blk wd (.cells #[.int .i64 63] 33)) (.cells #[.string l[j]] 9)) hg (fun e => by have := (HD.out.nm.lt _ e.symm).2; simp only [World.size_alloc] at *; omega))
              clear ho hg hv
              refine hK.out _ _ (fun _ => GA.out.blk) ?_
              clear hK K
              refine till_take (i := 9) (oi := { dst := some 62, op := Op.fieldAddr 36 (Operand.tmp 7) 1, type := 0, pos := "law.go:99", after := #[{ on := 0, ground := Ground.phase }, { on := 1, ground := Ground.phase }, { on := 2, ground := Ground.phase }, { on := 3, ground := Ground.phase }, { on := 4, ground := Ground.phase }, { on := 5, ground := Ground.phase }, { on := 6, ground := Ground.phase }, { on := 7, ground := Ground.textOnly Departure.lateStores }, { on := 8, ground := Ground.textOnly Departure.lateStoresUnsure }], guard := none }) (v := .pointer (some ⟨w4.heap.size, 1, none⟩)) rfl (by kernel_rfl) (by kernel_rfl) (by kernel_rfl) (by kernel_rfl) (by kernel_rfl) (fun _ _ _ h => h) (Or.inl ⟨by rfl, ?_⟩) GA.out.blk rfl ?_
              · intro W hS
                have gs := cell_blk hS
                go_simp
              simp only [Act.put, List.setIfInBounds_toArray, List.set_cons_zero, List.set_cons_succ]
              refine till_ready (rs := [8]) (by kernel_rfl) (by simp) ?_
              refine (AllTill.cons (o := { dst := some 61, op := Op.call { callee := Callee.builtin Builtin.append, args := #[Operand.tmp 59, Operand.tmp 60], argTypes := #[34, 34] }, type := 34, pos := "law.go:99", after := #[{ on := 6, ground := Ground.data }, { on := 7, ground := Ground.data }, { on := 4, ground := Ground.chain }], guard := none }) rfl (fun K hK => ?_) AllTill.nil)
              refine step_append_sl rfl _ _ _ rfl rfl elem_so (v := vS) (base := w4.heap.size + 1) (x := .slice (some ⟨wd.heap.size, 0, none⟩) 1 1) (S := fun _ => True) rfl rfl GA.out.so (Sl.of_blk (n := 1) BX.out trivial rfl) (one_int [63]) (by unfold maxLen; omega) (by omega) (by exact Nat.succ_le_of_lt (hk_lt GA.out.blk)) ?_
              intro vT GZw ho hg hv
              have GZ := Lib.hid (GA.out.app2 ho hg hv)
              clear ho hg hv
              refine hK.out _ _ (fun _ => GZ.out.blk) ?_
              clear hK K
              obtain ⟨aM, cM, rfl⟩ := own_slice GZ.out.nm
              obtain ⟨aT, cT, rfl⟩ := own_slice GZ.out.so
              have gz := cell_blk GZ.out.blk
              have gzf := frozen_blk GZ.out.blk
              have hlz := hk_lt GZ.out.blk
              clear y0 HR5
              refine till_ready (rs := [10]) (by kernel_rfl) (by simp) ?_
              refine (AllTill.cons (o := { dst := none, op := Op.store 25 (Operand.tmp 62) (Operand.tmp 57), type := 0, pos := "law.go:99", after := #[{ on := 9, ground := Ground.data }, { on := 4, ground := Ground.data }, { on := 8, ground := Ground.chain }, { on := 0, ground := Ground.phase }, { on := 1, ground := Ground.phase }, { on := 2, ground := Ground.phase }, { on := 3, ground := Ground.phase }, { on := 4, ground := Ground.phase }, { on := 5, ground := Ground.phase }, { on := 6, ground := Ground.phase }, { on := 7, ground := Ground.textOnly Departure.lateStores }, { on := 8, ground := Ground.textOnly Departure.lateStoresUnsure }], guard := none }) rfl (fun K hK => ?_) AllTill.nil)
              go_simp
              refine hK.out _ _ (fun h => (h (by simp)).elim) ?_
              clear hK K
              refine till_ready (rs := [11]) (by kernel_rfl) (by simp) ?_
              refine (AllTill.cons (o := { dst := some 63, op := Op.fieldAddr 36 (Operand.tmp 7) 2, type := 0, pos := "law.go:99", after := #[{ on := 0, ground := Ground.phase }, { on := 1, ground := Ground.phase }, { on := 2, ground := Ground.phase }, { on := 3, ground := Ground.phase }, { on := 4, ground := Ground.phase }, { on := 5, ground := Ground.phase }, { on := 6, ground := Ground.phase }, { on := 7, ground := Ground.phase }, { on := 8, ground := Ground.phase }, { on := 9, ground := Ground.phase }, { on := 10, ground := Ground.phase }], guard := none }) rfl (fun K hK => ?_) AllTill.nil)
              go_simp
              refine hK.out _ _ (fun h => (h (by simp)).elim) ?_
              clear hK K
              refine till_ready (rs := [12]) (by kernel_rfl) (by simp) ?_
              refine (AllTill.cons (o := { dst := none, op := Op.store 34 (Operand.tmp 63) (Operand.tmp 61), type := 0, pos := "law.go:99", after := #[{ on := 11, ground := Ground.data }, { on := 8, ground := Ground.data }, { on := 10, ground := Ground.chain }, { on := 0, ground := Ground.phase }, { on := 1, ground := Ground.phase }, { on := 2, ground := Ground.phase }, { on := 3, ground := Ground.phase }, { on := 4, ground := Ground.phase }, { on := 5, ground := Ground.phase }, { on := 6, ground := Ground.phase }, { on := 7, ground := Ground.phase }, { on := 8, ground := Ground.phase }, { on := 9, ground := Ground.phase }, { on := 10, ground := Ground.phase }], guard := none }) rfl (fun K hK => ?_) AllTill.nil)
              go_simp
              refine hK.out _ _ (fun h => (h (by simp)).elim) ?_
              clear hK K
              refine till_done (by kernel_rfl) ?_ _
              refine ‹∀ (a : Act) (w : World), _ → _› _ _ ?_
              refine abs_world (F := fun W => GrJ w4.heap.size w4 l (j + 1) (.slice aM (j + 1) cM) (.slice aT (j + 1) cT) W) (by exact GrJ.next hlt GZ.out) (fun W9 HW9 => ?_)
              have H9 := Lib.hid HW9
              clear HW9 gz gzf hlz
              go_wp2_with fail
              go_roundw
              case rel => exact ⟨j + 1, _, _, hlt, by go_num, H9⟩
              case measure => simp [intOf]; omega
          · obtain rfl : j = l.length := by omega
            have hd : decide ((l.length : Int) < (l.length : Int)) = false := decide_eq_false (by omega)
            have HE := Lib.hid (HQ.out.env (by omega))
            obtain ⟨aN, cN, rfl⟩ := own_slice HQ.out.nm
            obtain ⟨aS, cS, rfl⟩ := own_slice HQ.out.so
            have HM8 := Lib.hid (And.intro (HM4.out.1.trans HQ.out.keeps) (And.intro (HQ.out.keeps.same HM4.out.2.1) (HM4.out.2.2.keep (kc_keeps HQ.out.keeps fun _ _ => by simp))))
            have HBK := Lib.hid HQ.out.blk
            have HTR2 := Lib.hid HM8.out.2.2
            clear HG0 HM4 HRW HQ
            go_upto_region 16 with fail
            have gt := cell_blk HM8.out.2.1
            have ge := cell_blk HBK.out
            have hlt2 := hk_lt HM8.out.2.1
            have hle2 := hk_lt HBK.out
            go_region_held3 (fun W' => (∀ o, W'.cell? ⟨w2.heap.size, o, none⟩ = wr.cell? ⟨w2.heap.size, o, none⟩) ∧ (∀ o, W'.cell? ⟨w4.heap.size, o, none⟩ = wr.cell? ⟨w4.heap.size, o, none⟩))
              ((refine two_held0 hlt2 hle2 ?_; (repeat (first | with_reducible exact Keeps.refl _ _ | with_reducible exact (KC2.out) | with_reducible exact (KR2.out) | with_reducible refine Keeps.drew ?_)); done))
              (first
              | (go_at_call 18; refine (xreal_any 40 T _ _ _ _ _ (by omega) HGD.out (HTR2.out.keep (by (repeat (first | with_reducible exact Kc.refl _ _ | with_reducible exact kc_drew))))).mono ?_; rintro e' wq2 hx; obtain ⟨vi, vk, va, rfl, hrep, hk⟩ := xreal_at hx; obtain ⟨p1, q1, p2, q2, p3, q3, rfl, rfl, rfl⟩ := xrep_shape hrep; have KR2 : Hid (Keeps [] wr wq2) := Lib.hid (Keeps.trans (by (repeat (first | with_reducible exact Keeps.refl _ _ | with_reducible refine Keeps.drew ?_))) hk); have HRR2 := Lib.hid hrep; clear hrep hk hx)
              | (go_at_call 17; refine (HS2.out _ _ _ _ _ _ _ _ HRR2.out (HE.out.keep (kc_keeps KR2.out fun _ _ => by simp))).mono ?_; rintro e' wc2 ⟨rfl, hk⟩; have KC2 : Hid (Keeps [] wr wc2) := Lib.hid (KR2.out.trans hk); clear hk))
            refine ‹∀ (a : Act) (w : World), _ → _› _ _ ?_
            have HKE := Lib.hid (HM8.out.1.trans KC2.out)
            clear HM8 HBK gt ge hlt2 hle2 HTR2 KR2 KC2 HRR2 HE
            obtain ⟨hq, hq2, hq3, hz, hz2, hz3⟩ := HDEC.out
            go_wp2_with fail
            all_goals
              go_ret
              first
              | exact ⟨rfl, HKE.out.nil_below⟩
              | exact ⟨ret_bool hq3, HKE.out.nil_below⟩
    · have hne : (cd == 0) = false := by rw [beq_eq_false_iff_ne]; exact hc
      clear HG hc
      go_wp2_with fail
      go_ret
      exact ⟨rfl, (HK2.out.alloc _).nil_below⟩
  · go_wp2_with fail
    refine (HA.out _ HK1.out).mono ?_
    rintro e2 w2 ⟨rfl, hk2⟩
    have HK2 := Lib.hid (HK1.out.trans hk2)
    clear hk2
    go_wp2_with fail
    go_ret
    exact ⟨rfl, HK2.out.nil_below⟩
end
end Go.Proofs.YtdlkdecigpaaaaaGreatDoor
