/- TokenEscapes: the law's walk (printed by wip/esc_print.py). -/
import Derived.Test.YtlnmjpacagimnaaDoorEscH
namespace Go.Proofs.YtlnmjpacagimnaaDoor
set_option linter.unusedVariables false
set_option linter.unusedSimpArgs false
open Go.RowKit

set_option maxRecDepth 20000 in
set_option maxHeartbeats 4000000 in
theorem esc_0 (n m : Int) (g : Bool) (w : World) (hv : VarOk w) (hn0 : 0 ≤ n) (hn1 : n ≤ 4294967295) (hm0 : 0 ≤ m) (hm1 : m ≤ 255) (hk : m % 5 = 0) :
    Calls Tryd.prog 6 #[.int .u32 n, .bool g, .int .u8 m] w fun e w' => e = .returned (.bool true) ∧ Below w.heap.size w w' := by
  have HV := Lib.hid hv
  have HK := Lib.hid (fun W (hb : Below w.heap.size w W) => HV.out.keeps (Keeps.below (S := []) hb) (by simp))
  have HW0 := Lib.hid (awake_any w hv)
  have hp : 0 ≤ n % 1114112 ∧ n % 1114112 < 1114112 := by omega
  obtain ⟨hp0, hp1⟩ := hp
  clear hv
  go_enter Tryd.func6, Tryd.ntmps6
  go_wp2_with fail
  refine HW0.out.mono ?_
  rintro e' w1 ⟨rfl, hb1⟩
  have HB1 := Lib.hid hb1
  clear hb1
  go_wp2_with fail
  have IX : ∀ w : World, (Instr.index 43 (.agg #[.string ⟨#[]⟩, .string ⟨#[97]⟩, .string ⟨#[92, 110]⟩, .string ⟨#[92, 117, 48, 48, 52, 49]⟩, .string ⟨#[92]⟩]) (.int .u8 0)).run Tryd.prog w = .ok (.string ⟨#[]⟩) w := fun _ => by kernel_rfl
  have hk2 : m.tmod 5 = 0 := by rw [Int.tmod_eq_emod_of_nonneg hm0]; exact hk
  go_quiet (fail)
  have HB2 : Hid (Below w.heap.size w (w1.drewN nq)) := Lib.hid (bl_drewN HB1.out nq)
  generalize w1.drewN nq = w2 at HB2 ⊢
  clear HB1 IX hk2 HW0 HV
  generalize n % 1114112 = p at *
  by_cases hb : 65536 ≤ p
  · have HE := Lib.hid (esc2_all (g := g) (k := 0) hb hp1 (by decide))
    have HA : Hid (∀ W, Below w.heap.size w W → Calls Tryd.prog 10 #[.string (uOf (s2 p g) 0)] W (AllSays 32 (allOf (uOf (s2 p g) 0)) W)) := Lib.hid (fun W hb => all_any _ W (by rw [uOf_size, s2_size]; have := (more_size 0).1; omega) (HK.out W hb))
    have hpt := point_big hb hp1
    have HIS := Lib.hid (fun W => (hpt ▸ ris_any p W : Calls Tryd.prog 17 #[.int .i64 p] W fun e w' => e = .returned (.bool true) ∧ W = w'))
    have HTX := Lib.hid (text_one p hpt)
    clear hpt
    have hq : 0 ≤ (p - 65536) / 1024 ∧ (p - 65536) / 1024 ≤ 1023 := by omega
    have hr : 0 ≤ (p - 65536) % 1024 ∧ (p - 65536) % 1024 ≤ 1023 := by omega
    obtain ⟨hq0, hq1⟩ := hq
    obtain ⟨hr0, hr1⟩ := hr
    have HX1 := Lib.hid (fun W => hexv_any (55296 + (p - 65536) / 1024) g W (by omega) (by omega))
    have HX2 := Lib.hid (fun W => hexv_any (56320 + (p - 65536) % 1024) g W (by omega) (by omega))
    go_wp2_with (go_at_call 16; with_reducible refine (HX1.out _).mono ?_; rintro e w' ⟨sa, rfl, hsa, HSA, rfl⟩)
    refine (HX2.out _).mono ?_
    rintro e w' ⟨sb, rfl, hsb, HSB, rfl⟩
    clear HX1 HX2 hq0 hq1 hr0 hr1
    obtain ⟨st, tk, hall⟩ := HE.out.2 (by first | trivial | decide)
    rw [hall] at HA
    clear hall HE
    obtain ⟨T, HT⟩ : ∃ T, Hid (T = textS ([120, p] ++ addL 0)) := ⟨_, Lib.hid rfl⟩
    rw [← HT.out] at HA
    · unfold uOf s2 moreB at HA
      rw [← HSA.out, ← HSB.out] at HA
      clear HSA HSB
      go_wp2_with fail
      refine (HA.out _ HB2.out).mono ?_
      rintro e' w3 ⟨v, rfl, ho, hb3⟩
      obtain ⟨gb, cap, rfl, hg⟩ := own_shape ho (by simp)
      have c1 : w3.cell? ⟨gb, 1, none⟩ = some (.string T) := tk_cell ho (j := 0) (k := 1) rfl rfl
      have HB3 := Lib.hid (bl_step HB2.out hb3)
      have HC : Hid (∀ o, (w3.alloc o).cell? ⟨gb, 1, none⟩ = some (.string T)) := Lib.hid (fun o => by rw [(bcell (bl_alloc (Below.refl _ _) o)).1 gb 1 (World.block_lt_of_cell? w3 _ c1)]; exact c1)
      have hgl := World.block_lt_of_cell? w3 _ c1
      have HR := Lib.hid (one_row w3 p)
      have IX4 : ∀ w : World, (Instr.index 47 (.agg #[.string ⟨#[]⟩, .string ⟨#[97]⟩, .string ⟨#[10]⟩, .string ⟨#[65]⟩]) (.int .u8 0)).run Tryd.prog w = .ok (.string ⟨#[]⟩) w := fun _ => by kernel_rfl
      clear ho hb3 HA hg
      simp only [List.length_cons, List.length_nil, Nat.zero_add, Nat.reduceAdd]
      go_wp2_with (go_at_call 17; with_reducible refine (HIS.out _).mono ?_; rintro e w' ⟨rfl, rfl⟩)
      have hk2 : m.tmod 5 = 0 := by rw [Int.tmod_eq_emod_of_nonneg hm0]; exact hk
      refine wp_region_any (by kernel_rfl) ?_
      try (change wpAny _ _ _ _ _ _ _ (World.drew _))
      refine take_n (i := 0) (v := ?_) (a2 := ?_) rfl (by kernel_rfl) (by kernel_rfl) (by kernel_rfl) (fun _ _ _ h => h) (Or.inl ⟨by rfl, ?_⟩) ?_ ?_
      rotate_left 2
      focus (intro w; go_simp; try (first | with_reducible rfl | (rw [if_neg (by first | omega | (simp; omega))])))
      focus (go_simp; try rfl)
      refine take_n (i := 1) (v := ?_) (a2 := ?_) rfl (by kernel_rfl) (by kernel_rfl) (by kernel_rfl) (fun _ _ _ h => h) (Or.inl ⟨by rfl, ?_⟩) ?_ ?_
      rotate_left 2
      focus (intro w; go_simp; try (first | with_reducible rfl | (rw [if_neg (by first | omega | (simp; omega))])))
      focus (go_simp; try rfl)
      refine take_n (i := 2) (v := ?_) (a2 := ?_) rfl (by kernel_rfl) (by kernel_rfl) (by kernel_rfl) (fun _ _ _ h => h) (Or.inl ⟨by rfl, ?_⟩) ?_ ?_
      rotate_left 2
      focus (intro w; go_simp; try (first | with_reducible rfl | (rw [if_neg (by first | omega | (simp; omega))])))
      focus (go_simp; try rfl)
      refine take_n (i := 3) (v := ?_) (a2 := ?_) rfl (by kernel_rfl) (by kernel_rfl) (by kernel_rfl) (fun _ _ _ h => h) (Or.inl ⟨by rfl, ?_⟩) ?_ ?_
      rotate_left 2
      focus (intro w; go_simp; try (first | with_reducible rfl | (rw [if_neg (by first | omega | (simp; omega))])))
      focus (go_simp; try rfl)
      refine take_n (i := 4) (v := ?_) (a2 := ?_) rfl (by kernel_rfl) (by kernel_rfl) (by kernel_rfl) (fun _ _ _ h => h) (Or.inl ⟨by rfl, ?_⟩) ?_ ?_
      rotate_left 2
      focus (intro w; go_simp; try (first | with_reducible rfl | (rw [if_neg (by first | omega | (simp; omega))])))
      focus (go_simp; try rfl)
      refine take_n (i := 5) (v := ?_) (a2 := ?_) rfl (by kernel_rfl) (by kernel_rfl) (by kernel_rfl) (fun _ _ _ h => h) (Or.inl ⟨by rfl, ?_⟩) ?_ ?_
      rotate_left 2
      focus (intro w; go_simp; try (first | with_reducible rfl | (rw [if_neg (by first | omega | (simp; omega))])))
      focus (go_simp; try rfl)
      refine take_n (i := 6) (v := ?_) (a2 := ?_) rfl (by kernel_rfl) (by kernel_rfl) (by kernel_rfl) (fun _ _ _ h => h) (Or.inl ⟨by rfl, ?_⟩) ?_ ?_
      rotate_left 2
      focus (intro w; go_simp; try (first | with_reducible rfl | (rw [if_neg (by first | omega | (simp; omega))])))
      focus (go_simp; try rfl)
      refine take_n (i := 7) (v := ?_) (a2 := ?_) rfl (by kernel_rfl) (by kernel_rfl) (by kernel_rfl) (fun _ _ _ h => h) (Or.inl ⟨by rfl, ?_⟩) ?_ ?_
      rotate_left 2
      focus (intro w; go_simp; try (first | with_reducible rfl | (rw [if_neg (by first | omega | (simp; omega))])))
      focus (go_simp; try rfl)
      refine take_n (i := 8) (v := ?_) (a2 := ?_) rfl (by kernel_rfl) (by kernel_rfl) (by kernel_rfl) (fun _ _ _ h => h) (Or.inl ⟨by rfl, ?_⟩) ?_ ?_
      rotate_left 2
      focus (intro w; go_simp; try (first | with_reducible rfl | (rw [if_neg (by first | omega | (simp; omega))])))
      focus (go_simp; try rfl)
      refine take_n (i := 9) (v := ?_) (a2 := ?_) rfl (by kernel_rfl) (by kernel_rfl) (by kernel_rfl) (fun _ _ _ h => h) (Or.inl ⟨by rfl, ?_⟩) ?_ ?_
      rotate_left 2
      focus (intro w; go_simp; try (first | with_reducible rfl | (rw [if_neg (by first | omega | (simp; omega))])))
      focus (go_simp; try rfl)
      refine take_n (i := 10) (v := ?_) (a2 := ?_) rfl (by kernel_rfl) (by kernel_rfl) (by kernel_rfl) (fun _ _ _ h => h) (Or.inl ⟨by rfl, ?_⟩) ?_ ?_
      rotate_left 2
      focus (intro w; go_simp; try (first | with_reducible rfl | (rw [if_neg (by first | omega | (simp; omega))])))
      focus (go_simp; try rfl)
      refine take_n (i := 12) (v := ?_) (a2 := ?_) rfl (by kernel_rfl) (by kernel_rfl) (by kernel_rfl) (fun _ _ _ h => h) (Or.inl ⟨by rfl, ?_⟩) ?_ ?_
      rotate_left 2
      focus (intro w; go_simp; try (first | with_reducible rfl | (rw [if_neg (by first | omega | (simp; omega))])))
      focus (go_simp; try rfl)
      refine take_n (i := 16) (v := ?_) (a2 := ?_) rfl (by kernel_rfl) (by kernel_rfl) (by kernel_rfl) (fun _ _ _ h => h) (Or.inl ⟨by rfl, ?_⟩) ?_ ?_
      rotate_left 2
      focus (intro w; go_simp; try (first | with_reducible rfl | (rw [if_neg (by first | omega | (simp; omega))])))
      focus (go_simp; try rfl)
      refine take_n (i := 17) (v := ?_) (a2 := ?_) rfl (by kernel_rfl) (by kernel_rfl) (by kernel_rfl) (fun _ _ _ h => h) (Or.inl ⟨by rfl, ?_⟩) ?_ ?_
      rotate_left 2
      focus (intro w; go_simp; try (first | with_reducible rfl | (rw [if_neg (by first | omega | (simp; omega))])))
      focus (go_simp; try rfl)
      refine take_n (i := 18) (v := ?_) (a2 := ?_) rfl (by kernel_rfl) (by kernel_rfl) (by kernel_rfl) (fun _ _ _ h => h) (Or.inl ⟨by rfl, ?_⟩) ?_ ?_
      rotate_left 2
      focus (intro w; go_simp; try (first | with_reducible rfl | (rw [if_neg (by first | omega | (simp; omega))])))
      focus (go_simp; try rfl)
      refine take_n (i := 19) (v := ?_) (a2 := ?_) rfl (by kernel_rfl) (by kernel_rfl) (by kernel_rfl) (fun _ _ _ h => h) (Or.inl ⟨by rfl, ?_⟩) ?_ ?_
      rotate_left 2
      focus (intro w; go_simp; try (first | with_reducible rfl | (rw [if_neg (by first | omega | (simp; omega))])))
      focus (go_simp; try rfl)
      refine wpAny_ready (rs := [11, 13]) (by kernel_rfl) (by simp) ?_
      refine AllReady.cons rfl (fun K hK => ?_) (AllReady.cons rfl (fun K hK => ?_) AllReady.nil)
      · go_simp
        refine hK _ _ ?_
        clear hK K
        refine wpAny_ready (rs := [13]) (by kernel_rfl) (by simp) ?_
        refine AllReady.cons rfl (fun K hK => ?_) AllReady.nil
        go_simp
        refine hK _ _ ?_
        clear hK K
        refine wpAny_ready (rs := [14]) (by kernel_rfl) (by simp) ?_
        refine AllReady.cons rfl (fun K hK => ?_) AllReady.nil
        go_simp
        go_wp2_with (go_at_call 18; refine (HTX.out w3.heap.size _ _ ?_).mono ?_; (focus exact HR.out); rintro e w4 ⟨sx, rfl, hsx, HSX, hb4⟩; replace hb4 := bl_undrew hb4; have hss := str_known (by decide) HT.out HSX.out; unfold addB at hss; have HAL := bl_alloc (Below.refl w3.heap.size w3) (.cells #[.int .i64 p] 3); have c4 : w4.cell? ⟨gb, 1, none⟩ = some (.string T) := ((bcell hb4).1 gb 1 (Nat.lt_of_lt_of_le hgl HAL.size)).trans (HC.out _); have HB4 := Lib.hid (bl_step HB3.out (bl_step HAL hb4)); clear hb4 HAL)
        change wpAny _ _ _ _ (4 + 1) _ _ _
        refine take_n (i := 15) (v := ?_) (a2 := ?_) rfl (by kernel_rfl) (by kernel_rfl) (by kernel_rfl) (fun _ _ _ h => h) (Or.inl ⟨by rfl, ?_⟩) ?_ ?_
        rotate_left 2
        focus (intro w; go_simp; try (first | with_reducible rfl | (rw [if_neg (by first | omega | (simp; omega))])))
        focus (go_simp; try rfl)
        change wpAny _ _ _ _ (3 + 1) _ _ _
        refine take_n (i := 20) (v := ?_) (a2 := ?_) rfl (by kernel_rfl) (by kernel_rfl) (by kernel_rfl) (fun _ _ _ h => h) (Or.inl ⟨by rfl, ?_⟩) ?_ ?_
        rotate_left 2
        focus (intro w; go_simp; try (first | with_reducible rfl | (rw [if_neg (by first | omega | (simp; omega))])))
        focus (go_simp; try rfl)
        change wpAny _ _ _ _ (2 + 1) _ _ _
        refine take_n (i := 21) (v := ?_) (a2 := ?_) rfl (by kernel_rfl) (by kernel_rfl) (by kernel_rfl) (fun _ _ _ h => h) (Or.inl ⟨by rfl, ?_⟩) ?_ ?_
        rotate_left 2
        focus (intro w; go_simp; try (first | with_reducible rfl | (rw [if_neg (by first | omega | (simp; omega))])))
        focus (go_simp; try rfl)
        change wpAny _ _ _ _ (1 + 1) _ _ _
        refine take_n (i := 22) (v := ?_) (a2 := ?_) rfl (by kernel_rfl) (by kernel_rfl) (by kernel_rfl) (fun _ _ _ h => h) (Or.inl ⟨by rfl, ?_⟩) ?_ ?_
        rotate_left 2
        focus (intro w; go_simp; try (first | with_reducible rfl | (rw [if_neg (by first | omega | (simp; omega))])))
        focus (go_simp; try rfl)
        change wpAny _ _ _ _ (0 + 1) _ _ _
        refine take_n (i := 23) (v := ?_) (a2 := ?_) rfl (by kernel_rfl) (by kernel_rfl) (by kernel_rfl) (fun _ _ _ h => h) (Or.inl ⟨by rfl, ?_⟩) ?_ ?_
        rotate_left 2
        focus (intro w; go_simp; try (first | with_reducible rfl | (rw [if_neg (by first | omega | (simp; omega))])))
        focus (go_simp; try rfl)
        refine wpAny_done (by kernel_rfl) ?_ _
        clear hk2 IX4
        go_wp2
        go_ret
        exact ⟨rfl, HB4.out⟩
      · go_simp
        refine hK _ _ ?_
        clear hK K
        refine wpAny_ready (rs := [11, 14]) (by kernel_rfl) (by simp) ?_
        refine AllReady.cons rfl (fun K hK => ?_) (AllReady.cons rfl (fun K hK => ?_) AllReady.nil)
        · go_simp
          refine hK _ _ ?_
          clear hK K
          refine wpAny_ready (rs := [14]) (by kernel_rfl) (by simp) ?_
          refine AllReady.cons rfl (fun K hK => ?_) AllReady.nil
          go_simp
          go_wp2_with (go_at_call 18; refine (HTX.out w3.heap.size _ _ ?_).mono ?_; (focus exact HR.out); rintro e w4 ⟨sx, rfl, hsx, HSX, hb4⟩; replace hb4 := bl_undrew hb4; have hss := str_known (by decide) HT.out HSX.out; unfold addB at hss; have HAL := bl_alloc (Below.refl w3.heap.size w3) (.cells #[.int .i64 p] 3); have c4 : w4.cell? ⟨gb, 1, none⟩ = some (.string T) := ((bcell hb4).1 gb 1 (Nat.lt_of_lt_of_le hgl HAL.size)).trans (HC.out _); have HB4 := Lib.hid (bl_step HB3.out (bl_step HAL hb4)); clear hb4 HAL)
          change wpAny _ _ _ _ (4 + 1) _ _ _
          refine take_n (i := 15) (v := ?_) (a2 := ?_) rfl (by kernel_rfl) (by kernel_rfl) (by kernel_rfl) (fun _ _ _ h => h) (Or.inl ⟨by rfl, ?_⟩) ?_ ?_
          rotate_left 2
          focus (intro w; go_simp; try (first | with_reducible rfl | (rw [if_neg (by first | omega | (simp; omega))])))
          focus (go_simp; try rfl)
          change wpAny _ _ _ _ (3 + 1) _ _ _
          refine take_n (i := 20) (v := ?_) (a2 := ?_) rfl (by kernel_rfl) (by kernel_rfl) (by kernel_rfl) (fun _ _ _ h => h) (Or.inl ⟨by rfl, ?_⟩) ?_ ?_
          rotate_left 2
          focus (intro w; go_simp; try (first | with_reducible rfl | (rw [if_neg (by first | omega | (simp; omega))])))
          focus (go_simp; try rfl)
          change wpAny _ _ _ _ (2 + 1) _ _ _
          refine take_n (i := 21) (v := ?_) (a2 := ?_) rfl (by kernel_rfl) (by kernel_rfl) (by kernel_rfl) (fun _ _ _ h => h) (Or.inl ⟨by rfl, ?_⟩) ?_ ?_
          rotate_left 2
          focus (intro w; go_simp; try (first | with_reducible rfl | (rw [if_neg (by first | omega | (simp; omega))])))
          focus (go_simp; try rfl)
          change wpAny _ _ _ _ (1 + 1) _ _ _
          refine take_n (i := 22) (v := ?_) (a2 := ?_) rfl (by kernel_rfl) (by kernel_rfl) (by kernel_rfl) (fun _ _ _ h => h) (Or.inl ⟨by rfl, ?_⟩) ?_ ?_
          rotate_left 2
          focus (intro w; go_simp; try (first | with_reducible rfl | (rw [if_neg (by first | omega | (simp; omega))])))
          focus (go_simp; try rfl)
          change wpAny _ _ _ _ (0 + 1) _ _ _
          refine take_n (i := 23) (v := ?_) (a2 := ?_) rfl (by kernel_rfl) (by kernel_rfl) (by kernel_rfl) (fun _ _ _ h => h) (Or.inl ⟨by rfl, ?_⟩) ?_ ?_
          rotate_left 2
          focus (intro w; go_simp; try (first | with_reducible rfl | (rw [if_neg (by first | omega | (simp; omega))])))
          focus (go_simp; try rfl)
          refine wpAny_done (by kernel_rfl) ?_ _
          clear hk2 IX4
          go_wp2
          go_ret
          exact ⟨rfl, HB4.out⟩
        · go_simp
          go_wp2_with (go_at_call 18; refine (HTX.out w3.heap.size _ _ ?_).mono ?_; (focus exact HR.out); rintro e w4 ⟨sx, rfl, hsx, HSX, hb4⟩; replace hb4 := bl_undrew hb4; have hss := str_known (by decide) HT.out HSX.out; unfold addB at hss; have HAL := bl_alloc (Below.refl w3.heap.size w3) (.cells #[.int .i64 p] 3); have c4 : w4.cell? ⟨gb, 1, none⟩ = some (.string T) := ((bcell hb4).1 gb 1 (Nat.lt_of_lt_of_le hgl HAL.size)).trans (HC.out _); have HB4 := Lib.hid (bl_step HB3.out (bl_step HAL hb4)); clear hb4 HAL)
          change wpAny _ _ _ _ (5 + 1) _ _ _
          refine take_n (i := 15) (v := ?_) (a2 := ?_) rfl (by kernel_rfl) (by kernel_rfl) (by kernel_rfl) (fun _ _ _ h => h) (Or.inl ⟨by rfl, ?_⟩) ?_ ?_
          rotate_left 2
          focus (intro w; go_simp; try (first | with_reducible rfl | (rw [if_neg (by first | omega | (simp; omega))])))
          focus (go_simp; try rfl)
          change wpAny _ _ _ _ (4 + 1) _ _ _
          refine take_n (i := 20) (v := ?_) (a2 := ?_) rfl (by kernel_rfl) (by kernel_rfl) (by kernel_rfl) (fun _ _ _ h => h) (Or.inl ⟨by rfl, ?_⟩) ?_ ?_
          rotate_left 2
          focus (intro w; go_simp; try (first | with_reducible rfl | (rw [if_neg (by first | omega | (simp; omega))])))
          focus (go_simp; try rfl)
          change wpAny _ _ _ _ (3 + 1) _ _ _
          refine wpAny_ready (rs := [11]) (by kernel_rfl) (by simp) ?_
          refine AllReady.cons rfl (fun K hK => ?_) AllReady.nil
          go_simp
          refine hK _ _ ?_
          clear hK K
          change wpAny _ _ _ _ (2 + 1) _ _ _
          refine take_n (i := 21) (v := ?_) (a2 := ?_) rfl (by kernel_rfl) (by kernel_rfl) (by kernel_rfl) (fun _ _ _ h => h) (Or.inl ⟨by rfl, ?_⟩) ?_ ?_
          rotate_left 2
          focus (intro w; go_simp; try (first | with_reducible rfl | (rw [if_neg (by first | omega | (simp; omega))])))
          focus (go_simp; try rfl)
          change wpAny _ _ _ _ (1 + 1) _ _ _
          refine take_n (i := 22) (v := ?_) (a2 := ?_) rfl (by kernel_rfl) (by kernel_rfl) (by kernel_rfl) (fun _ _ _ h => h) (Or.inl ⟨by rfl, ?_⟩) ?_ ?_
          rotate_left 2
          focus (intro w; go_simp; try (first | with_reducible rfl | (rw [if_neg (by first | omega | (simp; omega))])))
          focus (go_simp; try rfl)
          change wpAny _ _ _ _ (0 + 1) _ _ _
          refine take_n (i := 23) (v := ?_) (a2 := ?_) rfl (by kernel_rfl) (by kernel_rfl) (by kernel_rfl) (fun _ _ _ h => h) (Or.inl ⟨by rfl, ?_⟩) ?_ ?_
          rotate_left 2
          focus (intro w; go_simp; try (first | with_reducible rfl | (rw [if_neg (by first | omega | (simp; omega))])))
          focus (go_simp; try rfl)
          refine wpAny_done (by kernel_rfl) ?_ _
          clear hk2 IX4
          go_wp2
          go_ret
          exact ⟨rfl, HB4.out⟩
  · have hb' : p < 65536 := by omega
    have HE := Lib.hid (esc1_all (g := g) (k := 0) hp0 hb' (by decide))
    have HA : Hid (∀ W, Below w.heap.size w W → Calls Tryd.prog 10 #[.string (uOf (s1 p g) 0)] W (AllSays 32 (allOf (uOf (s1 p g) 0)) W)) := Lib.hid (fun W hb => all_any _ W (by rw [uOf_size, s1_size]; have := (more_size 0).1; omega) (HK.out W hb))
    have HX1 := Lib.hid (fun W => hexv_any p g W hp0 hb')
    cases hpt : pointB p with
    | false =>
      have HIS := Lib.hid (fun W => (hpt ▸ ris_any p W : Calls Tryd.prog 17 #[.int .i64 p] W fun e w' => e = .returned (.bool false) ∧ W = w'))
      rw [HE.out.1 hpt] at HA
      go_wp2_with (go_at_call 16; with_reducible refine (HX1.out _).mono ?_; rintro e w' ⟨sa, rfl, hsa, HSA, rfl⟩)
      unfold uOf s1 moreB at HA
      rw [← HSA.out] at HA
      clear HSA HX1 HE hpt
      refine (HA.out _ HB2.out).mono ?_
      rintro e' w3 ⟨v, rfl, _, hb3⟩
      have HB3 := Lib.hid (bl_step HB2.out hb3)
      clear hb3 HA
      go_wp2_with (go_at_call 17; with_reducible refine (HIS.out _).mono ?_; rintro e w' ⟨rfl, rfl⟩)
      go_ret
      exact ⟨rfl, HB3.out⟩
    | true =>
      have HIS := Lib.hid (fun W => (hpt ▸ ris_any p W : Calls Tryd.prog 17 #[.int .i64 p] W fun e w' => e = .returned (.bool true) ∧ W = w'))
      have HTX := Lib.hid (text_one p hpt)
      obtain ⟨st, tk, hall⟩ := HE.out.2.2 hpt (by first | trivial | decide)
      rw [hall] at HA
      clear hall HE
      obtain ⟨T, HT⟩ : ∃ T, Hid (T = textS ([120, p] ++ addL 0)) := ⟨_, Lib.hid rfl⟩
      rw [← HT.out] at HA
      clear hpt
      go_wp2_with (go_at_call 16; with_reducible refine (HX1.out _).mono ?_; rintro e w' ⟨sa, rfl, hsa, HSA, rfl⟩)
      unfold uOf s1 moreB at HA
      rw [← HSA.out] at HA
      clear HSA HX1
      refine (HA.out _ HB2.out).mono ?_
      rintro e' w3 ⟨v, rfl, ho, hb3⟩
      obtain ⟨gb, cap, rfl, hg⟩ := own_shape ho (by simp)
      have c1 : w3.cell? ⟨gb, 1, none⟩ = some (.string T) := tk_cell ho (j := 0) (k := 1) rfl rfl
      have HB3 := Lib.hid (bl_step HB2.out hb3)
      have HC : Hid (∀ o, (w3.alloc o).cell? ⟨gb, 1, none⟩ = some (.string T)) := Lib.hid (fun o => by rw [(bcell (bl_alloc (Below.refl _ _) o)).1 gb 1 (World.block_lt_of_cell? w3 _ c1)]; exact c1)
      have hgl := World.block_lt_of_cell? w3 _ c1
      have HR := Lib.hid (one_row w3 p)
      have IX4 : ∀ w : World, (Instr.index 47 (.agg #[.string ⟨#[]⟩, .string ⟨#[97]⟩, .string ⟨#[10]⟩, .string ⟨#[65]⟩]) (.int .u8 0)).run Tryd.prog w = .ok (.string ⟨#[]⟩) w := fun _ => by kernel_rfl
      clear ho hb3 HA hg
      simp only [List.length_cons, List.length_nil, Nat.zero_add, Nat.reduceAdd]
      go_wp2_with (go_at_call 17; with_reducible refine (HIS.out _).mono ?_; rintro e w' ⟨rfl, rfl⟩)
      have hk2 : m.tmod 5 = 0 := by rw [Int.tmod_eq_emod_of_nonneg hm0]; exact hk
      refine wp_region_any (by kernel_rfl) ?_
      try (change wpAny _ _ _ _ _ _ _ (World.drew _))
      refine take_n (i := 0) (v := ?_) (a2 := ?_) rfl (by kernel_rfl) (by kernel_rfl) (by kernel_rfl) (fun _ _ _ h => h) (Or.inl ⟨by rfl, ?_⟩) ?_ ?_
      rotate_left 2
      focus (intro w; go_simp; try (first | with_reducible rfl | (rw [if_neg (by first | omega | (simp; omega))])))
      focus (go_simp; try rfl)
      refine take_n (i := 1) (v := ?_) (a2 := ?_) rfl (by kernel_rfl) (by kernel_rfl) (by kernel_rfl) (fun _ _ _ h => h) (Or.inl ⟨by rfl, ?_⟩) ?_ ?_
      rotate_left 2
      focus (intro w; go_simp; try (first | with_reducible rfl | (rw [if_neg (by first | omega | (simp; omega))])))
      focus (go_simp; try rfl)
      refine take_n (i := 2) (v := ?_) (a2 := ?_) rfl (by kernel_rfl) (by kernel_rfl) (by kernel_rfl) (fun _ _ _ h => h) (Or.inl ⟨by rfl, ?_⟩) ?_ ?_
      rotate_left 2
      focus (intro w; go_simp; try (first | with_reducible rfl | (rw [if_neg (by first | omega | (simp; omega))])))
      focus (go_simp; try rfl)
      refine take_n (i := 3) (v := ?_) (a2 := ?_) rfl (by kernel_rfl) (by kernel_rfl) (by kernel_rfl) (fun _ _ _ h => h) (Or.inl ⟨by rfl, ?_⟩) ?_ ?_
      rotate_left 2
      focus (intro w; go_simp; try (first | with_reducible rfl | (rw [if_neg (by first | omega | (simp; omega))])))
      focus (go_simp; try rfl)
      refine take_n (i := 4) (v := ?_) (a2 := ?_) rfl (by kernel_rfl) (by kernel_rfl) (by kernel_rfl) (fun _ _ _ h => h) (Or.inl ⟨by rfl, ?_⟩) ?_ ?_
      rotate_left 2
      focus (intro w; go_simp; try (first | with_reducible rfl | (rw [if_neg (by first | omega | (simp; omega))])))
      focus (go_simp; try rfl)
      refine take_n (i := 5) (v := ?_) (a2 := ?_) rfl (by kernel_rfl) (by kernel_rfl) (by kernel_rfl) (fun _ _ _ h => h) (Or.inl ⟨by rfl, ?_⟩) ?_ ?_
      rotate_left 2
      focus (intro w; go_simp; try (first | with_reducible rfl | (rw [if_neg (by first | omega | (simp; omega))])))
      focus (go_simp; try rfl)
      refine take_n (i := 6) (v := ?_) (a2 := ?_) rfl (by kernel_rfl) (by kernel_rfl) (by kernel_rfl) (fun _ _ _ h => h) (Or.inl ⟨by rfl, ?_⟩) ?_ ?_
      rotate_left 2
      focus (intro w; go_simp; try (first | with_reducible rfl | (rw [if_neg (by first | omega | (simp; omega))])))
      focus (go_simp; try rfl)
      refine take_n (i := 7) (v := ?_) (a2 := ?_) rfl (by kernel_rfl) (by kernel_rfl) (by kernel_rfl) (fun _ _ _ h => h) (Or.inl ⟨by rfl, ?_⟩) ?_ ?_
      rotate_left 2
      focus (intro w; go_simp; try (first | with_reducible rfl | (rw [if_neg (by first | omega | (simp; omega))])))
      focus (go_simp; try rfl)
      refine take_n (i := 8) (v := ?_) (a2 := ?_) rfl (by kernel_rfl) (by kernel_rfl) (by kernel_rfl) (fun _ _ _ h => h) (Or.inl ⟨by rfl, ?_⟩) ?_ ?_
      rotate_left 2
      focus (intro w; go_simp; try (first | with_reducible rfl | (rw [if_neg (by first | omega | (simp; omega))])))
      focus (go_simp; try rfl)
      refine take_n (i := 9) (v := ?_) (a2 := ?_) rfl (by kernel_rfl) (by kernel_rfl) (by kernel_rfl) (fun _ _ _ h => h) (Or.inl ⟨by rfl, ?_⟩) ?_ ?_
      rotate_left 2
      focus (intro w; go_simp; try (first | with_reducible rfl | (rw [if_neg (by first | omega | (simp; omega))])))
      focus (go_simp; try rfl)
      refine take_n (i := 10) (v := ?_) (a2 := ?_) rfl (by kernel_rfl) (by kernel_rfl) (by kernel_rfl) (fun _ _ _ h => h) (Or.inl ⟨by rfl, ?_⟩) ?_ ?_
      rotate_left 2
      focus (intro w; go_simp; try (first | with_reducible rfl | (rw [if_neg (by first | omega | (simp; omega))])))
      focus (go_simp; try rfl)
      refine take_n (i := 12) (v := ?_) (a2 := ?_) rfl (by kernel_rfl) (by kernel_rfl) (by kernel_rfl) (fun _ _ _ h => h) (Or.inl ⟨by rfl, ?_⟩) ?_ ?_
      rotate_left 2
      focus (intro w; go_simp; try (first | with_reducible rfl | (rw [if_neg (by first | omega | (simp; omega))])))
      focus (go_simp; try rfl)
      refine take_n (i := 16) (v := ?_) (a2 := ?_) rfl (by kernel_rfl) (by kernel_rfl) (by kernel_rfl) (fun _ _ _ h => h) (Or.inl ⟨by rfl, ?_⟩) ?_ ?_
      rotate_left 2
      focus (intro w; go_simp; try (first | with_reducible rfl | (rw [if_neg (by first | omega | (simp; omega))])))
      focus (go_simp; try rfl)
      refine take_n (i := 17) (v := ?_) (a2 := ?_) rfl (by kernel_rfl) (by kernel_rfl) (by kernel_rfl) (fun _ _ _ h => h) (Or.inl ⟨by rfl, ?_⟩) ?_ ?_
      rotate_left 2
      focus (intro w; go_simp; try (first | with_reducible rfl | (rw [if_neg (by first | omega | (simp; omega))])))
      focus (go_simp; try rfl)
      refine take_n (i := 18) (v := ?_) (a2 := ?_) rfl (by kernel_rfl) (by kernel_rfl) (by kernel_rfl) (fun _ _ _ h => h) (Or.inl ⟨by rfl, ?_⟩) ?_ ?_
      rotate_left 2
      focus (intro w; go_simp; try (first | with_reducible rfl | (rw [if_neg (by first | omega | (simp; omega))])))
      focus (go_simp; try rfl)
      refine take_n (i := 19) (v := ?_) (a2 := ?_) rfl (by kernel_rfl) (by kernel_rfl) (by kernel_rfl) (fun _ _ _ h => h) (Or.inl ⟨by rfl, ?_⟩) ?_ ?_
      rotate_left 2
      focus (intro w; go_simp; try (first | with_reducible rfl | (rw [if_neg (by first | omega | (simp; omega))])))
      focus (go_simp; try rfl)
      refine wpAny_ready (rs := [11, 13]) (by kernel_rfl) (by simp) ?_
      refine AllReady.cons rfl (fun K hK => ?_) (AllReady.cons rfl (fun K hK => ?_) AllReady.nil)
      · go_simp
        refine hK _ _ ?_
        clear hK K
        refine wpAny_ready (rs := [13]) (by kernel_rfl) (by simp) ?_
        refine AllReady.cons rfl (fun K hK => ?_) AllReady.nil
        go_simp
        refine hK _ _ ?_
        clear hK K
        refine wpAny_ready (rs := [14]) (by kernel_rfl) (by simp) ?_
        refine AllReady.cons rfl (fun K hK => ?_) AllReady.nil
        go_simp
        go_wp2_with (go_at_call 18; refine (HTX.out w3.heap.size _ _ ?_).mono ?_; (focus exact HR.out); rintro e w4 ⟨sx, rfl, hsx, HSX, hb4⟩; replace hb4 := bl_undrew hb4; have hss := str_known (by decide) HT.out HSX.out; unfold addB at hss; have HAL := bl_alloc (Below.refl w3.heap.size w3) (.cells #[.int .i64 p] 3); have c4 : w4.cell? ⟨gb, 1, none⟩ = some (.string T) := ((bcell hb4).1 gb 1 (Nat.lt_of_lt_of_le hgl HAL.size)).trans (HC.out _); have HB4 := Lib.hid (bl_step HB3.out (bl_step HAL hb4)); clear hb4 HAL)
        change wpAny _ _ _ _ (4 + 1) _ _ _
        refine take_n (i := 15) (v := ?_) (a2 := ?_) rfl (by kernel_rfl) (by kernel_rfl) (by kernel_rfl) (fun _ _ _ h => h) (Or.inl ⟨by rfl, ?_⟩) ?_ ?_
        rotate_left 2
        focus (intro w; go_simp; try (first | with_reducible rfl | (rw [if_neg (by first | omega | (simp; omega))])))
        focus (go_simp; try rfl)
        change wpAny _ _ _ _ (3 + 1) _ _ _
        refine take_n (i := 20) (v := ?_) (a2 := ?_) rfl (by kernel_rfl) (by kernel_rfl) (by kernel_rfl) (fun _ _ _ h => h) (Or.inl ⟨by rfl, ?_⟩) ?_ ?_
        rotate_left 2
        focus (intro w; go_simp; try (first | with_reducible rfl | (rw [if_neg (by first | omega | (simp; omega))])))
        focus (go_simp; try rfl)
        change wpAny _ _ _ _ (2 + 1) _ _ _
        refine take_n (i := 21) (v := ?_) (a2 := ?_) rfl (by kernel_rfl) (by kernel_rfl) (by kernel_rfl) (fun _ _ _ h => h) (Or.inl ⟨by rfl, ?_⟩) ?_ ?_
        rotate_left 2
        focus (intro w; go_simp; try (first | with_reducible rfl | (rw [if_neg (by first | omega | (simp; omega))])))
        focus (go_simp; try rfl)
        change wpAny _ _ _ _ (1 + 1) _ _ _
        refine take_n (i := 22) (v := ?_) (a2 := ?_) rfl (by kernel_rfl) (by kernel_rfl) (by kernel_rfl) (fun _ _ _ h => h) (Or.inl ⟨by rfl, ?_⟩) ?_ ?_
        rotate_left 2
        focus (intro w; go_simp; try (first | with_reducible rfl | (rw [if_neg (by first | omega | (simp; omega))])))
        focus (go_simp; try rfl)
        change wpAny _ _ _ _ (0 + 1) _ _ _
        refine take_n (i := 23) (v := ?_) (a2 := ?_) rfl (by kernel_rfl) (by kernel_rfl) (by kernel_rfl) (fun _ _ _ h => h) (Or.inl ⟨by rfl, ?_⟩) ?_ ?_
        rotate_left 2
        focus (intro w; go_simp; try (first | with_reducible rfl | (rw [if_neg (by first | omega | (simp; omega))])))
        focus (go_simp; try rfl)
        refine wpAny_done (by kernel_rfl) ?_ _
        clear hk2 IX4
        go_wp2
        go_ret
        exact ⟨rfl, HB4.out⟩
      · go_simp
        refine hK _ _ ?_
        clear hK K
        refine wpAny_ready (rs := [11, 14]) (by kernel_rfl) (by simp) ?_
        refine AllReady.cons rfl (fun K hK => ?_) (AllReady.cons rfl (fun K hK => ?_) AllReady.nil)
        · go_simp
          refine hK _ _ ?_
          clear hK K
          refine wpAny_ready (rs := [14]) (by kernel_rfl) (by simp) ?_
          refine AllReady.cons rfl (fun K hK => ?_) AllReady.nil
          go_simp
          go_wp2_with (go_at_call 18; refine (HTX.out w3.heap.size _ _ ?_).mono ?_; (focus exact HR.out); rintro e w4 ⟨sx, rfl, hsx, HSX, hb4⟩; replace hb4 := bl_undrew hb4; have hss := str_known (by decide) HT.out HSX.out; unfold addB at hss; have HAL := bl_alloc (Below.refl w3.heap.size w3) (.cells #[.int .i64 p] 3); have c4 : w4.cell? ⟨gb, 1, none⟩ = some (.string T) := ((bcell hb4).1 gb 1 (Nat.lt_of_lt_of_le hgl HAL.size)).trans (HC.out _); have HB4 := Lib.hid (bl_step HB3.out (bl_step HAL hb4)); clear hb4 HAL)
          change wpAny _ _ _ _ (4 + 1) _ _ _
          refine take_n (i := 15) (v := ?_) (a2 := ?_) rfl (by kernel_rfl) (by kernel_rfl) (by kernel_rfl) (fun _ _ _ h => h) (Or.inl ⟨by rfl, ?_⟩) ?_ ?_
          rotate_left 2
          focus (intro w; go_simp; try (first | with_reducible rfl | (rw [if_neg (by first | omega | (simp; omega))])))
          focus (go_simp; try rfl)
          change wpAny _ _ _ _ (3 + 1) _ _ _
          refine take_n (i := 20) (v := ?_) (a2 := ?_) rfl (by kernel_rfl) (by kernel_rfl) (by kernel_rfl) (fun _ _ _ h => h) (Or.inl ⟨by rfl, ?_⟩) ?_ ?_
          rotate_left 2
          focus (intro w; go_simp; try (first | with_reducible rfl | (rw [if_neg (by first | omega | (simp; omega))])))
          focus (go_simp; try rfl)
          change wpAny _ _ _ _ (2 + 1) _ _ _
          refine take_n (i := 21) (v := ?_) (a2 := ?_) rfl (by kernel_rfl) (by kernel_rfl) (by kernel_rfl) (fun _ _ _ h => h) (Or.inl ⟨by rfl, ?_⟩) ?_ ?_
          rotate_left 2
          focus (intro w; go_simp; try (first | with_reducible rfl | (rw [if_neg (by first | omega | (simp; omega))])))
          focus (go_simp; try rfl)
          change wpAny _ _ _ _ (1 + 1) _ _ _
          refine take_n (i := 22) (v := ?_) (a2 := ?_) rfl (by kernel_rfl) (by kernel_rfl) (by kernel_rfl) (fun _ _ _ h => h) (Or.inl ⟨by rfl, ?_⟩) ?_ ?_
          rotate_left 2
          focus (intro w; go_simp; try (first | with_reducible rfl | (rw [if_neg (by first | omega | (simp; omega))])))
          focus (go_simp; try rfl)
          change wpAny _ _ _ _ (0 + 1) _ _ _
          refine take_n (i := 23) (v := ?_) (a2 := ?_) rfl (by kernel_rfl) (by kernel_rfl) (by kernel_rfl) (fun _ _ _ h => h) (Or.inl ⟨by rfl, ?_⟩) ?_ ?_
          rotate_left 2
          focus (intro w; go_simp; try (first | with_reducible rfl | (rw [if_neg (by first | omega | (simp; omega))])))
          focus (go_simp; try rfl)
          refine wpAny_done (by kernel_rfl) ?_ _
          clear hk2 IX4
          go_wp2
          go_ret
          exact ⟨rfl, HB4.out⟩
        · go_simp
          go_wp2_with (go_at_call 18; refine (HTX.out w3.heap.size _ _ ?_).mono ?_; (focus exact HR.out); rintro e w4 ⟨sx, rfl, hsx, HSX, hb4⟩; replace hb4 := bl_undrew hb4; have hss := str_known (by decide) HT.out HSX.out; unfold addB at hss; have HAL := bl_alloc (Below.refl w3.heap.size w3) (.cells #[.int .i64 p] 3); have c4 : w4.cell? ⟨gb, 1, none⟩ = some (.string T) := ((bcell hb4).1 gb 1 (Nat.lt_of_lt_of_le hgl HAL.size)).trans (HC.out _); have HB4 := Lib.hid (bl_step HB3.out (bl_step HAL hb4)); clear hb4 HAL)
          change wpAny _ _ _ _ (5 + 1) _ _ _
          refine take_n (i := 15) (v := ?_) (a2 := ?_) rfl (by kernel_rfl) (by kernel_rfl) (by kernel_rfl) (fun _ _ _ h => h) (Or.inl ⟨by rfl, ?_⟩) ?_ ?_
          rotate_left 2
          focus (intro w; go_simp; try (first | with_reducible rfl | (rw [if_neg (by first | omega | (simp; omega))])))
          focus (go_simp; try rfl)
          change wpAny _ _ _ _ (4 + 1) _ _ _
          refine take_n (i := 20) (v := ?_) (a2 := ?_) rfl (by kernel_rfl) (by kernel_rfl) (by kernel_rfl) (fun _ _ _ h => h) (Or.inl ⟨by rfl, ?_⟩) ?_ ?_
          rotate_left 2
          focus (intro w; go_simp; try (first | with_reducible rfl | (rw [if_neg (by first | omega | (simp; omega))])))
          focus (go_simp; try rfl)
          change wpAny _ _ _ _ (3 + 1) _ _ _
          refine wpAny_ready (rs := [11]) (by kernel_rfl) (by simp) ?_
          refine AllReady.cons rfl (fun K hK => ?_) AllReady.nil
          go_simp
          refine hK _ _ ?_
          clear hK K
          change wpAny _ _ _ _ (2 + 1) _ _ _
          refine take_n (i := 21) (v := ?_) (a2 := ?_) rfl (by kernel_rfl) (by kernel_rfl) (by kernel_rfl) (fun _ _ _ h => h) (Or.inl ⟨by rfl, ?_⟩) ?_ ?_
          rotate_left 2
          focus (intro w; go_simp; try (first | with_reducible rfl | (rw [if_neg (by first | omega | (simp; omega))])))
          focus (go_simp; try rfl)
          change wpAny _ _ _ _ (1 + 1) _ _ _
          refine take_n (i := 22) (v := ?_) (a2 := ?_) rfl (by kernel_rfl) (by kernel_rfl) (by kernel_rfl) (fun _ _ _ h => h) (Or.inl ⟨by rfl, ?_⟩) ?_ ?_
          rotate_left 2
          focus (intro w; go_simp; try (first | with_reducible rfl | (rw [if_neg (by first | omega | (simp; omega))])))
          focus (go_simp; try rfl)
          change wpAny _ _ _ _ (0 + 1) _ _ _
          refine take_n (i := 23) (v := ?_) (a2 := ?_) rfl (by kernel_rfl) (by kernel_rfl) (by kernel_rfl) (fun _ _ _ h => h) (Or.inl ⟨by rfl, ?_⟩) ?_ ?_
          rotate_left 2
          focus (intro w; go_simp; try (first | with_reducible rfl | (rw [if_neg (by first | omega | (simp; omega))])))
          focus (go_simp; try rfl)
          refine wpAny_done (by kernel_rfl) ?_ _
          clear hk2 IX4
          go_wp2
          go_ret
          exact ⟨rfl, HB4.out⟩
set_option maxRecDepth 20000 in
set_option maxHeartbeats 4000000 in
theorem esc_1 (n m : Int) (g : Bool) (w : World) (hv : VarOk w) (hn0 : 0 ≤ n) (hn1 : n ≤ 4294967295) (hm0 : 0 ≤ m) (hm1 : m ≤ 255) (hk : m % 5 = 1) :
    Calls Tryd.prog 6 #[.int .u32 n, .bool g, .int .u8 m] w fun e w' => e = .returned (.bool true) ∧ Below w.heap.size w w' := by
  have HV := Lib.hid hv
  have HK := Lib.hid (fun W (hb : Below w.heap.size w W) => HV.out.keeps (Keeps.below (S := []) hb) (by simp))
  have HW0 := Lib.hid (awake_any w hv)
  have hp : 0 ≤ n % 1114112 ∧ n % 1114112 < 1114112 := by omega
  obtain ⟨hp0, hp1⟩ := hp
  clear hv
  go_enter Tryd.func6, Tryd.ntmps6
  go_wp2_with fail
  refine HW0.out.mono ?_
  rintro e' w1 ⟨rfl, hb1⟩
  have HB1 := Lib.hid hb1
  clear hb1
  go_wp2_with fail
  have IX : ∀ w : World, (Instr.index 43 (.agg #[.string ⟨#[]⟩, .string ⟨#[97]⟩, .string ⟨#[92, 110]⟩, .string ⟨#[92, 117, 48, 48, 52, 49]⟩, .string ⟨#[92]⟩]) (.int .u8 1)).run Tryd.prog w = .ok (.string ⟨#[97]⟩) w := fun _ => by kernel_rfl
  have hk2 : m.tmod 5 = 1 := by rw [Int.tmod_eq_emod_of_nonneg hm0]; exact hk
  go_quiet (fail)
  have HB2 : Hid (Below w.heap.size w (w1.drewN nq)) := Lib.hid (bl_drewN HB1.out nq)
  generalize w1.drewN nq = w2 at HB2 ⊢
  clear HB1 IX hk2 HW0 HV
  generalize n % 1114112 = p at *
  by_cases hb : 65536 ≤ p
  · have HE := Lib.hid (esc2_all (g := g) (k := 1) hb hp1 (by decide))
    have HA : Hid (∀ W, Below w.heap.size w W → Calls Tryd.prog 10 #[.string (uOf (s2 p g) 1)] W (AllSays 32 (allOf (uOf (s2 p g) 1)) W)) := Lib.hid (fun W hb => all_any _ W (by rw [uOf_size, s2_size]; have := (more_size 1).1; omega) (HK.out W hb))
    have hpt := point_big hb hp1
    have HIS := Lib.hid (fun W => (hpt ▸ ris_any p W : Calls Tryd.prog 17 #[.int .i64 p] W fun e w' => e = .returned (.bool true) ∧ W = w'))
    have HTX := Lib.hid (text_one p hpt)
    clear hpt
    have hq : 0 ≤ (p - 65536) / 1024 ∧ (p - 65536) / 1024 ≤ 1023 := by omega
    have hr : 0 ≤ (p - 65536) % 1024 ∧ (p - 65536) % 1024 ≤ 1023 := by omega
    obtain ⟨hq0, hq1⟩ := hq
    obtain ⟨hr0, hr1⟩ := hr
    have HX1 := Lib.hid (fun W => hexv_any (55296 + (p - 65536) / 1024) g W (by omega) (by omega))
    have HX2 := Lib.hid (fun W => hexv_any (56320 + (p - 65536) % 1024) g W (by omega) (by omega))
    go_wp2_with (go_at_call 16; with_reducible refine (HX1.out _).mono ?_; rintro e w' ⟨sa, rfl, hsa, HSA, rfl⟩)
    refine (HX2.out _).mono ?_
    rintro e w' ⟨sb, rfl, hsb, HSB, rfl⟩
    clear HX1 HX2 hq0 hq1 hr0 hr1
    obtain ⟨st, tk, hall⟩ := HE.out.2 (by first | trivial | decide)
    rw [hall] at HA
    clear hall HE
    obtain ⟨T, HT⟩ : ∃ T, Hid (T = textS ([120, p] ++ addL 1)) := ⟨_, Lib.hid rfl⟩
    rw [← HT.out] at HA
    · unfold uOf s2 moreB at HA
      rw [← HSA.out, ← HSB.out] at HA
      clear HSA HSB
      go_wp2_with fail
      refine (HA.out _ HB2.out).mono ?_
      rintro e' w3 ⟨v, rfl, ho, hb3⟩
      obtain ⟨gb, cap, rfl, hg⟩ := own_shape ho (by simp)
      have c1 : w3.cell? ⟨gb, 1, none⟩ = some (.string T) := tk_cell ho (j := 0) (k := 1) rfl rfl
      have HB3 := Lib.hid (bl_step HB2.out hb3)
      have HC : Hid (∀ o, (w3.alloc o).cell? ⟨gb, 1, none⟩ = some (.string T)) := Lib.hid (fun o => by rw [(bcell (bl_alloc (Below.refl _ _) o)).1 gb 1 (World.block_lt_of_cell? w3 _ c1)]; exact c1)
      have hgl := World.block_lt_of_cell? w3 _ c1
      have HR := Lib.hid (one_row w3 p)
      have IX4 : ∀ w : World, (Instr.index 47 (.agg #[.string ⟨#[]⟩, .string ⟨#[97]⟩, .string ⟨#[10]⟩, .string ⟨#[65]⟩]) (.int .u8 1)).run Tryd.prog w = .ok (.string ⟨#[97]⟩) w := fun _ => by kernel_rfl
      clear ho hb3 HA hg
      simp only [List.length_cons, List.length_nil, Nat.zero_add, Nat.reduceAdd]
      go_wp2_with (go_at_call 17; with_reducible refine (HIS.out _).mono ?_; rintro e w' ⟨rfl, rfl⟩)
      have hk2 : m.tmod 5 = 1 := by rw [Int.tmod_eq_emod_of_nonneg hm0]; exact hk
      refine wp_region_any (by kernel_rfl) ?_
      try (change wpAny _ _ _ _ _ _ _ (World.drew _))
      refine take_n (i := 0) (v := ?_) (a2 := ?_) rfl (by kernel_rfl) (by kernel_rfl) (by kernel_rfl) (fun _ _ _ h => h) (Or.inl ⟨by rfl, ?_⟩) ?_ ?_
      rotate_left 2
      focus (intro w; go_simp; try (first | with_reducible rfl | (rw [if_neg (by first | omega | (simp; omega))])))
      focus (go_simp; try rfl)
      refine take_n (i := 1) (v := ?_) (a2 := ?_) rfl (by kernel_rfl) (by kernel_rfl) (by kernel_rfl) (fun _ _ _ h => h) (Or.inl ⟨by rfl, ?_⟩) ?_ ?_
      rotate_left 2
      focus (intro w; go_simp; try (first | with_reducible rfl | (rw [if_neg (by first | omega | (simp; omega))])))
      focus (go_simp; try rfl)
      refine take_n (i := 2) (v := ?_) (a2 := ?_) rfl (by kernel_rfl) (by kernel_rfl) (by kernel_rfl) (fun _ _ _ h => h) (Or.inl ⟨by rfl, ?_⟩) ?_ ?_
      rotate_left 2
      focus (intro w; go_simp; try (first | with_reducible rfl | (rw [if_neg (by first | omega | (simp; omega))])))
      focus (go_simp; try rfl)
      refine take_n (i := 3) (v := ?_) (a2 := ?_) rfl (by kernel_rfl) (by kernel_rfl) (by kernel_rfl) (fun _ _ _ h => h) (Or.inl ⟨by rfl, ?_⟩) ?_ ?_
      rotate_left 2
      focus (intro w; go_simp; try (first | with_reducible rfl | (rw [if_neg (by first | omega | (simp; omega))])))
      focus (go_simp; try rfl)
      refine take_n (i := 4) (v := ?_) (a2 := ?_) rfl (by kernel_rfl) (by kernel_rfl) (by kernel_rfl) (fun _ _ _ h => h) (Or.inl ⟨by rfl, ?_⟩) ?_ ?_
      rotate_left 2
      focus (intro w; go_simp; try (first | with_reducible rfl | (rw [if_neg (by first | omega | (simp; omega))])))
      focus (go_simp; try rfl)
      refine take_n (i := 5) (v := ?_) (a2 := ?_) rfl (by kernel_rfl) (by kernel_rfl) (by kernel_rfl) (fun _ _ _ h => h) (Or.inl ⟨by rfl, ?_⟩) ?_ ?_
      rotate_left 2
      focus (intro w; go_simp; try (first | with_reducible rfl | (rw [if_neg (by first | omega | (simp; omega))])))
      focus (go_simp; try rfl)
      refine take_n (i := 6) (v := ?_) (a2 := ?_) rfl (by kernel_rfl) (by kernel_rfl) (by kernel_rfl) (fun _ _ _ h => h) (Or.inl ⟨by rfl, ?_⟩) ?_ ?_
      rotate_left 2
      focus (intro w; go_simp; try (first | with_reducible rfl | (rw [if_neg (by first | omega | (simp; omega))])))
      focus (go_simp; try rfl)
      refine take_n (i := 7) (v := ?_) (a2 := ?_) rfl (by kernel_rfl) (by kernel_rfl) (by kernel_rfl) (fun _ _ _ h => h) (Or.inl ⟨by rfl, ?_⟩) ?_ ?_
      rotate_left 2
      focus (intro w; go_simp; try (first | with_reducible rfl | (rw [if_neg (by first | omega | (simp; omega))])))
      focus (go_simp; try rfl)
      refine take_n (i := 8) (v := ?_) (a2 := ?_) rfl (by kernel_rfl) (by kernel_rfl) (by kernel_rfl) (fun _ _ _ h => h) (Or.inl ⟨by rfl, ?_⟩) ?_ ?_
      rotate_left 2
      focus (intro w; go_simp; try (first | with_reducible rfl | (rw [if_neg (by first | omega | (simp; omega))])))
      focus (go_simp; try rfl)
      refine take_n (i := 9) (v := ?_) (a2 := ?_) rfl (by kernel_rfl) (by kernel_rfl) (by kernel_rfl) (fun _ _ _ h => h) (Or.inl ⟨by rfl, ?_⟩) ?_ ?_
      rotate_left 2
      focus (intro w; go_simp; try (first | with_reducible rfl | (rw [if_neg (by first | omega | (simp; omega))])))
      focus (go_simp; try rfl)
      refine take_n (i := 10) (v := ?_) (a2 := ?_) rfl (by kernel_rfl) (by kernel_rfl) (by kernel_rfl) (fun _ _ _ h => h) (Or.inl ⟨by rfl, ?_⟩) ?_ ?_
      rotate_left 2
      focus (intro w; go_simp; try (first | with_reducible rfl | (rw [if_neg (by first | omega | (simp; omega))])))
      focus (go_simp; try rfl)
      refine take_n (i := 12) (v := ?_) (a2 := ?_) rfl (by kernel_rfl) (by kernel_rfl) (by kernel_rfl) (fun _ _ _ h => h) (Or.inl ⟨by rfl, ?_⟩) ?_ ?_
      rotate_left 2
      focus (intro w; go_simp; try (first | with_reducible rfl | (rw [if_neg (by first | omega | (simp; omega))])))
      focus (go_simp; try rfl)
      refine take_n (i := 16) (v := ?_) (a2 := ?_) rfl (by kernel_rfl) (by kernel_rfl) (by kernel_rfl) (fun _ _ _ h => h) (Or.inl ⟨by rfl, ?_⟩) ?_ ?_
      rotate_left 2
      focus (intro w; go_simp; try (first | with_reducible rfl | (rw [if_neg (by first | omega | (simp; omega))])))
      focus (go_simp; try rfl)
      refine take_n (i := 17) (v := ?_) (a2 := ?_) rfl (by kernel_rfl) (by kernel_rfl) (by kernel_rfl) (fun _ _ _ h => h) (Or.inl ⟨by rfl, ?_⟩) ?_ ?_
      rotate_left 2
      focus (intro w; go_simp; try (first | with_reducible rfl | (rw [if_neg (by first | omega | (simp; omega))])))
      focus (go_simp; try rfl)
      refine take_n (i := 18) (v := ?_) (a2 := ?_) rfl (by kernel_rfl) (by kernel_rfl) (by kernel_rfl) (fun _ _ _ h => h) (Or.inl ⟨by rfl, ?_⟩) ?_ ?_
      rotate_left 2
      focus (intro w; go_simp; try (first | with_reducible rfl | (rw [if_neg (by first | omega | (simp; omega))])))
      focus (go_simp; try rfl)
      refine take_n (i := 19) (v := ?_) (a2 := ?_) rfl (by kernel_rfl) (by kernel_rfl) (by kernel_rfl) (fun _ _ _ h => h) (Or.inl ⟨by rfl, ?_⟩) ?_ ?_
      rotate_left 2
      focus (intro w; go_simp; try (first | with_reducible rfl | (rw [if_neg (by first | omega | (simp; omega))])))
      focus (go_simp; try rfl)
      refine wpAny_ready (rs := [11, 13]) (by kernel_rfl) (by simp) ?_
      refine AllReady.cons rfl (fun K hK => ?_) (AllReady.cons rfl (fun K hK => ?_) AllReady.nil)
      · go_simp
        refine hK _ _ ?_
        clear hK K
        refine wpAny_ready (rs := [13]) (by kernel_rfl) (by simp) ?_
        refine AllReady.cons rfl (fun K hK => ?_) AllReady.nil
        go_simp
        refine hK _ _ ?_
        clear hK K
        refine wpAny_ready (rs := [14]) (by kernel_rfl) (by simp) ?_
        refine AllReady.cons rfl (fun K hK => ?_) AllReady.nil
        go_simp
        go_wp2_with (go_at_call 18; refine (HTX.out w3.heap.size _ _ ?_).mono ?_; (focus exact HR.out); rintro e w4 ⟨sx, rfl, hsx, HSX, hb4⟩; replace hb4 := bl_undrew hb4; have hss := str_known (by decide) HT.out HSX.out; unfold addB at hss; have HAL := bl_alloc (Below.refl w3.heap.size w3) (.cells #[.int .i64 p] 3); have c4 : w4.cell? ⟨gb, 1, none⟩ = some (.string T) := ((bcell hb4).1 gb 1 (Nat.lt_of_lt_of_le hgl HAL.size)).trans (HC.out _); have HB4 := Lib.hid (bl_step HB3.out (bl_step HAL hb4)); clear hb4 HAL)
        change wpAny _ _ _ _ (4 + 1) _ _ _
        refine take_n (i := 15) (v := ?_) (a2 := ?_) rfl (by kernel_rfl) (by kernel_rfl) (by kernel_rfl) (fun _ _ _ h => h) (Or.inl ⟨by rfl, ?_⟩) ?_ ?_
        rotate_left 2
        focus (intro w; go_simp; try (first | with_reducible rfl | (rw [if_neg (by first | omega | (simp; omega))])))
        focus (go_simp; try rfl)
        change wpAny _ _ _ _ (3 + 1) _ _ _
        refine take_n (i := 20) (v := ?_) (a2 := ?_) rfl (by kernel_rfl) (by kernel_rfl) (by kernel_rfl) (fun _ _ _ h => h) (Or.inl ⟨by rfl, ?_⟩) ?_ ?_
        rotate_left 2
        focus (intro w; go_simp; try (first | with_reducible rfl | (rw [if_neg (by first | omega | (simp; omega))])))
        focus (go_simp; try rfl)
        change wpAny _ _ _ _ (2 + 1) _ _ _
        refine take_n (i := 21) (v := ?_) (a2 := ?_) rfl (by kernel_rfl) (by kernel_rfl) (by kernel_rfl) (fun _ _ _ h => h) (Or.inl ⟨by rfl, ?_⟩) ?_ ?_
        rotate_left 2
        focus (intro w; go_simp; try (first | with_reducible rfl | (rw [if_neg (by first | omega | (simp; omega))])))
        focus (go_simp; try rfl)
        change wpAny _ _ _ _ (1 + 1) _ _ _
        refine take_n (i := 22) (v := ?_) (a2 := ?_) rfl (by kernel_rfl) (by kernel_rfl) (by kernel_rfl) (fun _ _ _ h => h) (Or.inl ⟨by rfl, ?_⟩) ?_ ?_
        rotate_left 2
        focus (intro w; go_simp; try (first | with_reducible rfl | (rw [if_neg (by first | omega | (simp; omega))])))
        focus (go_simp; try rfl)
        change wpAny _ _ _ _ (0 + 1) _ _ _
        refine take_n (i := 23) (v := ?_) (a2 := ?_) rfl (by kernel_rfl) (by kernel_rfl) (by kernel_rfl) (fun _ _ _ h => h) (Or.inl ⟨by rfl, ?_⟩) ?_ ?_
        rotate_left 2
        focus (intro w; go_simp; try (first | with_reducible rfl | (rw [if_neg (by first | omega | (simp; omega))])))
        focus (go_simp; try rfl)
        refine wpAny_done (by kernel_rfl) ?_ _
        clear hk2 IX4
        go_wp2
        go_ret
        exact ⟨rfl, HB4.out⟩
      · go_simp
        refine hK _ _ ?_
        clear hK K
        refine wpAny_ready (rs := [11, 14]) (by kernel_rfl) (by simp) ?_
        refine AllReady.cons rfl (fun K hK => ?_) (AllReady.cons rfl (fun K hK => ?_) AllReady.nil)
        · go_simp
          refine hK _ _ ?_
          clear hK K
          refine wpAny_ready (rs := [14]) (by kernel_rfl) (by simp) ?_
          refine AllReady.cons rfl (fun K hK => ?_) AllReady.nil
          go_simp
          go_wp2_with (go_at_call 18; refine (HTX.out w3.heap.size _ _ ?_).mono ?_; (focus exact HR.out); rintro e w4 ⟨sx, rfl, hsx, HSX, hb4⟩; replace hb4 := bl_undrew hb4; have hss := str_known (by decide) HT.out HSX.out; unfold addB at hss; have HAL := bl_alloc (Below.refl w3.heap.size w3) (.cells #[.int .i64 p] 3); have c4 : w4.cell? ⟨gb, 1, none⟩ = some (.string T) := ((bcell hb4).1 gb 1 (Nat.lt_of_lt_of_le hgl HAL.size)).trans (HC.out _); have HB4 := Lib.hid (bl_step HB3.out (bl_step HAL hb4)); clear hb4 HAL)
          change wpAny _ _ _ _ (4 + 1) _ _ _
          refine take_n (i := 15) (v := ?_) (a2 := ?_) rfl (by kernel_rfl) (by kernel_rfl) (by kernel_rfl) (fun _ _ _ h => h) (Or.inl ⟨by rfl, ?_⟩) ?_ ?_
          rotate_left 2
          focus (intro w; go_simp; try (first | with_reducible rfl | (rw [if_neg (by first | omega | (simp; omega))])))
          focus (go_simp; try rfl)
          change wpAny _ _ _ _ (3 + 1) _ _ _
          refine take_n (i := 20) (v := ?_) (a2 := ?_) rfl (by kernel_rfl) (by kernel_rfl) (by kernel_rfl) (fun _ _ _ h => h) (Or.inl ⟨by rfl, ?_⟩) ?_ ?_
          rotate_left 2
          focus (intro w; go_simp; try (first | with_reducible rfl | (rw [if_neg (by first | omega | (simp; omega))])))
          focus (go_simp; try rfl)
          change wpAny _ _ _ _ (2 + 1) _ _ _
          refine take_n (i := 21) (v := ?_) (a2 := ?_) rfl (by kernel_rfl) (by kernel_rfl) (by kernel_rfl) (fun _ _ _ h => h) (Or.inl ⟨by rfl, ?_⟩) ?_ ?_
          rotate_left 2
          focus (intro w; go_simp; try (first | with_reducible rfl | (rw [if_neg (by first | omega | (simp; omega))])))
          focus (go_simp; try rfl)
          change wpAny _ _ _ _ (1 + 1) _ _ _
          refine take_n (i := 22) (v := ?_) (a2 := ?_) rfl (by kernel_rfl) (by kernel_rfl) (by kernel_rfl) (fun _ _ _ h => h) (Or.inl ⟨by rfl, ?_⟩) ?_ ?_
          rotate_left 2
          focus (intro w; go_simp; try (first | with_reducible rfl | (rw [if_neg (by first | omega | (simp; omega))])))
          focus (go_simp; try rfl)
          change wpAny _ _ _ _ (0 + 1) _ _ _
          refine take_n (i := 23) (v := ?_) (a2 := ?_) rfl (by kernel_rfl) (by kernel_rfl) (by kernel_rfl) (fun _ _ _ h => h) (Or.inl ⟨by rfl, ?_⟩) ?_ ?_
          rotate_left 2
          focus (intro w; go_simp; try (first | with_reducible rfl | (rw [if_neg (by first | omega | (simp; omega))])))
          focus (go_simp; try rfl)
          refine wpAny_done (by kernel_rfl) ?_ _
          clear hk2 IX4
          go_wp2
          go_ret
          exact ⟨rfl, HB4.out⟩
        · go_simp
          go_wp2_with (go_at_call 18; refine (HTX.out w3.heap.size _ _ ?_).mono ?_; (focus exact HR.out); rintro e w4 ⟨sx, rfl, hsx, HSX, hb4⟩; replace hb4 := bl_undrew hb4; have hss := str_known (by decide) HT.out HSX.out; unfold addB at hss; have HAL := bl_alloc (Below.refl w3.heap.size w3) (.cells #[.int .i64 p] 3); have c4 : w4.cell? ⟨gb, 1, none⟩ = some (.string T) := ((bcell hb4).1 gb 1 (Nat.lt_of_lt_of_le hgl HAL.size)).trans (HC.out _); have HB4 := Lib.hid (bl_step HB3.out (bl_step HAL hb4)); clear hb4 HAL)
          change wpAny _ _ _ _ (5 + 1) _ _ _
          refine take_n (i := 15) (v := ?_) (a2 := ?_) rfl (by kernel_rfl) (by kernel_rfl) (by kernel_rfl) (fun _ _ _ h => h) (Or.inl ⟨by rfl, ?_⟩) ?_ ?_
          rotate_left 2
          focus (intro w; go_simp; try (first | with_reducible rfl | (rw [if_neg (by first | omega | (simp; omega))])))
          focus (go_simp; try rfl)
          change wpAny _ _ _ _ (4 + 1) _ _ _
          refine take_n (i := 20) (v := ?_) (a2 := ?_) rfl (by kernel_rfl) (by kernel_rfl) (by kernel_rfl) (fun _ _ _ h => h) (Or.inl ⟨by rfl, ?_⟩) ?_ ?_
          rotate_left 2
          focus (intro w; go_simp; try (first | with_reducible rfl | (rw [if_neg (by first | omega | (simp; omega))])))
          focus (go_simp; try rfl)
          change wpAny _ _ _ _ (3 + 1) _ _ _
          refine wpAny_ready (rs := [11]) (by kernel_rfl) (by simp) ?_
          refine AllReady.cons rfl (fun K hK => ?_) AllReady.nil
          go_simp
          refine hK _ _ ?_
          clear hK K
          change wpAny _ _ _ _ (2 + 1) _ _ _
          refine take_n (i := 21) (v := ?_) (a2 := ?_) rfl (by kernel_rfl) (by kernel_rfl) (by kernel_rfl) (fun _ _ _ h => h) (Or.inl ⟨by rfl, ?_⟩) ?_ ?_
          rotate_left 2
          focus (intro w; go_simp; try (first | with_reducible rfl | (rw [if_neg (by first | omega | (simp; omega))])))
          focus (go_simp; try rfl)
          change wpAny _ _ _ _ (1 + 1) _ _ _
          refine take_n (i := 22) (v := ?_) (a2 := ?_) rfl (by kernel_rfl) (by kernel_rfl) (by kernel_rfl) (fun _ _ _ h => h) (Or.inl ⟨by rfl, ?_⟩) ?_ ?_
          rotate_left 2
          focus (intro w; go_simp; try (first | with_reducible rfl | (rw [if_neg (by first | omega | (simp; omega))])))
          focus (go_simp; try rfl)
          change wpAny _ _ _ _ (0 + 1) _ _ _
          refine take_n (i := 23) (v := ?_) (a2 := ?_) rfl (by kernel_rfl) (by kernel_rfl) (by kernel_rfl) (fun _ _ _ h => h) (Or.inl ⟨by rfl, ?_⟩) ?_ ?_
          rotate_left 2
          focus (intro w; go_simp; try (first | with_reducible rfl | (rw [if_neg (by first | omega | (simp; omega))])))
          focus (go_simp; try rfl)
          refine wpAny_done (by kernel_rfl) ?_ _
          clear hk2 IX4
          go_wp2
          go_ret
          exact ⟨rfl, HB4.out⟩
  · have hb' : p < 65536 := by omega
    have HE := Lib.hid (esc1_all (g := g) (k := 1) hp0 hb' (by decide))
    have HA : Hid (∀ W, Below w.heap.size w W → Calls Tryd.prog 10 #[.string (uOf (s1 p g) 1)] W (AllSays 32 (allOf (uOf (s1 p g) 1)) W)) := Lib.hid (fun W hb => all_any _ W (by rw [uOf_size, s1_size]; have := (more_size 1).1; omega) (HK.out W hb))
    have HX1 := Lib.hid (fun W => hexv_any p g W hp0 hb')
    cases hpt : pointB p with
    | false =>
      have HIS := Lib.hid (fun W => (hpt ▸ ris_any p W : Calls Tryd.prog 17 #[.int .i64 p] W fun e w' => e = .returned (.bool false) ∧ W = w'))
      rw [HE.out.1 hpt] at HA
      go_wp2_with (go_at_call 16; with_reducible refine (HX1.out _).mono ?_; rintro e w' ⟨sa, rfl, hsa, HSA, rfl⟩)
      unfold uOf s1 moreB at HA
      rw [← HSA.out] at HA
      clear HSA HX1 HE hpt
      refine (HA.out _ HB2.out).mono ?_
      rintro e' w3 ⟨v, rfl, _, hb3⟩
      have HB3 := Lib.hid (bl_step HB2.out hb3)
      clear hb3 HA
      go_wp2_with (go_at_call 17; with_reducible refine (HIS.out _).mono ?_; rintro e w' ⟨rfl, rfl⟩)
      go_ret
      exact ⟨rfl, HB3.out⟩
    | true =>
      have HIS := Lib.hid (fun W => (hpt ▸ ris_any p W : Calls Tryd.prog 17 #[.int .i64 p] W fun e w' => e = .returned (.bool true) ∧ W = w'))
      have HTX := Lib.hid (text_one p hpt)
      obtain ⟨st, tk, hall⟩ := HE.out.2.2 hpt (by first | trivial | decide)
      rw [hall] at HA
      clear hall HE
      obtain ⟨T, HT⟩ : ∃ T, Hid (T = textS ([120, p] ++ addL 1)) := ⟨_, Lib.hid rfl⟩
      rw [← HT.out] at HA
      clear hpt
      go_wp2_with (go_at_call 16; with_reducible refine (HX1.out _).mono ?_; rintro e w' ⟨sa, rfl, hsa, HSA, rfl⟩)
      unfold uOf s1 moreB at HA
      rw [← HSA.out] at HA
      clear HSA HX1
      refine (HA.out _ HB2.out).mono ?_
      rintro e' w3 ⟨v, rfl, ho, hb3⟩
      obtain ⟨gb, cap, rfl, hg⟩ := own_shape ho (by simp)
      have c1 : w3.cell? ⟨gb, 1, none⟩ = some (.string T) := tk_cell ho (j := 0) (k := 1) rfl rfl
      have HB3 := Lib.hid (bl_step HB2.out hb3)
      have HC : Hid (∀ o, (w3.alloc o).cell? ⟨gb, 1, none⟩ = some (.string T)) := Lib.hid (fun o => by rw [(bcell (bl_alloc (Below.refl _ _) o)).1 gb 1 (World.block_lt_of_cell? w3 _ c1)]; exact c1)
      have hgl := World.block_lt_of_cell? w3 _ c1
      have HR := Lib.hid (one_row w3 p)
      have IX4 : ∀ w : World, (Instr.index 47 (.agg #[.string ⟨#[]⟩, .string ⟨#[97]⟩, .string ⟨#[10]⟩, .string ⟨#[65]⟩]) (.int .u8 1)).run Tryd.prog w = .ok (.string ⟨#[97]⟩) w := fun _ => by kernel_rfl
      clear ho hb3 HA hg
      simp only [List.length_cons, List.length_nil, Nat.zero_add, Nat.reduceAdd]
      go_wp2_with (go_at_call 17; with_reducible refine (HIS.out _).mono ?_; rintro e w' ⟨rfl, rfl⟩)
      have hk2 : m.tmod 5 = 1 := by rw [Int.tmod_eq_emod_of_nonneg hm0]; exact hk
      refine wp_region_any (by kernel_rfl) ?_
      try (change wpAny _ _ _ _ _ _ _ (World.drew _))
      refine take_n (i := 0) (v := ?_) (a2 := ?_) rfl (by kernel_rfl) (by kernel_rfl) (by kernel_rfl) (fun _ _ _ h => h) (Or.inl ⟨by rfl, ?_⟩) ?_ ?_
      rotate_left 2
      focus (intro w; go_simp; try (first | with_reducible rfl | (rw [if_neg (by first | omega | (simp; omega))])))
      focus (go_simp; try rfl)
      refine take_n (i := 1) (v := ?_) (a2 := ?_) rfl (by kernel_rfl) (by kernel_rfl) (by kernel_rfl) (fun _ _ _ h => h) (Or.inl ⟨by rfl, ?_⟩) ?_ ?_
      rotate_left 2
      focus (intro w; go_simp; try (first | with_reducible rfl | (rw [if_neg (by first | omega | (simp; omega))])))
      focus (go_simp; try rfl)
      refine take_n (i := 2) (v := ?_) (a2 := ?_) rfl (by kernel_rfl) (by kernel_rfl) (by kernel_rfl) (fun _ _ _ h => h) (Or.inl ⟨by rfl, ?_⟩) ?_ ?_
      rotate_left 2
      focus (intro w; go_simp; try (first | with_reducible rfl | (rw [if_neg (by first | omega | (simp; omega))])))
      focus (go_simp; try rfl)
      refine take_n (i := 3) (v := ?_) (a2 := ?_) rfl (by kernel_rfl) (by kernel_rfl) (by kernel_rfl) (fun _ _ _ h => h) (Or.inl ⟨by rfl, ?_⟩) ?_ ?_
      rotate_left 2
      focus (intro w; go_simp; try (first | with_reducible rfl | (rw [if_neg (by first | omega | (simp; omega))])))
      focus (go_simp; try rfl)
      refine take_n (i := 4) (v := ?_) (a2 := ?_) rfl (by kernel_rfl) (by kernel_rfl) (by kernel_rfl) (fun _ _ _ h => h) (Or.inl ⟨by rfl, ?_⟩) ?_ ?_
      rotate_left 2
      focus (intro w; go_simp; try (first | with_reducible rfl | (rw [if_neg (by first | omega | (simp; omega))])))
      focus (go_simp; try rfl)
      refine take_n (i := 5) (v := ?_) (a2 := ?_) rfl (by kernel_rfl) (by kernel_rfl) (by kernel_rfl) (fun _ _ _ h => h) (Or.inl ⟨by rfl, ?_⟩) ?_ ?_
      rotate_left 2
      focus (intro w; go_simp; try (first | with_reducible rfl | (rw [if_neg (by first | omega | (simp; omega))])))
      focus (go_simp; try rfl)
      refine take_n (i := 6) (v := ?_) (a2 := ?_) rfl (by kernel_rfl) (by kernel_rfl) (by kernel_rfl) (fun _ _ _ h => h) (Or.inl ⟨by rfl, ?_⟩) ?_ ?_
      rotate_left 2
      focus (intro w; go_simp; try (first | with_reducible rfl | (rw [if_neg (by first | omega | (simp; omega))])))
      focus (go_simp; try rfl)
      refine take_n (i := 7) (v := ?_) (a2 := ?_) rfl (by kernel_rfl) (by kernel_rfl) (by kernel_rfl) (fun _ _ _ h => h) (Or.inl ⟨by rfl, ?_⟩) ?_ ?_
      rotate_left 2
      focus (intro w; go_simp; try (first | with_reducible rfl | (rw [if_neg (by first | omega | (simp; omega))])))
      focus (go_simp; try rfl)
      refine take_n (i := 8) (v := ?_) (a2 := ?_) rfl (by kernel_rfl) (by kernel_rfl) (by kernel_rfl) (fun _ _ _ h => h) (Or.inl ⟨by rfl, ?_⟩) ?_ ?_
      rotate_left 2
      focus (intro w; go_simp; try (first | with_reducible rfl | (rw [if_neg (by first | omega | (simp; omega))])))
      focus (go_simp; try rfl)
      refine take_n (i := 9) (v := ?_) (a2 := ?_) rfl (by kernel_rfl) (by kernel_rfl) (by kernel_rfl) (fun _ _ _ h => h) (Or.inl ⟨by rfl, ?_⟩) ?_ ?_
      rotate_left 2
      focus (intro w; go_simp; try (first | with_reducible rfl | (rw [if_neg (by first | omega | (simp; omega))])))
      focus (go_simp; try rfl)
      refine take_n (i := 10) (v := ?_) (a2 := ?_) rfl (by kernel_rfl) (by kernel_rfl) (by kernel_rfl) (fun _ _ _ h => h) (Or.inl ⟨by rfl, ?_⟩) ?_ ?_
      rotate_left 2
      focus (intro w; go_simp; try (first | with_reducible rfl | (rw [if_neg (by first | omega | (simp; omega))])))
      focus (go_simp; try rfl)
      refine take_n (i := 12) (v := ?_) (a2 := ?_) rfl (by kernel_rfl) (by kernel_rfl) (by kernel_rfl) (fun _ _ _ h => h) (Or.inl ⟨by rfl, ?_⟩) ?_ ?_
      rotate_left 2
      focus (intro w; go_simp; try (first | with_reducible rfl | (rw [if_neg (by first | omega | (simp; omega))])))
      focus (go_simp; try rfl)
      refine take_n (i := 16) (v := ?_) (a2 := ?_) rfl (by kernel_rfl) (by kernel_rfl) (by kernel_rfl) (fun _ _ _ h => h) (Or.inl ⟨by rfl, ?_⟩) ?_ ?_
      rotate_left 2
      focus (intro w; go_simp; try (first | with_reducible rfl | (rw [if_neg (by first | omega | (simp; omega))])))
      focus (go_simp; try rfl)
      refine take_n (i := 17) (v := ?_) (a2 := ?_) rfl (by kernel_rfl) (by kernel_rfl) (by kernel_rfl) (fun _ _ _ h => h) (Or.inl ⟨by rfl, ?_⟩) ?_ ?_
      rotate_left 2
      focus (intro w; go_simp; try (first | with_reducible rfl | (rw [if_neg (by first | omega | (simp; omega))])))
      focus (go_simp; try rfl)
      refine take_n (i := 18) (v := ?_) (a2 := ?_) rfl (by kernel_rfl) (by kernel_rfl) (by kernel_rfl) (fun _ _ _ h => h) (Or.inl ⟨by rfl, ?_⟩) ?_ ?_
      rotate_left 2
      focus (intro w; go_simp; try (first | with_reducible rfl | (rw [if_neg (by first | omega | (simp; omega))])))
      focus (go_simp; try rfl)
      refine take_n (i := 19) (v := ?_) (a2 := ?_) rfl (by kernel_rfl) (by kernel_rfl) (by kernel_rfl) (fun _ _ _ h => h) (Or.inl ⟨by rfl, ?_⟩) ?_ ?_
      rotate_left 2
      focus (intro w; go_simp; try (first | with_reducible rfl | (rw [if_neg (by first | omega | (simp; omega))])))
      focus (go_simp; try rfl)
      refine wpAny_ready (rs := [11, 13]) (by kernel_rfl) (by simp) ?_
      refine AllReady.cons rfl (fun K hK => ?_) (AllReady.cons rfl (fun K hK => ?_) AllReady.nil)
      · go_simp
        refine hK _ _ ?_
        clear hK K
        refine wpAny_ready (rs := [13]) (by kernel_rfl) (by simp) ?_
        refine AllReady.cons rfl (fun K hK => ?_) AllReady.nil
        go_simp
        refine hK _ _ ?_
        clear hK K
        refine wpAny_ready (rs := [14]) (by kernel_rfl) (by simp) ?_
        refine AllReady.cons rfl (fun K hK => ?_) AllReady.nil
        go_simp
        go_wp2_with (go_at_call 18; refine (HTX.out w3.heap.size _ _ ?_).mono ?_; (focus exact HR.out); rintro e w4 ⟨sx, rfl, hsx, HSX, hb4⟩; replace hb4 := bl_undrew hb4; have hss := str_known (by decide) HT.out HSX.out; unfold addB at hss; have HAL := bl_alloc (Below.refl w3.heap.size w3) (.cells #[.int .i64 p] 3); have c4 : w4.cell? ⟨gb, 1, none⟩ = some (.string T) := ((bcell hb4).1 gb 1 (Nat.lt_of_lt_of_le hgl HAL.size)).trans (HC.out _); have HB4 := Lib.hid (bl_step HB3.out (bl_step HAL hb4)); clear hb4 HAL)
        change wpAny _ _ _ _ (4 + 1) _ _ _
        refine take_n (i := 15) (v := ?_) (a2 := ?_) rfl (by kernel_rfl) (by kernel_rfl) (by kernel_rfl) (fun _ _ _ h => h) (Or.inl ⟨by rfl, ?_⟩) ?_ ?_
        rotate_left 2
        focus (intro w; go_simp; try (first | with_reducible rfl | (rw [if_neg (by first | omega | (simp; omega))])))
        focus (go_simp; try rfl)
        change wpAny _ _ _ _ (3 + 1) _ _ _
        refine take_n (i := 20) (v := ?_) (a2 := ?_) rfl (by kernel_rfl) (by kernel_rfl) (by kernel_rfl) (fun _ _ _ h => h) (Or.inl ⟨by rfl, ?_⟩) ?_ ?_
        rotate_left 2
        focus (intro w; go_simp; try (first | with_reducible rfl | (rw [if_neg (by first | omega | (simp; omega))])))
        focus (go_simp; try rfl)
        change wpAny _ _ _ _ (2 + 1) _ _ _
        refine take_n (i := 21) (v := ?_) (a2 := ?_) rfl (by kernel_rfl) (by kernel_rfl) (by kernel_rfl) (fun _ _ _ h => h) (Or.inl ⟨by rfl, ?_⟩) ?_ ?_
        rotate_left 2
        focus (intro w; go_simp; try (first | with_reducible rfl | (rw [if_neg (by first | omega | (simp; omega))])))
        focus (go_simp; try rfl)
        change wpAny _ _ _ _ (1 + 1) _ _ _
        refine take_n (i := 22) (v := ?_) (a2 := ?_) rfl (by kernel_rfl) (by kernel_rfl) (by kernel_rfl) (fun _ _ _ h => h) (Or.inl ⟨by rfl, ?_⟩) ?_ ?_
        rotate_left 2
        focus (intro w; go_simp; try (first | with_reducible rfl | (rw [if_neg (by first | omega | (simp; omega))])))
        focus (go_simp; try rfl)
        change wpAny _ _ _ _ (0 + 1) _ _ _
        refine take_n (i := 23) (v := ?_) (a2 := ?_) rfl (by kernel_rfl) (by kernel_rfl) (by kernel_rfl) (fun _ _ _ h => h) (Or.inl ⟨by rfl, ?_⟩) ?_ ?_
        rotate_left 2
        focus (intro w; go_simp; try (first | with_reducible rfl | (rw [if_neg (by first | omega | (simp; omega))])))
        focus (go_simp; try rfl)
        refine wpAny_done (by kernel_rfl) ?_ _
        clear hk2 IX4
        go_wp2
        go_ret
        exact ⟨rfl, HB4.out⟩
      · go_simp
        refine hK _ _ ?_
        clear hK K
        refine wpAny_ready (rs := [11, 14]) (by kernel_rfl) (by simp) ?_
        refine AllReady.cons rfl (fun K hK => ?_) (AllReady.cons rfl (fun K hK => ?_) AllReady.nil)
        · go_simp
          refine hK _ _ ?_
          clear hK K
          refine wpAny_ready (rs := [14]) (by kernel_rfl) (by simp) ?_
          refine AllReady.cons rfl (fun K hK => ?_) AllReady.nil
          go_simp
          go_wp2_with (go_at_call 18; refine (HTX.out w3.heap.size _ _ ?_).mono ?_; (focus exact HR.out); rintro e w4 ⟨sx, rfl, hsx, HSX, hb4⟩; replace hb4 := bl_undrew hb4; have hss := str_known (by decide) HT.out HSX.out; unfold addB at hss; have HAL := bl_alloc (Below.refl w3.heap.size w3) (.cells #[.int .i64 p] 3); have c4 : w4.cell? ⟨gb, 1, none⟩ = some (.string T) := ((bcell hb4).1 gb 1 (Nat.lt_of_lt_of_le hgl HAL.size)).trans (HC.out _); have HB4 := Lib.hid (bl_step HB3.out (bl_step HAL hb4)); clear hb4 HAL)
          change wpAny _ _ _ _ (4 + 1) _ _ _
          refine take_n (i := 15) (v := ?_) (a2 := ?_) rfl (by kernel_rfl) (by kernel_rfl) (by kernel_rfl) (fun _ _ _ h => h) (Or.inl ⟨by rfl, ?_⟩) ?_ ?_
          rotate_left 2
          focus (intro w; go_simp; try (first | with_reducible rfl | (rw [if_neg (by first | omega | (simp; omega))])))
          focus (go_simp; try rfl)
          change wpAny _ _ _ _ (3 + 1) _ _ _
          refine take_n (i := 20) (v := ?_) (a2 := ?_) rfl (by kernel_rfl) (by kernel_rfl) (by kernel_rfl) (fun _ _ _ h => h) (Or.inl ⟨by rfl, ?_⟩) ?_ ?_
          rotate_left 2
          focus (intro w; go_simp; try (first | with_reducible rfl | (rw [if_neg (by first | omega | (simp; omega))])))
          focus (go_simp; try rfl)
          change wpAny _ _ _ _ (2 + 1) _ _ _
          refine take_n (i := 21) (v := ?_) (a2 := ?_) rfl (by kernel_rfl) (by kernel_rfl) (by kernel_rfl) (fun _ _ _ h => h) (Or.inl ⟨by rfl, ?_⟩) ?_ ?_
          rotate_left 2
          focus (intro w; go_simp; try (first | with_reducible rfl | (rw [if_neg (by first | omega | (simp; omega))])))
          focus (go_simp; try rfl)
          change wpAny _ _ _ _ (1 + 1) _ _ _
          refine take_n (i := 22) (v := ?_) (a2 := ?_) rfl (by kernel_rfl) (by kernel_rfl) (by kernel_rfl) (fun _ _ _ h => h) (Or.inl ⟨by rfl, ?_⟩) ?_ ?_
          rotate_left 2
          focus (intro w; go_simp; try (first | with_reducible rfl | (rw [if_neg (by first | omega | (simp; omega))])))
          focus (go_simp; try rfl)
          change wpAny _ _ _ _ (0 + 1) _ _ _
          refine take_n (i := 23) (v := ?_) (a2 := ?_) rfl (by kernel_rfl) (by kernel_rfl) (by kernel_rfl) (fun _ _ _ h => h) (Or.inl ⟨by rfl, ?_⟩) ?_ ?_
          rotate_left 2
          focus (intro w; go_simp; try (first | with_reducible rfl | (rw [if_neg (by first | omega | (simp; omega))])))
          focus (go_simp; try rfl)
          refine wpAny_done (by kernel_rfl) ?_ _
          clear hk2 IX4
          go_wp2
          go_ret
          exact ⟨rfl, HB4.out⟩
        · go_simp
          go_wp2_with (go_at_call 18; refine (HTX.out w3.heap.size _ _ ?_).mono ?_; (focus exact HR.out); rintro e w4 ⟨sx, rfl, hsx, HSX, hb4⟩; replace hb4 := bl_undrew hb4; have hss := str_known (by decide) HT.out HSX.out; unfold addB at hss; have HAL := bl_alloc (Below.refl w3.heap.size w3) (.cells #[.int .i64 p] 3); have c4 : w4.cell? ⟨gb, 1, none⟩ = some (.string T) := ((bcell hb4).1 gb 1 (Nat.lt_of_lt_of_le hgl HAL.size)).trans (HC.out _); have HB4 := Lib.hid (bl_step HB3.out (bl_step HAL hb4)); clear hb4 HAL)
          change wpAny _ _ _ _ (5 + 1) _ _ _
          refine take_n (i := 15) (v := ?_) (a2 := ?_) rfl (by kernel_rfl) (by kernel_rfl) (by kernel_rfl) (fun _ _ _ h => h) (Or.inl ⟨by rfl, ?_⟩) ?_ ?_
          rotate_left 2
          focus (intro w; go_simp; try (first | with_reducible rfl | (rw [if_neg (by first | omega | (simp; omega))])))
          focus (go_simp; try rfl)
          change wpAny _ _ _ _ (4 + 1) _ _ _
          refine take_n (i := 20) (v := ?_) (a2 := ?_) rfl (by kernel_rfl) (by kernel_rfl) (by kernel_rfl) (fun _ _ _ h => h) (Or.inl ⟨by rfl, ?_⟩) ?_ ?_
          rotate_left 2
          focus (intro w; go_simp; try (first | with_reducible rfl | (rw [if_neg (by first | omega | (simp; omega))])))
          focus (go_simp; try rfl)
          change wpAny _ _ _ _ (3 + 1) _ _ _
          refine wpAny_ready (rs := [11]) (by kernel_rfl) (by simp) ?_
          refine AllReady.cons rfl (fun K hK => ?_) AllReady.nil
          go_simp
          refine hK _ _ ?_
          clear hK K
          change wpAny _ _ _ _ (2 + 1) _ _ _
          refine take_n (i := 21) (v := ?_) (a2 := ?_) rfl (by kernel_rfl) (by kernel_rfl) (by kernel_rfl) (fun _ _ _ h => h) (Or.inl ⟨by rfl, ?_⟩) ?_ ?_
          rotate_left 2
          focus (intro w; go_simp; try (first | with_reducible rfl | (rw [if_neg (by first | omega | (simp; omega))])))
          focus (go_simp; try rfl)
          change wpAny _ _ _ _ (1 + 1) _ _ _
          refine take_n (i := 22) (v := ?_) (a2 := ?_) rfl (by kernel_rfl) (by kernel_rfl) (by kernel_rfl) (fun _ _ _ h => h) (Or.inl ⟨by rfl, ?_⟩) ?_ ?_
          rotate_left 2
          focus (intro w; go_simp; try (first | with_reducible rfl | (rw [if_neg (by first | omega | (simp; omega))])))
          focus (go_simp; try rfl)
          change wpAny _ _ _ _ (0 + 1) _ _ _
          refine take_n (i := 23) (v := ?_) (a2 := ?_) rfl (by kernel_rfl) (by kernel_rfl) (by kernel_rfl) (fun _ _ _ h => h) (Or.inl ⟨by rfl, ?_⟩) ?_ ?_
          rotate_left 2
          focus (intro w; go_simp; try (first | with_reducible rfl | (rw [if_neg (by first | omega | (simp; omega))])))
          focus (go_simp; try rfl)
          refine wpAny_done (by kernel_rfl) ?_ _
          clear hk2 IX4
          go_wp2
          go_ret
          exact ⟨rfl, HB4.out⟩
end Go.Proofs.YtlnmjpacagimnaaDoor
