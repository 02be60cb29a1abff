/- TokenAlls: the law's walk. -/
import Derived.Test.YtlnmjpacagimnaaDoorLawA
namespace Go.Proofs.YtlnmjpacagimnaaDoor
set_option linter.unusedVariables false
set_option linter.unusedSimpArgs false
open Go.RowKit

theorem own_nil {w : World} {base : Nat} {e : TypeId} {size n : Nat} {v : Value} {xs : List Value} (h : w.ownsRow base e size v n xs) (h0 : n = 0) : ∃ A cap, v = .slice A 0 cap := by
  subst h0; exact own_slice h
set_option maxRecDepth 20000 in
set_option maxHeartbeats 4000000 in
theorem alls_any (s : ByteArray) (w : World) (hv : VarOk w) (hs63 : s.size ≤ 140737488351232) :
    Calls Tryd.prog 3 #[.string s] w fun e w' => e = .returned (.bool true) ∧ Below w.heap.size w w' := by
  have HW := Lib.hid (fun W (h : VarOk W) => awake_any W h)
  have HV := Lib.hid hv
  have HK := Lib.hid (fun W (hb : Below w.heap.size w W) => HV.out.keeps (Keeps.below (S := []) hb) (by simp))
  clear hv
  have HW0 := Lib.hid (HW.out w HV.out)
  by_cases hs : s.size ≤ 400
  · have hgt : ¬ (400 : Int) < s.size := by omega
    go_enter Tryd.func3, Tryd.ntmps3
    go_wp2_with fail
    refine HW0.out.mono ?_
    rintro e' w1 ⟨rfl, hb1⟩
    have HB1 := Lib.hid hb1
    have HA := Lib.hid (all_any s w1 (by omega) (HK.out w1 hb1))
    clear hb1
    go_wp2_with fail
    refine HA.out.mono ?_
    rintro e' w2 ⟨v2, rfl, ho2, hb2⟩
    have HB2 := Lib.hid (bl_step HB1.out hb2)
    have HO2 := Lib.hid ho2
    obtain ⟨A2, cap2, rfl⟩ := own_slice ho2
    have HA5 := Lib.hid (all5_any s w2 (by omega))
    clear hb2 ho2
    go_wp2_with fail
    refine HA5.out.mono ?_
    rintro e' w3 ⟨v3, rfl, ho3, hb3⟩
    have HB3 := Lib.hid (bl_step HB2.out hb3)
    have HO3 := Lib.hid ho3
    have HO2' := Lib.hid (own_below HO2.out hb3)
    obtain ⟨A3, cap3, rfl⟩ := own_slice ho3
    clear hb3 ho3 HA HA5 HO2
    have hlen0 := allOf_len s
    generalize allOf s = r at *
    obtain ⟨l, pl, code⟩ := r
    simp only at HO3 HO2' hlen0
    have hlen : l.length ≤ 401 := by omega
    clear hlen0
    go_wp2
    go_loopw [47] (fun t W => ∃ j : Nat, j ≤ l.length ∧ t = .int .i64 j ∧ Hid (Below w3.heap.size w3 W)) (fun t _ => l.length - (intOf t).toNat)
    case atStart => exact ⟨0, by omega, rfl, Lib.hid (Below.refl _ _)⟩
    case round =>
      obtain ⟨j, hj, rfl, H⟩ := hrel
      by_cases hlt : j < l.length
      · have hjI : (j : Int) < l.length := by omega
        obtain ⟨t, ht⟩ : ∃ t, l[j]? = some t := ⟨l[j], List.getElem?_eq_getElem hlt⟩
        obtain ⟨g2, cp2, hA2, _⟩ := own_shape HO2'.out (by omega)
        obtain ⟨g3, cp3, hA3, _⟩ := own_shape HO3.out (by omega)
        injection hA2 with hA2a hA2b hA2c
        injection hA3 with hA3a hA3b hA3c
        subst hA2a hA3a
        have HOr2 := Lib.hid (own_below HO2'.out H.out)
        have HOr3 := Lib.hid (own_below HO3.out H.out)
        have HIS := Lib.hid (fun W => is_any t W)
        unfold Tk.cells at HIS
        obtain ⟨kd, tx, vl, hd, st⟩ := t
        simp only at HIS
        have c20 : wr.cell? ⟨g2, j * 5, none⟩ = some (.int .i64 kd) := tk_cell HOr2.out ht (k := 0) rfl
        have c21 : wr.cell? ⟨g2, j * 5 + 1, none⟩ = some (.string tx) := tk_cell HOr2.out ht (k := 1) rfl
        have c22 : wr.cell? ⟨g2, j * 5 + 2, none⟩ = some (.int .i64 vl) := tk_cell HOr2.out ht (k := 2) rfl
        have c23 : wr.cell? ⟨g2, j * 5 + 3, none⟩ = some (.int .i64 hd) := tk_cell HOr2.out ht (k := 3) rfl
        have c24 : wr.cell? ⟨g2, j * 5 + 4, none⟩ = some (.int .i64 st) := tk_cell HOr2.out ht (k := 4) rfl
        have c30 : wr.cell? ⟨g3, j * 5, none⟩ = some (.int .i64 kd) := tk_cell HOr3.out ht (k := 0) rfl
        have c31 : wr.cell? ⟨g3, j * 5 + 1, none⟩ = some (.string tx) := tk_cell HOr3.out ht (k := 1) rfl
        have c32 : wr.cell? ⟨g3, j * 5 + 2, none⟩ = some (.int .i64 vl) := tk_cell HOr3.out ht (k := 2) rfl
        have c33 : wr.cell? ⟨g3, j * 5 + 3, none⟩ = some (.int .i64 hd) := tk_cell HOr3.out ht (k := 3) rfl
        have c34 : wr.cell? ⟨g3, j * 5 + 4, none⟩ = some (.int .i64 st) := tk_cell HOr3.out ht (k := 4) rfl
        clear ht hA2b hA2c hA3b hA3c
        go_upto_region 10 with (fail)
        go_region_held3 (fun W' => W'.cell? ⟨g2, j * 5, none⟩ = some (.int .i64 kd) ∧ W'.cell? ⟨g2, j * 5 + 1, none⟩ = some (.string tx) ∧ W'.cell? ⟨g2, j * 5 + 2, none⟩ = some (.int .i64 vl) ∧ W'.cell? ⟨g2, j * 5 + 3, none⟩ = some (.int .i64 hd) ∧ W'.cell? ⟨g2, j * 5 + 4, none⟩ = some (.int .i64 st) ∧ W'.cell? ⟨g3, j * 5, none⟩ = some (.int .i64 kd) ∧ W'.cell? ⟨g3, j * 5 + 1, none⟩ = some (.string tx) ∧ W'.cell? ⟨g3, j * 5 + 2, none⟩ = some (.int .i64 vl) ∧ W'.cell? ⟨g3, j * 5 + 3, none⟩ = some (.int .i64 hd) ∧ W'.cell? ⟨g3, j * 5 + 4, none⟩ = some (.int .i64 st)) (go_keep) (first | (go_at_call 12; refine (HIS.out _).mono ?_; rintro e' w4 ⟨rfl, hb4⟩; have hb4' : Below wr.heap.size wr w4 := ⟨hb4.os, hb4.tape, hb4.output, hb4.size, hb4.block⟩; have HB4 := Lib.hid (bl_step H.out hb4'); have k20 := (hb4'.cell (World.block_lt_of_cell? wr _ c20)).trans c20; have k21 := (hb4'.cell (World.block_lt_of_cell? wr _ c21)).trans c21; have k22 := (hb4'.cell (World.block_lt_of_cell? wr _ c22)).trans c22; have k23 := (hb4'.cell (World.block_lt_of_cell? wr _ c23)).trans c23; have k24 := (hb4'.cell (World.block_lt_of_cell? wr _ c24)).trans c24; have k30 := (hb4'.cell (World.block_lt_of_cell? wr _ c30)).trans c30; have k31 := (hb4'.cell (World.block_lt_of_cell? wr _ c31)).trans c31; have k32 := (hb4'.cell (World.block_lt_of_cell? wr _ c32)).trans c32; have k33 := (hb4'.cell (World.block_lt_of_cell? wr _ c33)).trans c33; have k34 := (hb4'.cell (World.block_lt_of_cell? wr _ c34)).trans c34; clear hb4 hb4'))
        go_wp2
        go_roundw
        case rel => exact ⟨j + 1, by omega, by go_num, HB4⟩
        case measure => simp [intOf]; omega
      · obtain rfl : j = l.length := by omega
        go_wp2
        go_ret
        exact ⟨rfl, bl_step HB3.out H.out⟩
  · have hgt : (400 : Int) < s.size := by omega
    go_enter Tryd.func3, Tryd.ntmps3
    go_wp2_with fail
    refine HW0.out.mono ?_
    rintro e' w1 ⟨rfl, hb1⟩
    have HB1 := Lib.hid hb1
    have HW1 := Lib.hid (HW.out w1 (HK.out w1 hb1))
    clear hb1
    go_wp2_with fail
    refine HW1.out.mono ?_
    rintro e' w2 ⟨rfl, hb2⟩
    have HB2 := Lib.hid (bl_step HB1.out hb2)
    clear hb2
    go_wp2
    go_ret
    exact ⟨rfl, HB2.out⟩
end Go.Proofs.YtlnmjpacagimnaaDoor
