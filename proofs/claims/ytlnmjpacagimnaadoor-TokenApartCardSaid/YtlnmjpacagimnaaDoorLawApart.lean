/- TokenApart: tokens stand one behind the other, blanks alone between them. -/
import Derived.Test.YtlnmjpacagimnaaDoorLawA
namespace Go.Proofs.YtlnmjpacagimnaaDoor
set_option linter.unusedVariables false
set_option linter.unusedSimpArgs false
open Go.RowKit

/-- Tokens from a place on: each behind the one before, blanks between; the end's last. -/
def Chain (s : ByteArray) : Int → List Tk → Prop
  | _, [] => False
  | i, t :: r => t.head = blanks s i ∧ i ≤ t.head ∧ t.head ≤ t.stop ∧ t.stop ≤ s.size ∧ (if r = [] then t.kind = 0 ∧ t.stop = s.size else Chain s t.stop r)
theorem chain_ne {s : ByteArray} {i : Int} {l : List Tk} (h : Chain s i l) : l ≠ [] := by rintro rfl; exact h
theorem allF_chain (s : ByteArray) : ∀ (k : Nat) (i : Int) (acc : List Tk), 0 ≤ i → i ≤ s.size → s.size + 1 - i.toNat ≤ k → (allF s k i acc).2.2 = 0 → ∃ l, (allF s k i acc).1 = acc ++ l ∧ Chain s i l
  | 0, i, acc, h0, h1, hk, _ => by omega
  | k + 1, i, acc, h0, h1, hk, h => by
    unfold allF at h ⊢
    by_cases c1 : (nextF s i).2.2 ≠ 0
    · rw [if_pos c1] at h; exact absurd h c1
    · rw [if_neg c1] at h ⊢
      have hs := next_step h0 h1 (by simpa using c1)
      have hb := blanks_range h0 h1
      by_cases c2 : (nextF s i).1.kind = 0
      · rw [if_pos c2]
        refine ⟨[(nextF s i).1], rfl, hs.1, by omega, by omega, by omega, ?_⟩
        rw [if_pos rfl]; exact ⟨c2, by omega⟩
      · rw [if_neg c2] at h ⊢
        obtain ⟨l, e, hc⟩ := allF_chain s k (nextF s i).1.stop (acc ++ [(nextF s i).1]) (by omega) (by omega) (by omega) h
        refine ⟨(nextF s i).1 :: l, by rw [e, List.append_assoc]; rfl, hs.1, by omega, by omega, by omega, ?_⟩
        rw [if_neg (chain_ne hc)]; exact hc
theorem allOf_chain {s : ByteArray} (h : (allOf s).2.2 = 0) : Chain s 0 (allOf s).1 := by
  obtain ⟨l, e, hc⟩ := allF_chain s (s.size + 1 - (0 : Int).toNat) 0 [] (by omega) (by omega) (by omega) h
  have e2 : (allOf s).1 = l := e.trans (List.nil_append l)
  rw [e2]; exact hc
theorem chain_at {s : ByteArray} {a : Int} {l : List Tk} {j : Nat} {t : Tk} (h : Chain s a (l.drop j)) (ht : l[j]? = some t) :
    t.head = blanks s a ∧ a ≤ t.head ∧ t.head ≤ t.stop ∧ t.stop ≤ s.size ∧ (j + 1 = l.length → t.kind = 0 ∧ t.stop = s.size) ∧ (j + 1 < l.length → Chain s t.stop (l.drop (j + 1))) := by
  have hj : j < l.length := (List.getElem?_eq_some_iff.1 ht).1
  have e : l.drop j = t :: l.drop (j + 1) := by
    rw [List.drop_eq_getElem_cons hj]
    rw [List.getElem?_eq_getElem hj] at ht; injection ht with ht; rw [ht]
  rw [e] at h
  obtain ⟨h1, h2, h3, h4, h5⟩ := h
  refine ⟨h1, h2, h3, h4, fun hl => ?_, fun hl => ?_⟩
  · rw [if_pos (List.drop_of_length_le (by omega))] at h5; exact h5
  · rw [if_neg (by intro e2; have := congrArg List.length e2; rw [List.length_drop] at this; simp at this; omega)] at h5; exact h5
set_option maxRecDepth 20000 in
set_option maxHeartbeats 4000000 in
theorem apart_any (s : ByteArray) (w : World) (hv : VarOk w) (hs63 : s.size ≤ 140737488351232) :
    Calls Tryd.prog 4 #[.string s] w fun e w' => e = .returned (.bool true) ∧ Below w.heap.size w w' := by
  have HW := Lib.hid (fun W (h : VarOk W) => awake_any W h)
  have HV := Lib.hid hv
  have HK := Lib.hid (fun W (hb : Below w.heap.size w W) => HV.out.keeps (Keeps.below (S := []) hb) (by simp))
  clear hv
  have HW0 := Lib.hid (HW.out w HV.out)
  by_cases hs : s.size ≤ 400
  · have hgt : ¬ (400 : Int) < s.size := by omega
    go_enter Tryd.func4, Tryd.ntmps4
    go_wp2_with fail
    refine HW0.out.mono ?_
    rintro e' w1 ⟨rfl, hb1⟩
    have HB1 := Lib.hid hb1
    have HA := Lib.hid (all_any s w1 (by omega) (HK.out w1 hb1))
    clear hb1
    go_wp2_with fail
    refine HA.out.mono ?_
    rintro e' w2 ⟨v2, rfl, ho2, hb2⟩
    have HB2 := Lib.hid (bl_step HB1.out hb2)
    have HO2 := Lib.hid ho2
    obtain ⟨A2, cap2, rfl⟩ := own_slice ho2
    have hlen0 := allOf_len s
    have HCH := Lib.hid (fun h => allOf_chain (s := s) h)
    clear hb2 ho2 HA
    generalize allOf s = r at *
    obtain ⟨l, pl, code⟩ := r
    simp only at HO2 hlen0 HCH
    have hlen : l.length ≤ 401 := by omega
    clear hlen0
    by_cases hc : code = 0
    · subst hc
      have HC0 := Lib.hid (HCH.out rfl)
      have hl0 : 0 < l.length := by
        have := chain_ne HC0.out
        exact List.length_pos_iff.2 this
      obtain ⟨g, cap3, hA2, _⟩ := own_shape HO2.out (by omega)
      injection hA2 with hA2a hA2b hA2c
      subst hA2a hA2c
      clear HCH hA2b
      go_wp2
      go_loopw [6, 27] (fun p t W => ∃ (j : Nat) (a : Int), j ≤ l.length ∧ t = .int .i64 j ∧ p = .int .i64 a ∧ 0 ≤ a ∧ a ≤ s.size ∧ Hid (Below w2.heap.size w2 W ∧ (j < l.length → Chain s a (l.drop j)) ∧ (j = l.length → a = s.size ∧ ∃ t, l[l.length - 1]? = some t ∧ t.kind = 0))) (fun _ t _ => l.length - (intOf t).toNat)
      case atStart => exact ⟨0, 0, by omega, rfl, rfl, by omega, by omega, Lib.hid ⟨Below.refl _ _, fun _ => HC0.out, fun h => by omega⟩⟩
      case round =>
        obtain ⟨j, a, hj, rfl, rfl, ha0, ha1, H⟩ := hrel
        by_cases hlt : j < l.length
        · have hjI : (j : Int) < l.length := by omega
          obtain ⟨t, ht⟩ : ∃ t, l[j]? = some t := ⟨l[j], List.getElem?_eq_getElem hlt⟩
          have HCT := Lib.hid (chain_at (H.out.2.1 hlt) ht)
          have HOr := Lib.hid (own_below HO2.out H.out.1)
          obtain ⟨kd, tx, vl, hd, st⟩ := t
          have HT := Lib.hid ht
          have c0 : wr.cell? ⟨g, j * 5, none⟩ = some (.int .i64 kd) := tk_cell HOr.out ht (k := 0) rfl
          have c1 : wr.cell? ⟨g, j * 5 + 1, none⟩ = some (.string tx) := tk_cell HOr.out ht (k := 1) rfl
          have c2 : wr.cell? ⟨g, j * 5 + 2, none⟩ = some (.int .i64 vl) := tk_cell HOr.out ht (k := 2) rfl
          have c3 : wr.cell? ⟨g, j * 5 + 3, none⟩ = some (.int .i64 hd) := tk_cell HOr.out ht (k := 3) rfl
          have c4 : wr.cell? ⟨g, j * 5 + 4, none⟩ = some (.int .i64 st) := tk_cell HOr.out ht (k := 4) rfl
          have hct := HCT.out
          simp only at hct
          have hq1 : a ≤ hd := by omega
          have hq2 : hd ≤ st := by omega
          have hq3 : st ≤ s.size := by omega
          have HBL := Lib.hid (fun W => (blanks5_any s a W ha0 ha1 (by omega)).mono (R' := fun e w' => e = .returned (.int .i64 hd) ∧ w' = W) (fun e w' hh => ⟨by rw [hh.1, hct.1], hh.2.symm⟩))
          have hq4 : (hd != hd) = false := by simp
          clear ht hct
          go_upto_region 10 with (fail)
          go_quiet ((go_at_call 13; exact Calls.quiet_of_same (HBL.out _)))
          go_wp2
          go_roundw
          case rel =>
            refine ⟨j + 1, st, by omega, by go_num, rfl, by omega, hq3, Lib.hid ⟨?_, fun h => HCT.out.2.2.2.2.2 h, fun h => ⟨(HCT.out.2.2.2.2.1 h).2, _, by rw [show l.length - 1 = j from by omega]; exact HT.out, (HCT.out.2.2.2.2.1 h).1⟩⟩⟩
            exact bl_drewN (bl_alloc H.out.1 _) _
          case measure => simp [intOf]; omega
        · obtain rfl : j = l.length := by omega
          obtain ⟨he, t, ht, hk⟩ := H.out.2.2 rfl
          have HOr := Lib.hid (own_below HO2.out H.out.1)
          obtain ⟨kd, tx, vl, hd, st⟩ := t
          simp only at hk
          subst hk
          have c0 : wr.cell? ⟨g, (l.length - 1) * 5, none⟩ = some (.int .i64 0) := tk_cell HOr.out ht (k := 0) rfl
          have hlI : (0 : Int) < l.length := by omega
          have heb : (a == (s.size : Int)) = true := by simp [he]
          clear ht he
          go_wp2
          go_ret
          exact ⟨rfl, bl_step HB2.out H.out.1⟩
    · have hcb : (code != 0) = true := by simp [hc]
      clear hc HCH
      go_wp2
      go_ret
      exact ⟨rfl, HB2.out⟩
  · have hgt : (400 : Int) < s.size := by omega
    go_enter Tryd.func4, Tryd.ntmps4
    go_wp2_with fail
    refine HW0.out.mono ?_
    rintro e' w1 ⟨rfl, hb1⟩
    have HB1 := Lib.hid hb1
    have HW1 := Lib.hid (HW.out w1 (HK.out w1 hb1))
    clear hb1
    go_wp2_with fail
    refine HW1.out.mono ?_
    rintro e' w2 ⟨rfl, hb2⟩
    have HB2 := Lib.hid (bl_step HB1.out hb2)
    clear hb2
    go_wp2
    go_ret
    exact ⟨rfl, HB2.out⟩
end Go.Proofs.YtlnmjpacagimnaaDoor
