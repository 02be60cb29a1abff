/- Put together: The parser's marks: a sign, or a word, is passed if it follows; The first of some signs that follows: slices.IndexFunc of the parser's mark; The parser's need, text, key; The parser's key; how many parts a call has; literals; The parser's int; What the parser's int and text answer. -/
import Derived.Test.YtdlkdecigpaaaaaGreatDoorMp19
import Derived.Test.YtdlkdecigpaaaaaGreatDoorMp25
import Derived.Test.YtdlkdecigpaaaaaGreatDoorMp18
import Derived.Test.YtdlkdecigpaaaaaGreatDoorMp15
import Derived.Test.YtdlkdecigpaaaaaGreatDoorMp23
namespace Go.Proofs.YtdlkdecigpaaaaaGreatDoor
set_option linter.unusedVariables false
set_option linter.unusedSimpArgs false
open Go.RowKit

theorem ext_list (s : ByteArray) (a b : Nat) : (s.extract a b).data.toList = (s.data.toList.drop a).take (b - a) := by
  rw [ByteArray.data_extract, Array.toList_extract, List.extract_eq_take_drop]
theorem mark_pref {s : ByteArray} {i : Int} (h0 : 0 ≤ blanks s i) (h1 : blanks s i ≤ s.size) (t : ByteArray) :
    Lib.hasPrefix (s.extract (blanks s i).toNat s.size).data.toList t.data.toList = decide (0 ≤ markAt s i t) := by
  have hl : s.data.toList.length = s.size := by rw [Array.length_toList]; rfl
  have ht : t.data.toList.length = t.size := by rw [Array.length_toList]; rfl
  have e1 : (s.extract (blanks s i).toNat s.size).data.toList = s.data.toList.drop (blanks s i).toNat := by
    rw [ext_list, List.take_of_length_le (by rw [List.length_drop, hl]; exact Nat.le_refl _)]
  have e2 : (s.extract (blanks s i).toNat ((blanks s i).toNat + t.size)).data.toList = (s.data.toList.drop (blanks s i).toNat).take t.size := by
    rw [ext_list, Nat.add_sub_cancel_left]
  rw [e1, Bool.eq_iff_iff]
  unfold Lib.hasPrefix
  rw [List.isPrefixOf_iff_prefix, List.prefix_iff_eq_take, ht, decide_eq_true_eq]
  unfold markAt
  constructor
  · intro h
    have hlen := congrArg List.length h
    rw [ht, List.length_take, List.length_drop, hl] at hlen
    have hc : blanks s i + t.size ≤ s.size ∧ s.extract (blanks s i).toNat ((blanks s i).toNat + t.size) = t := by
      refine ⟨by omega, ?_⟩
      apply bytes_ext
      rw [toList_data, toList_data, e2, ← h]
    rw [if_pos hc]
    omega
  · intro h
    split at h
    · rename_i hc
      rw [← e2, hc.2]
    · omega
theorem word_mark {s : ByteArray} {i : Int} {t : ByteArray} (h0 : 0 ≤ i) (h : wordAt s i = t) (hne : t ≠ eS) : 0 ≤ markAt s i t ∧ markAt s i t = wordAtEnd s i := by
  have hb := blanks_ge s i
  have hw := word_pos h0 (by rw [h]; exact hne)
  have hl : letterAt s (blanks s i) = true := by
    cases hl : letterAt s (blanks s i) with
    | true => rfl
    | false => unfold wordAt at h; rw [hl] at h; exact absurd h.symm (by simpa using hne)
  have e1 : wordAtEnd s i = wordEnd s (blanks s i) := by unfold wordAtEnd; rw [hl]; rfl
  have e2 : s.extract (blanks s i).toNat (wordEnd s (blanks s i)).toNat = t := by rw [← h]; unfold wordAt; rw [hl]; rfl
  have hge : blanks s i ≤ wordEnd s (blanks s i) := upTo_ge
  have hsz : t.size = (wordEnd s (blanks s i)).toNat - (blanks s i).toNat := by
    rw [← e2, ByteArray.size_extract]; omega
  unfold markAt
  rw [if_pos ⟨by omega, by rw [hsz, Nat.add_sub_cancel' (by omega)]; exact e2⟩]
  omega
/-- The place behind a sign, or a word, that follows; below 0: it doesn't. -/
def pmark (s : ByteArray) (i : Int) (t : ByteArray) : Int := if letterB (bt t 0) = true then (if wordAt s i = t then markAt s i t else -1) else markAt s i t
theorem pmark_pos {s : ByteArray} {i : Int} {t : ByteArray} (h : 0 ≤ pmark s i t) (ht : 0 < t.size) : pmark s i t = markAt s i t ∧ i < pmark s i t ∧ pmark s i t ≤ s.size := by
  have e : pmark s i t = markAt s i t := by
    unfold pmark at h ⊢
    split
    · rename_i h1; rw [if_pos h1] at h
      split
      · rfl
      · rename_i h2; rw [if_neg h2] at h; omega
    · rfl
  rw [e] at h ⊢
  exact ⟨rfl, mark_pos h ht⟩
theorem mark_val {s : ByteArray} {i : Int} {t : ByteArray} (h : 0 ≤ markAt s i t) : markAt s i t = blanks s i + t.size := by
  unfold markAt at h ⊢
  split
  · rfl
  · rename_i hc; rw [if_neg hc] at h; omega
theorem fst_bt (t : ByteArray) : ∀ h : 0 < t.size, ((t[0]'h).toNat : Int) = bt t 0 := fun h => bt_at t 0 h
set_option maxRecDepth 20000 in
set_option maxHeartbeats 2000000 in
theorem emark_no (s t : ByteArray) (i pl : Int) (g : Nat) (w : World) (h : PAt s i pl 0 g w) (h0 : 0 ≤ i) (h1 : i ≤ s.size) (hs : s.size ≤ 1000000) (ht : 0 < t.size) (hm : pmark s i t < 0) :
    Calls Tryz.prog 93 #[.pointer (some ⟨g, 0, none⟩), .string t] w fun e w' => e = .returned (.bool false) ∧ ∃ n, w' = w.drewN n := by
  have gc := cell_blk h
  have HA := Lib.hid (eahead_any s i pl 0 g w h h0 hs)
  have HW := Lib.hid (eword_any s i pl 0 g w h h0 h1 hs)
  have hb0 := blanks_ge0 s i h0
  have hb1 := blanks_le h0 h1
  have hpre := mark_pref hb0 hb1 t
  have hft := fst_bt t
  have hr := bt_range t 0
  have HLet := Lib.hid (fun w => eletter_any (bt t 0) w hr.1 hr.2)
  clear h hr
  cases hp : decide (0 ≤ markAt s i t) with
  | false =>
    rw [hp] at hpre
    have HP := Lib.hid (fun w => (hpre ▸ Tryz.strings_HasPrefix (s.extract (blanks s i).toNat s.size) t w : Calls Tryz.prog 131 #[.string (s.extract (blanks s i).toNat s.size), .string t] w fun e w' => e = .returned (.bool false) ∧ w' = w))
    clear hpre hp hm
    generalize blanks s i = b at *
    go_enter Tryz.func93, Tryz.ntmps93
    go_wp2_with (first
      | (go_at_call 46; refine HA.out.mono ?_; rintro e w' ⟨rfl, rfl⟩)
      | (go_at_call 131; refine (HP.out _).mono ?_; rintro e w' ⟨rfl, rfl⟩))
    go_ret
    exact ⟨rfl, 0, rfl⟩
  | true =>
    have hmk : 0 ≤ markAt s i t := of_decide_eq_true hp
    rw [hp] at hpre
    have HP := Lib.hid (fun w => (hpre ▸ Tryz.strings_HasPrefix (s.extract (blanks s i).toNat s.size) t w : Calls Tryz.prog 131 #[.string (s.extract (blanks s i).toNat s.size), .string t] w fun e w' => e = .returned (.bool true) ∧ w' = w))
    have hlet : letterB (bt t 0) = true := by
      cases hl : letterB (bt t 0) with
      | true => rfl
      | false => unfold pmark at hm; rw [hl] at hm; simp at hm; omega
    have hne : ¬ wordAt s i = t := fun e => by
      unfold pmark at hm; rw [hlet, if_pos rfl, if_pos e] at hm; omega
    rw [hlet] at HLet
    have hbne := str_bne hne
    clear hpre hp hm hmk hlet hne
    generalize blanks s i = b at *
    generalize wordAt s i = wd at *
    go_enter Tryz.func93, Tryz.ntmps93
    go_wp2_with (first
      | (go_at_call 46; refine HA.out.mono ?_; rintro e w' ⟨rfl, rfl⟩)
      | (go_at_call 131; refine (HP.out _).mono ?_; rintro e w' ⟨rfl, rfl⟩)
      | (go_at_call 80; refine (HLet.out _).mono ?_; rintro e w' ⟨rfl, rfl⟩)
      | (go_at_call 57; refine HW.out.mono ?_; rintro e w' ⟨rfl, n1, rfl⟩))
    go_ret
    exact ⟨rfl, _, rfl⟩
set_option maxRecDepth 20000 in
set_option maxHeartbeats 2000000 in
theorem emark_yes (s t : ByteArray) (i pl : Int) (g : Nat) (w : World) (h : PAt s i pl 0 g w) (h0 : 0 ≤ i) (h1 : i ≤ s.size) (hs : s.size ≤ 1000000) (ht : 0 < t.size) (ht2 : t.size ≤ 1000000) (hm : 0 ≤ pmark s i t) :
    Calls Tryz.prog 93 #[.pointer (some ⟨g, 0, none⟩), .string t] w fun e w' => e = .returned (.bool true) ∧ PAt s (pmark s i t) pl 0 g w' ∧ Keeps [g] w w' := by
  obtain ⟨e1, _, _⟩ := pmark_pos hm ht
  have hmk : 0 ≤ markAt s i t := by rw [← e1]; exact hm
  have HV : Hid (pmark s i t = blanks s i + t.size) := Lib.hid (e1.trans (mark_val hmk))
  have gc := cell_blk h
  have gf := frozen_blk h
  have HPT := Lib.hid h
  have HA := Lib.hid (eahead_any s i pl 0 g w h h0 hs)
  have HW := Lib.hid (eword_any s i pl 0 g w h h0 h1 hs)
  have hb0 := blanks_ge0 s i h0
  have hb1 := blanks_le h0 h1
  have hpre := mark_pref hb0 hb1 t
  have hft := fst_bt t
  have hr := bt_range t 0
  have HLet := Lib.hid (fun w => eletter_any (bt t 0) w hr.1 hr.2)
  rw [decide_eq_true hmk] at hpre
  have HP := Lib.hid (fun w => (hpre ▸ Tryz.strings_HasPrefix (s.extract (blanks s i).toNat s.size) t w : Calls Tryz.prog 131 #[.string (s.extract (blanks s i).toNat s.size), .string t] w fun e w' => e = .returned (.bool true) ∧ w' = w))
  have hww : letterB (bt t 0) = true → wordAt s i = t := fun hl => by
    unfold pmark at hm; rw [hl, if_pos rfl] at hm
    split at hm
    · assumption
    · omega
  clear h hr hpre hmk e1 hm
  have hw : IntKind.i64.wrap (blanks s i + (t.size : Int)) = blanks s i + (t.size : Int) := by rw [IntKind.wrap_i64]; omega
  generalize pmark s i t = pm at *
  cases hl : letterB (bt t 0) with
  | false =>
    rw [hl] at HLet
    clear hl hww
    generalize blanks s i = b at *
    go_enter Tryz.func93, Tryz.ntmps93
    go_wp2_with (first
      | (go_at_call 46; refine HA.out.mono ?_; rintro e w' ⟨rfl, rfl⟩)
      | (go_at_call 131; refine (HP.out _).mono ?_; rintro e w' ⟨rfl, rfl⟩)
      | (go_at_call 80; refine (HLet.out _).mono ?_; rintro e w' ⟨rfl, rfl⟩))
    go_ret
    rw [HV.out]
    exact ⟨rfl, pat_at HPT.out, (Keeps.refl _ _).set (.inl (by simp)) _⟩
  | true =>
    rw [hl] at HLet
    have hb := str_beq (hww hl)
    clear hl hww
    generalize blanks s i = b at *
    generalize wordAt s i = wd at *
    go_enter Tryz.func93, Tryz.ntmps93
    go_wp2_with (first
      | (go_at_call 46; refine HA.out.mono ?_; rintro e w' ⟨rfl, rfl⟩)
      | (go_at_call 131; refine (HP.out _).mono ?_; rintro e w' ⟨rfl, rfl⟩)
      | (go_at_call 80; refine (HLet.out _).mono ?_; rintro e w' ⟨rfl, rfl⟩)
      | (go_at_call 57; refine HW.out.mono ?_; rintro e w' ⟨rfl, n1, rfl⟩))
    go_ret
    rw [HV.out]
    exact ⟨rfl, pat_at (pat_drewN HPT.out _), ((Keeps.refl _ _).drewN _).set (.inl (by simp)) _⟩
end Go.Proofs.YtdlkdecigpaaaaaGreatDoor
namespace Go.Proofs.YtdlkdecigpaaaaaGreatDoor
set_option linter.unusedVariables false
set_option linter.unusedSimpArgs false
open Go.RowKit

set_option maxRecDepth 20000 in
set_option maxHeartbeats 2000000 in
theorem emark_fail (s t : ByteArray) (i pl c : Int) (g : Nat) (w : World) (h : PAt s i pl c g w) (h0 : 0 ≤ i) (hs : s.size ≤ 1000000) (hc : c ≠ 0) :
    Calls Tryz.prog 93 #[.pointer (some ⟨g, 0, none⟩), .string t] w fun e w' => e = .returned (.bool false) ∧ w = w' := by
  have gc := cell_blk h
  have HA := Lib.hid (eahead_any s i pl c g w h h0 hs)
  have e1 : (c != 0) = true := by simpa using hc
  clear h
  go_enter Tryz.func93, Tryz.ntmps93
  go_wp2_with (go_at_call 46; refine HA.out.mono ?_; rintro e w' ⟨rfl, rfl⟩)
  go_ret
  exact ⟨rfl, rfl⟩
theorem eg_mark : ∀ args w, (callFunc 93 args).run Tryz.prog w = .ok (.enter 93 args) w := enters_of Tryz.func93 (by kernel_rfl) rfl
section
variable (s : ByteArray) (L : List ByteArray) (vL : Value) (S : Nat → Prop) (i pl c : Int) (g : Nat) (w : World)
set_option maxRecDepth 20000 in
set_option maxHeartbeats 2000000 in
theorem index_fail (hL : Sl w S 1 vL L.length (L.map Value.string)) (h : PAt s i pl c g w) (h0 : 0 ≤ i) (hs : s.size ≤ 1000000) (hc : c ≠ 0) (hl : L.length ≤ 10) :
    Calls Tryz.prog 92 #[vL, .func (.func 93) #[.pointer (some ⟨g, 0, none⟩)] #[]] w fun e w' => e = .returned (.int .i64 (-1)) ∧ w = w' := by
  obtain ⟨aL, cL, rfl, hcL, _⟩ := hL.shape
  have HL := Lib.hid hL
  have HM := Lib.hid (fun t => emark_fail s t i pl c g w h h0 hs hc)
  have eg := eg_mark
  clear hL h hc
  go_enter Tryz.func92, Tryz.ntmps92
  go_wp2
  go_loop [8] (fun v => ∃ k : Nat, k ≤ L.length ∧ v = .int .i64 k) (fun v => L.length - (intOf v).toNat)
  case atStart => exact ⟨0, Nat.zero_le _, rfl⟩
  case round =>
    obtain ⟨k, hk, rfl⟩ := hrel
    by_cases hlt : k < L.length
    · obtain ⟨g', o', c', hv, _, _, _, hcells⟩ := HL.out.at (by omega)
      cases hv
      have y0 := hcells k (.string L[k]) (by rw [List.getElem?_map, List.getElem?_eq_getElem hlt]; rfl)
      clear hcells
      go_wp2_with (go_at_call 93; refine (HM.out _).mono ?_; rintro e w' ⟨rfl, rfl⟩)
      go_round
      case rel => exact ⟨k + 1, by omega, by go_num⟩
      case measure => simp [intOf]; omega
    · obtain rfl : k = L.length := by omega
      go_wp2
      go_ret
      exact ⟨rfl, rfl⟩
set_option maxRecDepth 20000 in
set_option maxHeartbeats 2000000 in
theorem index_none (hL : Sl w S 1 vL L.length (L.map Value.string)) (h : PAt s i pl 0 g w) (h0 : 0 ≤ i) (h1 : i ≤ s.size) (hs : s.size ≤ 1000000) (hl : L.length ≤ 10) (hz : ∀ t ∈ L, 0 < t.size) (hm : ∀ t ∈ L, pmark s i t < 0) :
    Calls Tryz.prog 92 #[vL, .func (.func 93) #[.pointer (some ⟨g, 0, none⟩)] #[]] w fun e w' => e = .returned (.int .i64 (-1)) ∧ ∃ n, w' = w.drewN n := by
  obtain ⟨aL, cL, rfl, hcL, _⟩ := hL.shape
  have HL := Lib.hid hL
  have HM := Lib.hid (fun (n : Nat) (k : Nat) (hk : k < L.length) => emark_no s L[k] i pl g (w.drewN n) (pat_drewN h n) h0 h1 hs (hz _ (List.getElem_mem hk)) (hm _ (List.getElem_mem hk)))
  have eg := eg_mark
  clear hL h hm hz
  go_enter Tryz.func92, Tryz.ntmps92
  go_wp2
  go_loopw [8] (fun v W => ∃ (k : Nat) (n : Nat), k ≤ L.length ∧ v = .int .i64 k ∧ Hid (W = w.drewN n)) (fun v _ => L.length - (intOf v).toNat)
  case atStart => exact ⟨0, 0, Nat.zero_le _, rfl, Lib.hid rfl⟩
  case round =>
    obtain ⟨k, n, hk, rfl, HW⟩ := hrel
    obtain rfl := HW.out
    by_cases hlt : k < L.length
    · obtain ⟨g', o', c', hv, _, _, _, hcells⟩ := HL.out.at (by omega)
      cases hv
      have y0 := hcells k (.string L[k]) (by rw [List.getElem?_map, List.getElem?_eq_getElem hlt]; rfl)
      clear hcells
      have HMk := Lib.hid (HM.out n k hlt)
      go_wp2_with (go_at_call 93; refine HMk.out.mono ?_; rintro e w' ⟨rfl, n2, rfl⟩)
      go_roundw
      case rel => exact ⟨k + 1, n + n2, by omega, by go_num, Lib.hid rfl⟩
      case measure => simp [intOf]; omega
    · obtain rfl : k = L.length := by omega
      go_wp2
      go_ret
      exact ⟨rfl, n, rfl⟩
set_option maxRecDepth 20000 in
set_option maxHeartbeats 2000000 in
theorem index_some (q : Nat) (hq : q < L.length) (hL : Sl w S 1 vL L.length (L.map Value.string)) (h : PAt s i pl 0 g w) (h0 : 0 ≤ i) (h1 : i ≤ s.size) (hs : s.size ≤ 1000000) (hl : L.length ≤ 10) (hz : ∀ t ∈ L, 0 < t.size ∧ t.size ≤ 10) (hm : ∀ (j : Nat) (hj : j < L.length), j < q → pmark s i L[j] < 0) (hy : 0 ≤ pmark s i L[q]) :
    Calls Tryz.prog 92 #[vL, .func (.func 93) #[.pointer (some ⟨g, 0, none⟩)] #[]] w fun e w' => e = .returned (.int .i64 q) ∧ PAt s (pmark s i L[q]) pl 0 g w' ∧ Keeps [g] w w' := by
  obtain ⟨aL, cL, rfl, hcL, _⟩ := hL.shape
  have HL := Lib.hid hL
  have HM := Lib.hid (fun (n : Nat) (k : Nat) (hk : k < L.length) (hkq : k < q) => emark_no s L[k] i pl g (w.drewN n) (pat_drewN h n) h0 h1 hs (hz _ (List.getElem_mem hk)).1 (hm k hk hkq))
  have HY := Lib.hid (fun (n : Nat) => emark_yes s L[q] i pl g (w.drewN n) (pat_drewN h n) h0 h1 hs (hz _ (List.getElem_mem hq)).1 (by have := (hz _ (List.getElem_mem hq)).2; omega) hy)
  have eg := eg_mark
  clear hL h hm hz hy
  go_enter Tryz.func92, Tryz.ntmps92
  go_wp2
  go_loopw [8] (fun v W => ∃ (k : Nat) (n : Nat), k ≤ q ∧ v = .int .i64 k ∧ Hid (W = w.drewN n)) (fun v _ => L.length - (intOf v).toNat)
  case atStart => exact ⟨0, 0, Nat.zero_le _, rfl, Lib.hid rfl⟩
  case round =>
    obtain ⟨k, n, hk, rfl, HW⟩ := hrel
    obtain rfl := HW.out
    have hlt : k < L.length := by omega
    obtain ⟨g', o', c', hv, _, _, _, hcells⟩ := HL.out.at (by omega)
    cases hv
    have y0 := hcells k (.string L[k]) (by rw [List.getElem?_map, List.getElem?_eq_getElem hlt]; rfl)
    clear hcells
    by_cases hkq : k < q
    · have HMk := Lib.hid (HM.out n k hlt hkq)
      go_wp2_with (go_at_call 93; refine HMk.out.mono ?_; rintro e w' ⟨rfl, n2, rfl⟩)
      go_roundw
      case rel => exact ⟨k + 1, n + n2, by omega, by go_num, Lib.hid rfl⟩
      case measure => simp [intOf]; omega
    · obtain rfl : k = q := by omega
      have HYk := Lib.hid (HY.out n)
      go_wp2_with (go_at_call 93; refine HYk.out.mono ?_; rintro e w' ⟨rfl, hp, hk2⟩; have HP := Lib.hid hp; have HK2 := Lib.hid hk2; clear hp hk2)
      go_ret
      exact ⟨rfl, HP.out, ((Keeps.refl _ _).drewN n).trans HK2.out⟩
end
end Go.Proofs.YtdlkdecigpaaaaaGreatDoor
namespace Go.Proofs.YtdlkdecigpaaaaaGreatDoor
set_option linter.unusedVariables false
set_option linter.unusedSimpArgs false
open Go.RowKit

section
variable (s : ByteArray) (i pl : Int) (g : Nat) (w : World)
set_option maxRecDepth 20000 in
set_option maxHeartbeats 2000000 in
theorem eneed_yes (t : ByteArray) (h : PAt s i pl 0 g w) (h0 : 0 ≤ i) (h1 : i ≤ s.size) (hs : s.size ≤ 1000000) (ht : 0 < t.size) (ht2 : t.size ≤ 1000000) (hm : 0 ≤ pmark s i t) :
    Calls Tryz.prog 180 #[.pointer (some ⟨g, 0, none⟩), .string t] w fun e w' => e = .returned (.tuple #[]) ∧ PAt s (pmark s i t) pl 0 g w' ∧ Keeps [g] w w' := by
  have HM := Lib.hid (emark_yes s t i pl g w h h0 h1 hs ht ht2 hm)
  clear h hm
  go_enter Tryz.func180, Tryz.ntmps180
  go_wp2_with (go_at_call 93; refine HM.out.mono ?_; rintro e w' ⟨rfl, hp, hk⟩; have HP2 := Lib.hid (And.intro hp hk); clear hp hk)
  go_end0
  exact ⟨rfl, HP2.out⟩
set_option maxRecDepth 20000 in
set_option maxHeartbeats 2000000 in
theorem eneed_no (t : ByteArray) (h : PAt s i pl 0 g w) (h0 : 0 ≤ i) (h1 : i ≤ s.size) (hs : s.size ≤ 1000000) (ht : 0 < t.size) (hm : pmark s i t < 0) :
    Calls Tryz.prog 180 #[.pointer (some ⟨g, 0, none⟩), .string t] w fun e w' => e = .returned (.tuple #[]) ∧ PAt s i (blanks s i) 1 g w' ∧ Keeps [g] w w' := by
  have HM := Lib.hid (emark_no s t i pl g w h h0 h1 hs ht hm)
  have HA := Lib.hid (fun n => eahead_any s i pl 0 g (w.drewN n) (pat_drewN h n) h0 hs)
  have HF := Lib.hid (fun n => fail_yes s i pl (blanks s i) 1 g (w.drewN n) (pat_drewN h n))
  generalize blanks s i = q at *
  clear h hm
  go_enter Tryz.func180, Tryz.ntmps180
  go_wp2_with (first
    | (go_at_call 93; refine HM.out.mono ?_; rintro e w' ⟨rfl, n, rfl⟩)
    | (go_at_call 46; refine (HA.out _).mono ?_; rintro e w' ⟨rfl, rfl⟩)
    | (go_at_call 47; refine (HF.out _).mono ?_; rintro e w' ⟨rfl, hp, hk⟩; have HP2 := Lib.hid (And.intro hp hk); clear hp hk))
  go_end0
  exact ⟨rfl, HP2.out.1, ((Keeps.refl _ _).drewN _).trans HP2.out.2⟩
set_option maxRecDepth 20000 in
set_option maxHeartbeats 2000000 in
theorem eneed_fail (t : ByteArray) (c : Int) (h : PAt s i pl c g w) (h0 : 0 ≤ i) (hs : s.size ≤ 1000000) (hc : c ≠ 0) :
    Calls Tryz.prog 180 #[.pointer (some ⟨g, 0, none⟩), .string t] w fun e w' => e = .returned (.tuple #[]) ∧ w = w' := by
  have HM := Lib.hid (emark_fail s t i pl c g w h h0 hs hc)
  have HA := Lib.hid (eahead_any s i pl c g w h h0 hs)
  have HF := Lib.hid (fail_no s i pl c (blanks s i) 1 g w h hc)
  generalize blanks s i = q at *
  clear h
  go_enter Tryz.func180, Tryz.ntmps180
  go_wp2_with (first
    | (go_at_call 93; refine HM.out.mono ?_; rintro e w' ⟨rfl, rfl⟩)
    | (go_at_call 46; refine HA.out.mono ?_; rintro e w' ⟨rfl, rfl⟩)
    | (go_at_call 47; refine HF.out.mono ?_; rintro e w' ⟨rfl, rfl⟩))
  go_end0
  exact ⟨rfl, rfl⟩
set_option maxRecDepth 20000 in
set_option maxHeartbeats 2000000 in
theorem etext_form (h : PAt s i pl 0 g w) (h0 : 0 ≤ i) (h1 : i ≤ s.size) (hs : s.size ≤ 1000000) (hq : isAt s (blanks s i) 34 = false) :
    Calls Tryz.prog 184 #[.pointer (some ⟨g, 0, none⟩)] w fun e w' => e = .returned (.string eS) ∧ PAt s i (blanks s i) 1 g w' ∧ Keeps [g] w w' := by
  have gc := cell_blk h
  have HA := Lib.hid (eahead_any s i pl 0 g w h h0 hs)
  have HF := Lib.hid (fail_yes s i pl (blanks s i) 1 g w h)
  have hb0 := blanks_ge0 s i h0
  have hb1 := blanks_le h0 h1
  generalize blanks s i = q at *
  clear h
  by_cases c : q < s.size
  · have hbt := bt_at s q
    have hne : (q == (s.size : Int)) = false := by rw [beq_eq_false_iff_ne]; omega
    have hb : (bt s q != 34) = true := by simp [isAt, c] at hq; simpa using hq
    clear hq
    go_enter Tryz.func184, Tryz.ntmps184
    go_wp2_with (first
      | (go_at_call 46; refine HA.out.mono ?_; rintro e w' ⟨rfl, rfl⟩)
      | (go_at_call 47; refine HF.out.mono ?_; rintro e w' ⟨rfl, hp, hk⟩; have HP2 := Lib.hid (And.intro hp hk); clear hp hk))
    go_ret
    exact ⟨rfl, HP2.out⟩
  · have heq : (q == (s.size : Int)) = true := by rw [beq_iff_eq]; omega
    clear hq
    go_enter Tryz.func184, Tryz.ntmps184
    go_wp2_with (first
      | (go_at_call 46; refine HA.out.mono ?_; rintro e w' ⟨rfl, rfl⟩)
      | (go_at_call 47; refine HF.out.mono ?_; rintro e w' ⟨rfl, hp, hk⟩; have HP2 := Lib.hid (And.intro hp hk); clear hp hk))
    go_ret
    exact ⟨rfl, HP2.out⟩
/-- What the parser's text says of a Str's reading. -/
def TextSays (r : Tk × Int × Int) (e : Ending) (w' : World) : Prop :=
  (r.2.2 = 0 → e = .returned (.string r.1.text) ∧ PAt s r.1.stop pl 0 g w' ∧ Keeps [g] w w') ∧ (r.2.2 ≠ 0 → e = .returned (.string eS) ∧ PAt s i r.2.1 r.2.2 g w' ∧ Keeps [g] w w')
theorem new_facts (w1 : World) (u : ByteArray) (h : PAt s i pl 0 g w) (hv : VarOk w) (hw1 : w.alloc (.cells #[.string u, .int .i64 0] 238) = w1) : Lex u 0 w.heap.size w1 ∧ Keeps [] w w1 ∧ PAt s i pl 0 g w1 ∧ VarOk w1 := by
  have k1 : Keeps [] w w1 := by subst hw1; exact (Keeps.refl _ _).alloc _
  exact ⟨by subst hw1; exact lnew_lex _ _, k1, pat_keeps h k1 (by simp), hv.keeps k1 (by simp)⟩
theorem next_facts (w1 w2 : World) (h : PAt s i pl 0 g w) (k1 : Keeps [] w w1) (k2 : Keeps [w.heap.size] w1 w2) : Keeps [] w w2 ∧ PAt s i pl 0 g w2 := by
  have k3 : Keeps [] w w2 := k1.step k2 (fun b hb hb2 => by simp at hb; omega)
  exact ⟨k3, pat_keeps h k3 (by simp)⟩
set_option maxRecDepth 20000 in
set_option maxHeartbeats 4000000 in
theorem etext_any (h : PAt s i pl 0 g w) (hv : VarOk w) (hg2 : 5 < g) (h0 : 0 ≤ i) (h1 : i ≤ s.size) (hs : s.size ≤ 1000000) (hq : isAt s (blanks s i) 34 = true) :
    Calls Tryz.prog 184 #[.pointer (some ⟨g, 0, none⟩)] w (TextSays s i pl g w (strF s (blanks s i))) := by
  have gc := cell_blk h
  have gf := frozen_blk h
  have hglt := hk_lt h
  have HP := Lib.hid h
  have HV := Lib.hid hv
  have HA := Lib.hid (eahead_any s i pl 0 g w h h0 hs)
  have hb0 := blanks_ge0 s i h0
  have hb1 := blanks_le h0 h1
  generalize blanks s i = q at *
  have hlt := isAt_lt hq
  have hbt := bt_at s q
  have hne : (q == (s.size : Int)) = false := by rw [beq_eq_false_iff_ne]; omega
  have hb : (bt s q != 34) = false := by simp only [isAt, Bool.and_eq_true, beq_iff_eq] at hq; simp [hq.2]
  have hsh : Sh (s.extract q.toNat s.size) s q := sh_extract hb0 hb1
  have hu : isAt (s.extract q.toNat s.size) 0 34 = true := by rw [← hsh.isAt (by omega), Int.add_zero]; exact hq
  have HSH := Lib.hid hsh
  have husz : (s.extract q.toNat s.size).size ≤ 1000000 := by rw [ByteArray.size_extract]; omega
  have HN := Lib.hid (fun W (hl : Lex (s.extract q.toNat s.size) 0 w.heap.size W) (hv : VarOk W) => lnext_any (s.extract q.toNat s.size) 0 w.heap.size W hl hv (by omega) (by omega) (by omega) husz)
  rw [next_str hu] at HN
  have HQ := Lib.hid (And.intro hq hu)
  clear h hv hq hu hsh husz
  go_enter Tryz.func184, Tryz.ntmps184
  go_wp2_with (first
    | (go_at_call 46; refine HA.out.mono ?_; rintro e w' ⟨rfl, rfl⟩)
    | (go_at_call 188; refine (lnew_any _ _).mono ?_; rintro e' w1 ⟨rfl, hw1⟩; have HX1 := Lib.hid (new_facts s i pl g w w1 _ HP.out HV.out hw1); clear hw1))
  refine (HN.out w1 HX1.out.1 HX1.out.2.2.2).mono ?_
  rintro e' w2 ⟨rfl, hl2, hk2⟩
  have HX2 := Lib.hid (next_facts s i pl g w w1 w2 HP.out HX1.out.2.1 hk2)
  have gc2 := cell_blk HX2.out.2
  have gf2 := frozen_blk HX2.out.2
  have hlt2 := hk_lt HX2.out.2
  have HS := Lib.hid HSH.out.str
  have HBD := Lib.hid (str_bound hb0 hlt)
  clear hl2 hk2 HN HX1 HSH
  generalize strF (s.extract q.toNat s.size) 0 = x at *
  generalize strF s q = y at *
  obtain ⟨⟨kd, tx, vl, hd, st⟩, p, code⟩ := x
  obtain ⟨⟨kd2, tx2, vl2, hd2, st2⟩, p2, code2⟩ := y
  obtain ⟨ha, hb2, hc2, hd3⟩ := HS.out
  simp only at ha hb2 hc2 hd3
  have hbd := HBD.out
  simp only at hbd
  subst ha hb2
  unfold Tk.cells
  simp only
  by_cases hc : code2 = 0
  · subst hc
    have HD := Lib.hid (hc2 rfl)
    have hwr : IntKind.i64.wrap (q + st) = q + st := by have := hbd.2 rfl; have := hc2 rfl; rw [IntKind.wrap_i64]; omega
    clear hc2 hd3 HS hbd HBD
    go_wp2
    go_ret
    exact ⟨fun _ => ⟨rfl, by rw [show st2 = q + st from HD.out]; exact pat_alloc (pat_at HX2.out.2) _, ((HX2.out.1.mono (by simp)).set (.inl (by simp)) _).alloc _⟩, fun h => absurd rfl h⟩
  · have hcb : (code2 != 0) = true := by simpa using hc
    have HD := Lib.hid (And.intro hc (hd3 hc))
    have hwr : IntKind.i64.wrap (q + p) = q + p := by have := hbd.1 hc; have := hd3 hc; rw [IntKind.wrap_i64]; omega
    clear hc2 hd3 HS hbd HBD
    go_wp2_with fail
    refine (fail_yes s i pl (q + p) code2 g _ (pat_alloc HX2.out.2 _)).mono ?_
    rintro e3 w3 ⟨rfl, hp3, hk3⟩
    have H3 := Lib.hid (And.intro hp3 hk3)
    clear hp3 hk3
    go_wp2
    go_ret
    exact ⟨fun h => absurd h HD.out.1, fun _ => ⟨rfl, by rw [show p2 = q + p from HD.out.2]; exact H3.out.1, ((HX2.out.1.mono (by simp)).alloc _).trans H3.out.2⟩⟩
end
end Go.Proofs.YtdlkdecigpaaaaaGreatDoor
namespace Go.Proofs.YtdlkdecigpaaaaaGreatDoor
set_option linter.unusedVariables false
set_option linter.unusedSimpArgs false
open Go.RowKit

theorem tl_beq (t : ByteArray) (l : List UInt8) : (t.toList == l) = decide (t = ⟨l.toArray⟩) := by
  rw [Bool.eq_iff_iff, beq_iff_eq, decide_eq_true_iff, ByteArray.toList_eq]
  constructor
  · intro h; rw [← h]
  · intro h; rw [h]
set_option maxRecDepth 20000 in
set_option maxHeartbeats 4000000 in
theorem earity_any (t : ByteArray) (w : World) : Calls Tryz.prog 52 #[.string t] w fun e w' => e = .returned (.int .i64 (argsN t)) ∧ w = w' := by
  have H : Hid (argsN t = if t = lenS ∨ t = sumS ∨ t = minS ∨ t = maxS ∨ t = allS ∨ t = anyS ∨ t = keysS then 1 else if t = hasS ∨ t = countS ∨ t = startsS ∨ t = endsS ∨ t = joinS then 2 else 0) := Lib.hid (by simp [argsN, memL_iff, oneL, twoL])
  generalize argsN t = r at *
  go_enter Tryz.func52, Tryz.ntmps52
  go_wp2
  all_goals
    go_ret
    refine ⟨ret_i64 ?_, rfl⟩
    have h2 := H.out
    clear H
    simp_all [tl_beq]
set_option maxRecDepth 20000 in
set_option maxHeartbeats 400000 in
theorem vnumber_any (n : Int) (w : World) : Calls Tryz.prog 39 #[.int .i64 n] w fun e w' => e = .returned (.agg #[.int .i64 2, .bool false, .int .i64 n, .string eS, .slice none 0 0, .slice none 0 0]) ∧ Keeps [] w w' := by
  go_enter Tryz.func39, Tryz.ntmps39
  go_wp2
  refine bodyPost_ret (v := .agg #[.int .i64 2, .bool false, .int .i64 n, .string eS, .slice none 0 0, .slice none 0 0]) (by simp [results, Tryz.results39, go_sem]) rfl ⟨rfl, (Keeps.refl _ _).alloc _⟩
set_option maxRecDepth 20000 in
set_option maxHeartbeats 400000 in
theorem vtruth_any (b : Bool) (w : World) : Calls Tryz.prog 185 #[.bool b] w fun e w' => e = .returned (.agg #[.int .i64 1, .bool b, .int .i64 0, .string eS, .slice none 0 0, .slice none 0 0]) ∧ Keeps [] w w' := by
  go_enter Tryz.func185, Tryz.ntmps185
  go_wp2
  refine bodyPost_ret (v := .agg #[.int .i64 1, .bool b, .int .i64 0, .string eS, .slice none 0 0, .slice none 0 0]) (by simp [results, Tryz.results185, go_sem]) rfl ⟨rfl, (Keeps.refl _ _).alloc _⟩
set_option maxRecDepth 20000 in
set_option maxHeartbeats 400000 in
theorem vtext_any (t : ByteArray) (w : World) : Calls Tryz.prog 183 #[.string t] w fun e w' => e = .returned (.agg #[.int .i64 3, .bool false, .int .i64 0, .string t, .slice none 0 0, .slice none 0 0]) ∧ Keeps [] w w' := by
  go_enter Tryz.func183, Tryz.ntmps183
  go_wp2
  refine bodyPost_ret (v := .agg #[.int .i64 3, .bool false, .int .i64 0, .string t, .slice none 0 0, .slice none 0 0]) (by simp [results, Tryz.results183, go_sem]) rfl ⟨rfl, (Keeps.refl _ _).alloc _⟩
set_option maxRecDepth 20000 in
set_option maxHeartbeats 400000 in
theorem eliteral_any (k n : Int) (b : Bool) (s : ByteArray) (a1 a2 : Option Addr) (n1 c1 n2 c2 : Nat) (w : World) : Calls Tryz.prog 182 #[.agg #[.int .i64 k, .bool b, .int .i64 n, .string s, .slice a1 n1 c1, .slice a2 n2 c2]] w fun e w' => e = .returned (.agg #[.string litS, .string eS, .int .i64 k, .bool b, .int .i64 n, .string s, .slice a1 n1 c1, .slice a2 n2 c2, .slice none 0 0]) ∧ Keeps [] w w' := by
  go_enter Tryz.func182, Tryz.ntmps182
  go_wp2
  refine bodyPost_ret (v := .agg #[.string litS, .string eS, .int .i64 k, .bool b, .int .i64 n, .string s, .slice a1 n1 c1, .slice a2 n2 c2, .slice none 0 0]) (by simp [results, Tryz.results182, go_sem]) rfl ⟨rfl, ((Keeps.refl _ _).alloc _).alloc _⟩
section
variable (s : ByteArray) (i pl : Int) (g : Nat) (w : World)
set_option maxRecDepth 20000 in
set_option maxHeartbeats 2000000 in
theorem ekey_word (h : PAt s i pl 0 g w) (h0 : 0 ≤ i) (h1 : i ≤ s.size) (hs : s.size ≤ 1000000) (hw : wordAt s i ≠ eS) :
    Calls Tryz.prog 179 #[.pointer (some ⟨g, 0, none⟩)] w fun e w' => e = .returned (.string (wordAt s i)) ∧ PAt s (wordAtEnd s i) pl 0 g w' ∧ Keeps [g] w w' := by
  have gc := cell_blk h
  have gf := frozen_blk h
  have HP := Lib.hid h
  have HW := Lib.hid (eword_any s i pl 0 g w h h0 h1 hs)
  have HA := Lib.hid (fun n => eahead_any s i pl 0 g (w.drewN n) (pat_drewN h n) h0 hs)
  have hq0 := blanks_ge0 s i h0
  have hq1 := blanks_le h0 h1
  have HE : Hid (wordAtEnd s i = blanks s i + (wordAt s i).size) := Lib.hid (by
    have hm := word_mark h0 rfl hw
    rw [← hm.2]; exact mark_val hm.1)
  have hpos := word_pos h0 hw
  have hsz : blanks s i + (wordAt s i).size ≤ s.size := by have := HE.out; omega
  have hne : (wordAt s i).toList.isEmpty = false := toList_ne (fun h => hw (by cases hx : wordAt s i with | mk d => rw [hx] at h; simp only [ByteArray.size] at h; rw [show d = #[] from Array.eq_empty_of_size_eq_zero h]))
  generalize wordAt s i = t at *
  generalize wordAtEnd s i = e1 at *
  generalize blanks s i = q at *
  have hwr : IntKind.i64.wrap (q + (t.size : Int)) = q + (t.size : Int) := by rw [IntKind.wrap_i64]; omega
  clear h hw
  go_enter Tryz.func179, Tryz.ntmps179
  go_wp2_with (first
    | (go_at_call 57; refine HW.out.mono ?_; rintro e w' ⟨rfl, n, rfl⟩)
    | (go_at_call 46; refine (HA.out _).mono ?_; rintro e w' ⟨rfl, rfl⟩))
  go_ret
  rw [HE.out]
  exact ⟨rfl, pat_at (pat_drewN HP.out _), ((Keeps.refl _ _).drewN _).set (.inl (by simp)) _⟩
end
end Go.Proofs.YtdlkdecigpaaaaaGreatDoor
namespace Go.Proofs.YtdlkdecigpaaaaaGreatDoor
set_option linter.unusedVariables false
set_option linter.unusedSimpArgs false
open Go.RowKit

/-- What a parser's part answers: a tree, in memory of its own, and where the parser is. -/
def PSays (s : ByteArray) (r : Res) (pl : Int) (g : Nat) (w : World) (e : Ending) (w' : World) : Prop :=
  ∃ (T : XT) (vi vk va : Value), e = .returned (T.agg vi vk va) ∧ T.Rep w' (w.heap.size ≤ ·) vi vk va ∧ Keeps [g] w w' ∧
    match r with | .ok U p => T = U ∧ PAt s p pl 0 g w' | .err p c => ∃ a : Int, 0 ≤ a ∧ a ≤ s.size ∧ PAt s a p c g w'
abbrev zero9 : Array Value := #[.string eS, .string eS, .int .i64 0, .bool false, .int .i64 0, .string eS, .slice none 0 0, .slice none 0 0, .slice none 0 0]
/-- Block b bears a tree's zero; the parser is somewhere. -/
def Box (s : ByteArray) (a pl c : Int) (g b : Nat) (w0 w : World) : Prop := PAt s a pl c g w ∧ Keeps [g] w0 w ∧ w.heap[b]? = some (.cells zero9 52 (0, 0))
section
variable {s : ByteArray} {i pl c : Int} {g : Nat} {w : World}
theorem box_new (h : PAt s i pl c g w) : Box s i pl c g w.heap.size w (w.alloc (.cells zero9 52)) := ⟨pat_alloc h _, (Keeps.refl _ _).alloc _, new_blk _ _⟩
theorem Box.go {b : Nat} {w1 w2 : World} (h : Box s i pl c g b w w1) (k : Keeps [] w1 w2) : Box s i pl c g b w w2 :=
  ⟨pat_keeps h.1 k (by simp), h.2.1.trans (k.mono (by simp)), k.same h.2.2⟩
theorem Box.to {b : Nat} {w1 w2 : World} {j p2 c2 : Int} (h : Box s i pl c g b w w1) (hb : b ≠ g) (k : Keeps [g] w1 w2) (hp : PAt s j p2 c2 g w2) : Box s j p2 c2 g b w w2 :=
  ⟨hp, h.2.1.trans k, k.heap h.2.2 (by simpa using hb)⟩
theorem Box.at {b : Nat} {w1 : World} {j : Int} (h : Box s i pl c g b w w1) (hb : b ≠ g) : Box s j pl c g b w (w1.setCell ⟨g, 1, none⟩ (.int .i64 j)) :=
  h.to hb ((Keeps.refl _ _).set (.inl (by simp)) _) (pat_at h.1)
end
abbrev sets9 (W : World) (b : Nat) (v0 v1 v2 v3 v4 v5 v6 v7 v8 : Value) : World :=
  ((((((((W.setCell ⟨b, 0, none⟩ v0).setCell ⟨b, 1, none⟩ v1).setCell ⟨b, 2, none⟩ v2).setCell ⟨b, 3, none⟩ v3).setCell ⟨b, 4, none⟩ v4).setCell ⟨b, 5, none⟩ v5).setCell ⟨b, 6, none⟩ v6).setCell ⟨b, 7, none⟩ v7).setCell ⟨b, 8, none⟩ v8
theorem blk_sets9 {W : World} {b : Nat} {t : TypeId} {c0 c1 c2 c3 c4 c5 c6 c7 c8 : Value} (h : W.heap[b]? = some (.cells #[c0, c1, c2, c3, c4, c5, c6, c7, c8] t (0, 0))) (v0 v1 v2 v3 v4 v5 v6 v7 v8 : Value) :
    (sets9 W b v0 v1 v2 v3 v4 v5 v6 v7 v8).heap[b]? = some (.cells #[v0, v1, v2, v3, v4, v5, v6, v7, v8] t (0, 0)) := by
  have h0 := set_to (cs' := #[v0, c1, c2, c3, c4, c5, c6, c7, c8]) h 0 v0 rfl
  have h1 := set_to (cs' := #[v0, v1, c2, c3, c4, c5, c6, c7, c8]) h0 1 v1 rfl
  have h2 := set_to (cs' := #[v0, v1, v2, c3, c4, c5, c6, c7, c8]) h1 2 v2 rfl
  have h3 := set_to (cs' := #[v0, v1, v2, v3, c4, c5, c6, c7, c8]) h2 3 v3 rfl
  have h4 := set_to (cs' := #[v0, v1, v2, v3, v4, c5, c6, c7, c8]) h3 4 v4 rfl
  have h5 := set_to (cs' := #[v0, v1, v2, v3, v4, v5, c6, c7, c8]) h4 5 v5 rfl
  have h6 := set_to (cs' := #[v0, v1, v2, v3, v4, v5, v6, c7, c8]) h5 6 v6 rfl
  have h7 := set_to (cs' := #[v0, v1, v2, v3, v4, v5, v6, v7, c8]) h6 7 v7 rfl
  have h8 := set_to (cs' := #[v0, v1, v2, v3, v4, v5, v6, v7, v8]) h7 8 v8 rfl
  exact h8
theorem keeps_sets9 (W : World) (b : Nat) (v0 v1 v2 v3 v4 v5 v6 v7 v8 : Value) : Keeps [b] W (sets9 W b v0 v1 v2 v3 v4 v5 v6 v7 v8) :=
  (((((((((Keeps.refl _ _).set (.inl (by simp)) _).set (.inl (by simp)) _).set (.inl (by simp)) _).set (.inl (by simp)) _).set (.inl (by simp)) _).set (.inl (by simp)) _).set (.inl (by simp)) _).set (.inl (by simp)) _).set (.inl (by simp)) _
/-- A tree laid into its box. -/
theorem Box.lay {s : ByteArray} {i pl c : Int} {g b : Nat} {w w1 : World} (h : Box s i pl c g b w w1) (hb : b ≠ g) (hw : w.heap.size ≤ b) (v0 v1 v2 v3 v4 v5 v6 v7 v8 : Value) :
    (sets9 w1 b v0 v1 v2 v3 v4 v5 v6 v7 v8).heap[b]? = some (.cells #[v0, v1, v2, v3, v4, v5, v6, v7, v8] 52 (0, 0)) ∧ PAt s i pl c g (sets9 w1 b v0 v1 v2 v3 v4 v5 v6 v7 v8) ∧ Keeps [g] w (sets9 w1 b v0 v1 v2 v3 v4 v5 v6 v7 v8) :=
  ⟨blk_sets9 h.2.2 _ _ _ _ _ _ _ _ _, pat_keeps h.1 (keeps_sets9 _ _ _ _ _ _ _ _ _ _ _) (by simpa using fun e => hb e.symm), h.2.1.step (keeps_sets9 _ _ _ _ _ _ _ _ _ _ _) (fun k hk hk2 => by simp at hk; omega)⟩
theorem abs_post {P : Program} {f : Func} {Q : Ending → World → Prop} {x : Exit} {a : Act} {W : World} (F : World → Prop) (hF : F W) (h : ∀ W', F W' → bodyPost P f Q x a W') : bodyPost P f Q x a W := h W hF
section NUM
variable (s : ByteArray) (i pl q : Int) (g : Nat) (w : World)
set_option maxRecDepth 20000 in
set_option maxHeartbeats 8000000 in
theorem enumber_ok (h : PAt s i pl 0 g w) (hv : VarOk w) (h0 : 0 ≤ q) (hs : s.size ≤ 1000000) (hd : digitAt s q = true)
    (h1 : ¬ (bt s q = 48 ∧ q + 1 < digitsEnd s q)) (h2 : parseCode (cutS s q (digitsEnd s q)) = 0) (h3 : goesAt s (digitsEnd s q) = false) :
    Calls Tryz.prog 181 #[.pointer (some ⟨g, 0, none⟩), .int .i64 q] w fun e w' => e = .returned ((litT (nrV (parseVal (cutS s q (digitsEnd s q))))).agg (.slice none 0 0) (.slice none 0 0) (.slice none 0 0)) ∧ PAt s (digitsEnd s q) pl 0 g w' ∧ Keeps [g] w w' := by
  have hglt := hk_lt h
  have hB := Lib.hid (box_new h)
  have hgne : w.heap.size ≠ g := by omega
  obtain ⟨hp1, hp2⟩ := digits_pos h0 hd
  have hE := fun (W : World) (hW : PAt s i pl 0 g W) => eend_any 102 (enters_of Tryz.func102 (by kernel_rfl) rfl) digitB digitAt edigit_any (fun s i h => digit_bt h) (fun s i h => digitAt_lt h) s q i pl 0 g W hW h0 hs
  have HDE : Hid (digitsEnd s q = upTo (digitAt s) s.size q) := Lib.hid rfl
  have HE := Lib.hid (hE _ hB.out.1)
  rw [← HDE.out] at HE
  have hcs : (cutS s q (digitsEnd s q)).size ≤ 1000000 := by rw [ByteArray.size_extract]; omega
  have HW := Lib.hid (wparse_any (cutS s q (digitsEnd s q)) _ hcs (hv.keeps ((Keeps.refl [] w).alloc (.cells zero9 52)) (by simp)))
  have gc := cell_blk hB.out.1
  have hbt := bt_at s q
  have hbq : q < s.size := digitAt_lt hd
  generalize parseVal (cutS s q (digitsEnd s q)) = pv at *
  have hbe := bt_at s (digitsEnd s q)
  have HGO := Lib.hid h3
  rw [h2] at HW
  generalize digitsEnd s q = e1 at *
  clear h hv hE h2 h3 hd hcs
  cases c48 : (bt s q == 48)
  · clear h1
    by_cases ce : e1 < s.size
    · skip
      have hrg := bt_range s e1
      have HG := Lib.hid (fun w => ((show goesB (bt s e1) = false by rw [← goes_bt ce]; exact HGO.out) ▸ egoes_any (bt s e1) w hrg.1 hrg.2 : Calls Tryz.prog 82 #[.int .u8 (bt s e1)] w fun e w' => e = .returned (.bool false) ∧ w = w'))
      go_enter Tryz.func181, Tryz.ntmps181
      go_wp2_with (first
        | (go_at_call 81; refine HE.out.mono ?_; rintro e w' ⟨rfl, rfl⟩)
        | (go_at_call 187; refine HW.out.mono ?_; rintro e w1 ⟨rfl, hb1⟩; have HB1 := Lib.hid (hB.out.go (Keeps.below hb1)); have gc1 := cell_blk HB1.out.1; have gf1 := frozen_blk HB1.out.1; clear hb1)
        | (go_at_call 82; refine (HG.out _).mono ?_; rintro e w' ⟨rfl, rfl⟩))
      refine (vnumber_any _ _).mono ?_
      rintro e w2 ⟨rfl, hk2⟩
      have HB2 := Lib.hid ((HB1.out.at (j := e1) hgne).go hk2)
      clear hk2
      go_wp2_with fail
      refine (eliteral_any _ _ _ _ _ _ _ _ _ _ _).mono ?_
      rintro e w3 ⟨rfl, hk3⟩
      have HB3 := Lib.hid (HB2.out.go hk3)
      have gb3 := cell_blk HB3.out.2.2
      have gbf3 := frozen_blk HB3.out.2.2
      clear hk3
      go_wp2
      refine abs_post (F := fun W => W.heap[w.heap.size]? = some (.cells #[.string litS, .string eS, .int .i64 2, .bool false, .int .i64 pv, .string eS, .slice none 0 0, .slice none 0 0, .slice none 0 0] 52 (0, 0)) ∧ PAt s e1 pl 0 g W ∧ Keeps [g] w W) (HB3.out.lay hgne (Nat.le_refl _) _ _ _ _ _ _ _ _ _) (fun W hW => ?_)
      have cr := cell_blk hW.1
      exact bodyPost_ret (v := (litT (nrV pv)).agg (.slice none 0 0) (.slice none 0 0) (.slice none 0 0)) (by simp [results, Tryz.results181, go_sem, cr]; exact ⟨rfl, rfl, rfl, rfl, rfl, rfl⟩) rfl ⟨rfl, hW.2⟩
    · skip
      go_enter Tryz.func181, Tryz.ntmps181
      go_wp2_with (first
        | (go_at_call 81; refine HE.out.mono ?_; rintro e w' ⟨rfl, rfl⟩)
        | (go_at_call 187; refine HW.out.mono ?_; rintro e w1 ⟨rfl, hb1⟩; have HB1 := Lib.hid (hB.out.go (Keeps.below hb1)); have gc1 := cell_blk HB1.out.1; have gf1 := frozen_blk HB1.out.1; clear hb1))
      refine (vnumber_any _ _).mono ?_
      rintro e w2 ⟨rfl, hk2⟩
      have HB2 := Lib.hid ((HB1.out.at (j := e1) hgne).go hk2)
      clear hk2
      go_wp2_with fail
      refine (eliteral_any _ _ _ _ _ _ _ _ _ _ _).mono ?_
      rintro e w3 ⟨rfl, hk3⟩
      have HB3 := Lib.hid (HB2.out.go hk3)
      have gb3 := cell_blk HB3.out.2.2
      have gbf3 := frozen_blk HB3.out.2.2
      clear hk3
      go_wp2
      refine abs_post (F := fun W => W.heap[w.heap.size]? = some (.cells #[.string litS, .string eS, .int .i64 2, .bool false, .int .i64 pv, .string eS, .slice none 0 0, .slice none 0 0, .slice none 0 0] 52 (0, 0)) ∧ PAt s e1 pl 0 g W ∧ Keeps [g] w W) (HB3.out.lay hgne (Nat.le_refl _) _ _ _ _ _ _ _ _ _) (fun W hW => ?_)
      have cr := cell_blk hW.1
      exact bodyPost_ret (v := (litT (nrV pv)).agg (.slice none 0 0) (.slice none 0 0) (.slice none 0 0)) (by simp [results, Tryz.results181, go_sem, cr]; exact ⟨rfl, rfl, rfl, rfl, rfl, rfl⟩) rfl ⟨rfl, hW.2⟩
  · have hnl : ¬ q + 1 < e1 := fun hc => h1 ⟨by simpa using c48, hc⟩
    have hwq : IntKind.i64.wrap (q + 1) = q + 1 := by rw [IntKind.wrap_i64]; omega
    clear h1
    by_cases ce : e1 < s.size
    · skip
      have hrg := bt_range s e1
      have HG := Lib.hid (fun w => ((show goesB (bt s e1) = false by rw [← goes_bt ce]; exact HGO.out) ▸ egoes_any (bt s e1) w hrg.1 hrg.2 : Calls Tryz.prog 82 #[.int .u8 (bt s e1)] w fun e w' => e = .returned (.bool false) ∧ w = w'))
      go_enter Tryz.func181, Tryz.ntmps181
      go_wp2_with (first
        | (go_at_call 81; refine HE.out.mono ?_; rintro e w' ⟨rfl, rfl⟩)
        | (go_at_call 187; refine HW.out.mono ?_; rintro e w1 ⟨rfl, hb1⟩; have HB1 := Lib.hid (hB.out.go (Keeps.below hb1)); have gc1 := cell_blk HB1.out.1; have gf1 := frozen_blk HB1.out.1; clear hb1)
        | (go_at_call 82; refine (HG.out _).mono ?_; rintro e w' ⟨rfl, rfl⟩))
      refine (vnumber_any _ _).mono ?_
      rintro e w2 ⟨rfl, hk2⟩
      have HB2 := Lib.hid ((HB1.out.at (j := e1) hgne).go hk2)
      clear hk2
      go_wp2_with fail
      refine (eliteral_any _ _ _ _ _ _ _ _ _ _ _).mono ?_
      rintro e w3 ⟨rfl, hk3⟩
      have HB3 := Lib.hid (HB2.out.go hk3)
      have gb3 := cell_blk HB3.out.2.2
      have gbf3 := frozen_blk HB3.out.2.2
      clear hk3
      go_wp2
      refine abs_post (F := fun W => W.heap[w.heap.size]? = some (.cells #[.string litS, .string eS, .int .i64 2, .bool false, .int .i64 pv, .string eS, .slice none 0 0, .slice none 0 0, .slice none 0 0] 52 (0, 0)) ∧ PAt s e1 pl 0 g W ∧ Keeps [g] w W) (HB3.out.lay hgne (Nat.le_refl _) _ _ _ _ _ _ _ _ _) (fun W hW => ?_)
      have cr := cell_blk hW.1
      exact bodyPost_ret (v := (litT (nrV pv)).agg (.slice none 0 0) (.slice none 0 0) (.slice none 0 0)) (by simp [results, Tryz.results181, go_sem, cr]; exact ⟨rfl, rfl, rfl, rfl, rfl, rfl⟩) rfl ⟨rfl, hW.2⟩
    · skip
      go_enter Tryz.func181, Tryz.ntmps181
      go_wp2_with (first
        | (go_at_call 81; refine HE.out.mono ?_; rintro e w' ⟨rfl, rfl⟩)
        | (go_at_call 187; refine HW.out.mono ?_; rintro e w1 ⟨rfl, hb1⟩; have HB1 := Lib.hid (hB.out.go (Keeps.below hb1)); have gc1 := cell_blk HB1.out.1; have gf1 := frozen_blk HB1.out.1; clear hb1))
      refine (vnumber_any _ _).mono ?_
      rintro e w2 ⟨rfl, hk2⟩
      have HB2 := Lib.hid ((HB1.out.at (j := e1) hgne).go hk2)
      clear hk2
      go_wp2_with fail
      refine (eliteral_any _ _ _ _ _ _ _ _ _ _ _).mono ?_
      rintro e w3 ⟨rfl, hk3⟩
      have HB3 := Lib.hid (HB2.out.go hk3)
      have gb3 := cell_blk HB3.out.2.2
      have gbf3 := frozen_blk HB3.out.2.2
      clear hk3
      go_wp2
      refine abs_post (F := fun W => W.heap[w.heap.size]? = some (.cells #[.string litS, .string eS, .int .i64 2, .bool false, .int .i64 pv, .string eS, .slice none 0 0, .slice none 0 0, .slice none 0 0] 52 (0, 0)) ∧ PAt s e1 pl 0 g W ∧ Keeps [g] w W) (HB3.out.lay hgne (Nat.le_refl _) _ _ _ _ _ _ _ _ _) (fun W hW => ?_)
      have cr := cell_blk hW.1
      exact bodyPost_ret (v := (litT (nrV pv)).agg (.slice none 0 0) (.slice none 0 0) (.slice none 0 0)) (by simp [results, Tryz.results181, go_sem, cr]; exact ⟨rfl, rfl, rfl, rfl, rfl, rfl⟩) rfl ⟨rfl, hW.2⟩
set_option maxRecDepth 20000 in
set_option maxHeartbeats 8000000 in
theorem enumber_goes (h : PAt s i pl 0 g w) (hv : VarOk w) (h0 : 0 ≤ q) (hs : s.size ≤ 1000000) (hd : digitAt s q = true)
    (h1 : ¬ (bt s q = 48 ∧ q + 1 < digitsEnd s q)) (h2 : parseCode (cutS s q (digitsEnd s q)) = 0) (h3 : goesAt s (digitsEnd s q) = true) :
    Calls Tryz.prog 181 #[.pointer (some ⟨g, 0, none⟩), .int .i64 q] w fun e w' => e = .returned ((litT (nrV (parseVal (cutS s q (digitsEnd s q))))).agg (.slice none 0 0) (.slice none 0 0) (.slice none 0 0)) ∧ PAt s (digitsEnd s q) (digitsEnd s q) 1 g w' ∧ Keeps [g] w w' := by
  have hglt := hk_lt h
  have hB := Lib.hid (box_new h)
  have hgne : w.heap.size ≠ g := by omega
  obtain ⟨hp1, hp2⟩ := digits_pos h0 hd
  have hE := fun (W : World) (hW : PAt s i pl 0 g W) => eend_any 102 (enters_of Tryz.func102 (by kernel_rfl) rfl) digitB digitAt edigit_any (fun s i h => digit_bt h) (fun s i h => digitAt_lt h) s q i pl 0 g W hW h0 hs
  have HDE : Hid (digitsEnd s q = upTo (digitAt s) s.size q) := Lib.hid rfl
  have HE := Lib.hid (hE _ hB.out.1)
  rw [← HDE.out] at HE
  have hcs : (cutS s q (digitsEnd s q)).size ≤ 1000000 := by rw [ByteArray.size_extract]; omega
  have HW := Lib.hid (wparse_any (cutS s q (digitsEnd s q)) _ hcs (hv.keeps ((Keeps.refl [] w).alloc (.cells zero9 52)) (by simp)))
  have gc := cell_blk hB.out.1
  have hbt := bt_at s q
  have hbq : q < s.size := digitAt_lt hd
  generalize parseVal (cutS s q (digitsEnd s q)) = pv at *
  have hbe := bt_at s (digitsEnd s q)
  have HGO := Lib.hid h3
  have ce := goesAt_lt h3
  rw [h2] at HW
  generalize digitsEnd s q = e1 at *
  clear h hv hE h2 h3 hd hcs
  cases c48 : (bt s q == 48)
  · clear h1
    have hrg := bt_range s e1
    have HG := Lib.hid (fun w => ((show goesB (bt s e1) = true by rw [← goes_bt ce]; exact HGO.out) ▸ egoes_any (bt s e1) w hrg.1 hrg.2 : Calls Tryz.prog 82 #[.int .u8 (bt s e1)] w fun e w' => e = .returned (.bool true) ∧ w = w'))
    go_enter Tryz.func181, Tryz.ntmps181
    go_wp2_with (first
      | (go_at_call 81; refine HE.out.mono ?_; rintro e w' ⟨rfl, rfl⟩)
      | (go_at_call 187; refine HW.out.mono ?_; rintro e w1 ⟨rfl, hb1⟩; have HB1 := Lib.hid (hB.out.go (Keeps.below hb1)); have gc1 := cell_blk HB1.out.1; have gf1 := frozen_blk HB1.out.1; clear hb1)
      | (go_at_call 82; refine (HG.out _).mono ?_; rintro e w' ⟨rfl, rfl⟩))
    refine (fail_yes s i pl e1 1 g _ HB1.out.1).mono ?_
    rintro e w4 ⟨rfl, hp4, hk4⟩
    have HB4 := Lib.hid (HB1.out.to hgne hk4 hp4)
    have gc4 := cell_blk HB4.out.1
    have gf4 := frozen_blk HB4.out.1
    clear hp4 hk4
    go_wp2_with fail
    refine (vnumber_any _ _).mono ?_
    rintro e w2 ⟨rfl, hk2⟩
    have HB2 := Lib.hid ((HB4.out.at (j := e1) hgne).go hk2)
    clear hk2
    go_wp2_with fail
    refine (eliteral_any _ _ _ _ _ _ _ _ _ _ _).mono ?_
    rintro e w3 ⟨rfl, hk3⟩
    have HB3 := Lib.hid (HB2.out.go hk3)
    have gb3 := cell_blk HB3.out.2.2
    have gbf3 := frozen_blk HB3.out.2.2
    clear hk3
    go_wp2
    refine abs_post (F := fun W => W.heap[w.heap.size]? = some (.cells #[.string litS, .string eS, .int .i64 2, .bool false, .int .i64 pv, .string eS, .slice none 0 0, .slice none 0 0, .slice none 0 0] 52 (0, 0)) ∧ PAt s e1 e1 1 g W ∧ Keeps [g] w W) (HB3.out.lay hgne (Nat.le_refl _) _ _ _ _ _ _ _ _ _) (fun W hW => ?_)
    have cr := cell_blk hW.1
    exact bodyPost_ret (v := (litT (nrV pv)).agg (.slice none 0 0) (.slice none 0 0) (.slice none 0 0)) (by simp [results, Tryz.results181, go_sem, cr]; exact ⟨rfl, rfl, rfl, rfl, rfl, rfl⟩) rfl ⟨rfl, hW.2⟩
  · have hnl : ¬ q + 1 < e1 := fun hc => h1 ⟨by simpa using c48, hc⟩
    have hwq : IntKind.i64.wrap (q + 1) = q + 1 := by rw [IntKind.wrap_i64]; omega
    clear h1
    have hrg := bt_range s e1
    have HG := Lib.hid (fun w => ((show goesB (bt s e1) = true by rw [← goes_bt ce]; exact HGO.out) ▸ egoes_any (bt s e1) w hrg.1 hrg.2 : Calls Tryz.prog 82 #[.int .u8 (bt s e1)] w fun e w' => e = .returned (.bool true) ∧ w = w'))
    go_enter Tryz.func181, Tryz.ntmps181
    go_wp2_with (first
      | (go_at_call 81; refine HE.out.mono ?_; rintro e w' ⟨rfl, rfl⟩)
      | (go_at_call 187; refine HW.out.mono ?_; rintro e w1 ⟨rfl, hb1⟩; have HB1 := Lib.hid (hB.out.go (Keeps.below hb1)); have gc1 := cell_blk HB1.out.1; have gf1 := frozen_blk HB1.out.1; clear hb1)
      | (go_at_call 82; refine (HG.out _).mono ?_; rintro e w' ⟨rfl, rfl⟩))
    refine (fail_yes s i pl e1 1 g _ HB1.out.1).mono ?_
    rintro e w4 ⟨rfl, hp4, hk4⟩
    have HB4 := Lib.hid (HB1.out.to hgne hk4 hp4)
    have gc4 := cell_blk HB4.out.1
    have gf4 := frozen_blk HB4.out.1
    clear hp4 hk4
    go_wp2_with fail
    refine (vnumber_any _ _).mono ?_
    rintro e w2 ⟨rfl, hk2⟩
    have HB2 := Lib.hid ((HB4.out.at (j := e1) hgne).go hk2)
    clear hk2
    go_wp2_with fail
    refine (eliteral_any _ _ _ _ _ _ _ _ _ _ _).mono ?_
    rintro e w3 ⟨rfl, hk3⟩
    have HB3 := Lib.hid (HB2.out.go hk3)
    have gb3 := cell_blk HB3.out.2.2
    have gbf3 := frozen_blk HB3.out.2.2
    clear hk3
    go_wp2
    refine abs_post (F := fun W => W.heap[w.heap.size]? = some (.cells #[.string litS, .string eS, .int .i64 2, .bool false, .int .i64 pv, .string eS, .slice none 0 0, .slice none 0 0, .slice none 0 0] 52 (0, 0)) ∧ PAt s e1 e1 1 g W ∧ Keeps [g] w W) (HB3.out.lay hgne (Nat.le_refl _) _ _ _ _ _ _ _ _ _) (fun W hW => ?_)
    have cr := cell_blk hW.1
    exact bodyPost_ret (v := (litT (nrV pv)).agg (.slice none 0 0) (.slice none 0 0) (.slice none 0 0)) (by simp [results, Tryz.results181, go_sem, cr]; exact ⟨rfl, rfl, rfl, rfl, rfl, rfl⟩) rfl ⟨rfl, hW.2⟩
set_option maxRecDepth 20000 in
set_option maxHeartbeats 8000000 in
theorem enumber_code (h : PAt s i pl 0 g w) (hv : VarOk w) (h0 : 0 ≤ q) (hs : s.size ≤ 1000000) (hd : digitAt s q = true)
    (h1 : ¬ (bt s q = 48 ∧ q + 1 < digitsEnd s q)) (h2 : parseCode (cutS s q (digitsEnd s q)) ≠ 0) :
    Calls Tryz.prog 181 #[.pointer (some ⟨g, 0, none⟩), .int .i64 q] w fun e w' => e = .returned ((litT (nrV (parseVal (cutS s q (digitsEnd s q))))).agg (.slice none 0 0) (.slice none 0 0) (.slice none 0 0)) ∧ PAt s (digitsEnd s q) q (parseCode (cutS s q (digitsEnd s q))) g w' ∧ Keeps [g] w w' := by
  have hglt := hk_lt h
  have hB := Lib.hid (box_new h)
  have hgne : w.heap.size ≠ g := by omega
  obtain ⟨hp1, hp2⟩ := digits_pos h0 hd
  have hE := fun (W : World) (hW : PAt s i pl 0 g W) => eend_any 102 (enters_of Tryz.func102 (by kernel_rfl) rfl) digitB digitAt edigit_any (fun s i h => digit_bt h) (fun s i h => digitAt_lt h) s q i pl 0 g W hW h0 hs
  have HDE : Hid (digitsEnd s q = upTo (digitAt s) s.size q) := Lib.hid rfl
  have HE := Lib.hid (hE _ hB.out.1)
  rw [← HDE.out] at HE
  have hcs : (cutS s q (digitsEnd s q)).size ≤ 1000000 := by rw [ByteArray.size_extract]; omega
  have HW := Lib.hid (wparse_any (cutS s q (digitsEnd s q)) _ hcs (hv.keeps ((Keeps.refl [] w).alloc (.cells zero9 52)) (by simp)))
  have gc := cell_blk hB.out.1
  have hbt := bt_at s q
  have hbq : q < s.size := digitAt_lt hd
  generalize parseVal (cutS s q (digitsEnd s q)) = pv at *
  have hbe := bt_at s (digitsEnd s q)
  have hcb : (parseCode (cutS s q (digitsEnd s q)) != 0) = true := by simpa using h2
  generalize parseCode (cutS s q (digitsEnd s q)) = pc at *
  generalize digitsEnd s q = e1 at *
  clear h hv hE h2 hd hcs
  cases c48 : (bt s q == 48)
  · clear h1
    go_enter Tryz.func181, Tryz.ntmps181
    go_wp2_with (first
      | (go_at_call 81; refine HE.out.mono ?_; rintro e w' ⟨rfl, rfl⟩)
      | (go_at_call 187; refine HW.out.mono ?_; rintro e w1 ⟨rfl, hb1⟩; have HB1 := Lib.hid (hB.out.go (Keeps.below hb1)); have gc1 := cell_blk HB1.out.1; have gf1 := frozen_blk HB1.out.1; clear hb1))
    refine (fail_yes s i pl q pc g _ HB1.out.1).mono ?_
    rintro e w4 ⟨rfl, hp4, hk4⟩
    have HB4 := Lib.hid (HB1.out.to hgne hk4 hp4)
    have gc4 := cell_blk HB4.out.1
    have gf4 := frozen_blk HB4.out.1
    clear hp4 hk4
    go_wp2_with fail
    refine (vnumber_any _ _).mono ?_
    rintro e w2 ⟨rfl, hk2⟩
    have HB2 := Lib.hid ((HB4.out.at (j := e1) hgne).go hk2)
    clear hk2
    go_wp2_with fail
    refine (eliteral_any _ _ _ _ _ _ _ _ _ _ _).mono ?_
    rintro e w3 ⟨rfl, hk3⟩
    have HB3 := Lib.hid (HB2.out.go hk3)
    have gb3 := cell_blk HB3.out.2.2
    have gbf3 := frozen_blk HB3.out.2.2
    clear hk3
    go_wp2
    refine abs_post (F := fun W => W.heap[w.heap.size]? = some (.cells #[.string litS, .string eS, .int .i64 2, .bool false, .int .i64 pv, .string eS, .slice none 0 0, .slice none 0 0, .slice none 0 0] 52 (0, 0)) ∧ PAt s e1 q pc g W ∧ Keeps [g] w W) (HB3.out.lay hgne (Nat.le_refl _) _ _ _ _ _ _ _ _ _) (fun W hW => ?_)
    have cr := cell_blk hW.1
    exact bodyPost_ret (v := (litT (nrV pv)).agg (.slice none 0 0) (.slice none 0 0) (.slice none 0 0)) (by simp [results, Tryz.results181, go_sem, cr]; exact ⟨rfl, rfl, rfl, rfl, rfl, rfl⟩) rfl ⟨rfl, hW.2⟩
  · have hnl : ¬ q + 1 < e1 := fun hc => h1 ⟨by simpa using c48, hc⟩
    have hwq : IntKind.i64.wrap (q + 1) = q + 1 := by rw [IntKind.wrap_i64]; omega
    clear h1
    go_enter Tryz.func181, Tryz.ntmps181
    go_wp2_with (first
      | (go_at_call 81; refine HE.out.mono ?_; rintro e w' ⟨rfl, rfl⟩)
      | (go_at_call 187; refine HW.out.mono ?_; rintro e w1 ⟨rfl, hb1⟩; have HB1 := Lib.hid (hB.out.go (Keeps.below hb1)); have gc1 := cell_blk HB1.out.1; have gf1 := frozen_blk HB1.out.1; clear hb1))
    refine (fail_yes s i pl q pc g _ HB1.out.1).mono ?_
    rintro e w4 ⟨rfl, hp4, hk4⟩
    have HB4 := Lib.hid (HB1.out.to hgne hk4 hp4)
    have gc4 := cell_blk HB4.out.1
    have gf4 := frozen_blk HB4.out.1
    clear hp4 hk4
    go_wp2_with fail
    refine (vnumber_any _ _).mono ?_
    rintro e w2 ⟨rfl, hk2⟩
    have HB2 := Lib.hid ((HB4.out.at (j := e1) hgne).go hk2)
    clear hk2
    go_wp2_with fail
    refine (eliteral_any _ _ _ _ _ _ _ _ _ _ _).mono ?_
    rintro e w3 ⟨rfl, hk3⟩
    have HB3 := Lib.hid (HB2.out.go hk3)
    have gb3 := cell_blk HB3.out.2.2
    have gbf3 := frozen_blk HB3.out.2.2
    clear hk3
    go_wp2
    refine abs_post (F := fun W => W.heap[w.heap.size]? = some (.cells #[.string litS, .string eS, .int .i64 2, .bool false, .int .i64 pv, .string eS, .slice none 0 0, .slice none 0 0, .slice none 0 0] 52 (0, 0)) ∧ PAt s e1 q pc g W ∧ Keeps [g] w W) (HB3.out.lay hgne (Nat.le_refl _) _ _ _ _ _ _ _ _ _) (fun W hW => ?_)
    have cr := cell_blk hW.1
    exact bodyPost_ret (v := (litT (nrV pv)).agg (.slice none 0 0) (.slice none 0 0) (.slice none 0 0)) (by simp [results, Tryz.results181, go_sem, cr]; exact ⟨rfl, rfl, rfl, rfl, rfl, rfl⟩) rfl ⟨rfl, hW.2⟩
set_option maxRecDepth 20000 in
set_option maxHeartbeats 8000000 in
theorem enumber_zero (h : PAt s i pl 0 g w) (hv : VarOk w) (h0 : 0 ≤ q) (hs : s.size ≤ 1000000) (hd : digitAt s q = true)
    (h1 : bt s q = 48) (h2 : q + 1 < digitsEnd s q) :
    Calls Tryz.prog 181 #[.pointer (some ⟨g, 0, none⟩), .int .i64 q] w fun e w' => e = .returned ((litT (nrV (parseVal (cutS s q (digitsEnd s q))))).agg (.slice none 0 0) (.slice none 0 0) (.slice none 0 0)) ∧ PAt s (digitsEnd s q) (q + 1) 1 g w' ∧ Keeps [g] w w' := by
  have hglt := hk_lt h
  have hB := Lib.hid (box_new h)
  have hgne : w.heap.size ≠ g := by omega
  obtain ⟨hp1, hp2⟩ := digits_pos h0 hd
  have hE := fun (W : World) (hW : PAt s i pl 0 g W) => eend_any 102 (enters_of Tryz.func102 (by kernel_rfl) rfl) digitB digitAt edigit_any (fun s i h => digit_bt h) (fun s i h => digitAt_lt h) s q i pl 0 g W hW h0 hs
  have HDE : Hid (digitsEnd s q = upTo (digitAt s) s.size q) := Lib.hid rfl
  have HE := Lib.hid (hE _ hB.out.1)
  rw [← HDE.out] at HE
  have hcs : (cutS s q (digitsEnd s q)).size ≤ 1000000 := by rw [ByteArray.size_extract]; omega
  have HW := Lib.hid (wparse_any (cutS s q (digitsEnd s q)) _ hcs (hv.keeps ((Keeps.refl [] w).alloc (.cells zero9 52)) (by simp)))
  have gc := cell_blk hB.out.1
  have hbt := bt_at s q
  have hbq : q < s.size := digitAt_lt hd
  generalize parseVal (cutS s q (digitsEnd s q)) = pv at *
  have hbe := bt_at s (digitsEnd s q)
  have c48 : (bt s q == 48) = true := by simpa using h1
  have hwq : IntKind.i64.wrap (q + 1) = q + 1 := by rw [IntKind.wrap_i64]; omega
  generalize parseCode (cutS s q (digitsEnd s q)) = pc at *
  generalize digitsEnd s q = e1 at *
  clear h hv hE h1 hd hcs
  go_enter Tryz.func181, Tryz.ntmps181
  go_wp2_with (first
    | (go_at_call 81; refine HE.out.mono ?_; rintro e w' ⟨rfl, rfl⟩)
    | (go_at_call 187; refine HW.out.mono ?_; rintro e w1 ⟨rfl, hb1⟩; have HB1 := Lib.hid (hB.out.go (Keeps.below hb1)); have gc1 := cell_blk HB1.out.1; have gf1 := frozen_blk HB1.out.1; clear hb1))
  refine (fail_yes s i pl (q + 1) 1 g _ HB1.out.1).mono ?_
  rintro e w4 ⟨rfl, hp4, hk4⟩
  have HB4 := Lib.hid (HB1.out.to hgne hk4 hp4)
  have gc4 := cell_blk HB4.out.1
  have gf4 := frozen_blk HB4.out.1
  clear hp4 hk4
  go_wp2_with fail
  refine (vnumber_any _ _).mono ?_
  rintro e w2 ⟨rfl, hk2⟩
  have HB2 := Lib.hid ((HB4.out.at (j := e1) hgne).go hk2)
  clear hk2
  go_wp2_with fail
  refine (eliteral_any _ _ _ _ _ _ _ _ _ _ _).mono ?_
  rintro e w3 ⟨rfl, hk3⟩
  have HB3 := Lib.hid (HB2.out.go hk3)
  have gb3 := cell_blk HB3.out.2.2
  have gbf3 := frozen_blk HB3.out.2.2
  clear hk3
  go_wp2
  refine abs_post (F := fun W => W.heap[w.heap.size]? = some (.cells #[.string litS, .string eS, .int .i64 2, .bool false, .int .i64 pv, .string eS, .slice none 0 0, .slice none 0 0, .slice none 0 0] 52 (0, 0)) ∧ PAt s e1 (q + 1) 1 g W ∧ Keeps [g] w W) (HB3.out.lay hgne (Nat.le_refl _) _ _ _ _ _ _ _ _ _) (fun W hW => ?_)
  have cr := cell_blk hW.1
  exact bodyPost_ret (v := (litT (nrV pv)).agg (.slice none 0 0) (.slice none 0 0) (.slice none 0 0)) (by simp [results, Tryz.results181, go_sem, cr]; exact ⟨rfl, rfl, rfl, rfl, rfl, rfl⟩) rfl ⟨rfl, hW.2⟩
end NUM
end Go.Proofs.YtdlkdecigpaaaaaGreatDoor
namespace Go.Proofs.YtdlkdecigpaaaaaGreatDoor
set_option linter.unusedVariables false
set_option linter.unusedSimpArgs false
open Go.RowKit

section
variable (s : ByteArray) (i pl q : Int) (g : Nat) (w : World)
theorem psays_ok {T : XT} {p : Int} {e : Ending} {w' : World} {vi vk va : Value} (he : e = .returned (T.agg vi vk va)) (hr : T.Rep w' (w.heap.size ≤ ·) vi vk va) (hp : PAt s p pl 0 g w') (hk : Keeps [g] w w') : PSays s (.ok T p) pl g w e w' :=
  ⟨T, vi, vk, va, he, hr, hk, rfl, hp⟩
theorem psays_err {T : XT} {a p c : Int} {e : Ending} {w' : World} {vi vk va : Value} (he : e = .returned (T.agg vi vk va)) (hr : T.Rep w' (w.heap.size ≤ ·) vi vk va) (h0 : 0 ≤ a) (h1 : a ≤ s.size) (hp : PAt s a p c g w') (hk : Keeps [g] w w') : PSays s (.err p c) pl g w e w' :=
  ⟨T, vi, vk, va, he, hr, hk, (show ∃ a : Int, 0 ≤ a ∧ a ≤ s.size ∧ PAt s a p c g w' from ⟨a, h0, h1, hp⟩)⟩
theorem enumber_any (h : PAt s i pl 0 g w) (hv : VarOk w) (h0 : 0 ≤ q) (hs : s.size ≤ 1000000) (hd : digitAt s q = true) :
    Calls Tryz.prog 181 #[.pointer (some ⟨g, 0, none⟩), .int .i64 q] w (PSays s (numR s q) pl g w) := by
  obtain ⟨hp1, hp2⟩ := digits_pos h0 hd
  unfold numR
  by_cases h1 : bt s q = 48 ∧ q + 1 < digitsEnd s q
  · rw [if_pos h1]
    exact (enumber_zero s i pl q g w h hv h0 hs hd h1.1 h1.2).mono fun e w' hx => psays_err s pl g w hx.1 (leaf_xrep _ _ _ _ _ _ _ _) (by omega) hp2 hx.2.1 hx.2.2
  · rw [if_neg h1]
    by_cases h2 : parseCode (cutS s q (digitsEnd s q)) ≠ 0
    · rw [if_pos h2]
      exact (enumber_code s i pl q g w h hv h0 hs hd h1 h2).mono fun e w' hx => psays_err s pl g w hx.1 (leaf_xrep _ _ _ _ _ _ _ _) (by omega) hp2 hx.2.1 hx.2.2
    · rw [if_neg h2]
      have h2 : parseCode (cutS s q (digitsEnd s q)) = 0 := Decidable.not_not.1 h2
      cases h3 : goesAt s (digitsEnd s q)
      · rw [if_neg (by simp)]
        exact (enumber_ok s i pl q g w h hv h0 hs hd h1 h2 h3).mono fun e w' hx => psays_ok s pl g w hx.1 (leaf_xrep _ _ _ _ _ _ _ _) hx.2.1 hx.2.2
      · rw [if_pos rfl]
        exact (enumber_goes s i pl q g w h hv h0 hs hd h1 h2 h3).mono fun e w' hx => psays_err s pl g w hx.1 (leaf_xrep _ _ _ _ _ _ _ _) (by omega) hp2 hx.2.1 hx.2.2
end
end Go.Proofs.YtdlkdecigpaaaaaGreatDoor
