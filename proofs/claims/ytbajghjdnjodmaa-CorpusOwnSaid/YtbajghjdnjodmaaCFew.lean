/- The law's few: acts that aren't many, nor long. -/
import Derived.Test.YtbajghjdnjodmaaCorpRep
namespace Go.Proofs.Ytbajghjdnjodmaa
set_option linter.unusedVariables false
set_option linter.unusedSimpArgs false
open Go.RowKit

def okA (a : AT) : Bool := decide (a.nm.size ≤ 40 ∧ a.dr.length ≤ 40)
def fewB (l : List AT) : Bool := l.all okA && decide (l.length ≤ 25)
/-- A slice of acts. -/
def Acts (w : World) (S : Nat → Prop) (v : Value) (l : List AT) : Prop := l.length ≤ maxLen ∧ ∃ cs, Sl w S 5 v l.length cs ∧ Rows (AT.Five w S) l cs
theorem Acts.keep {w w' : World} {S : Nat → Prop} {v : Value} {l : List AT} (h : Acts w S v l) (k : Kc S w w') : Acts w' S v l := by
  obtain ⟨h0, cs, h1, h2⟩ := h; exact ⟨h0, cs, h1.keep k, h2.mono fun _ _ h => h.keep k⟩
theorem few_mem {l : List AT} (h : fewB l = true) : l.length ≤ 25 ∧ ∀ a ∈ l, a.nm.size ≤ 40 ∧ a.dr.length ≤ 40 := by
  simp only [fewB, Bool.and_eq_true, decide_eq_true_eq, List.all_eq_true] at h
  exact ⟨h.2, fun a ha => by simpa [okA] using h.1 a ha⟩
theorem few_not {l : List AT} {i : Nat} {a : AT} (h : l[i]? = some a) (k : okA a = false) : fewB l = false := by
  cases hf : fewB l with
  | false => rfl
  | true =>
    simp only [fewB, Bool.and_eq_true, List.all_eq_true] at hf
    rw [hf.1 a (List.mem_of_getElem? h)] at k; cases k
theorem few_all {l : List AT} (h : ∀ a ∈ l, okA a = true) : fewB l = decide (l.length ≤ 25) := by
  unfold fewB; rw [List.all_eq_true.2 h]; simp
/-- The acts' cells. -/
theorem act_cells {w : World} {S : Nat → Prop} {l : List AT} {cs : List Value} {g o : Nat} (hr : Rows (AT.Five w S) l cs) (hc : ∀ j u, cs[j]? = some u → w.cell? ⟨g, o + j, none⟩ = some u) {i : Nat} (hi : i < l.length) :
    ∃ vn vd, l[i].Cells w S vn vd ∧ w.cell? ⟨g, o + i * 5, none⟩ = some (.int .u8 l[i].k) ∧ w.cell? ⟨g, o + i * 5 + 1, none⟩ = some (.string l[i].nm) ∧ w.cell? ⟨g, o + i * 5 + 2, none⟩ = some vn ∧ w.cell? ⟨g, o + i * 5 + 3, none⟩ = some (.bool l[i].has) ∧ w.cell? ⟨g, o + i * 5 + 4, none⟩ = some vd := by
  obtain ⟨x, ⟨vn, vd, rfl, h2⟩, h3⟩ := hr.at act_len hi
  refine ⟨vn, vd, h2, hc _ _ (h3 0 (by omega)), ?_, ?_, ?_, ?_⟩
  · rw [Nat.add_assoc]; exact hc _ _ (h3 1 (by omega))
  · rw [Nat.add_assoc]; exact hc _ _ (h3 2 (by omega))
  · rw [Nat.add_assoc]; exact hc _ _ (h3 3 (by omega))
  · rw [Nat.add_assoc]; exact hc _ _ (h3 4 (by omega))
theorem act_shape {w : World} {S : Nat → Prop} {a : AT} {vn vd : Value} (h : a.Cells w S vn vd) : ∃ a1 c1 a2 c2, vn = .slice a1 a.nodes.length c1 ∧ vd = .slice a2 a.dr.length c2 := by
  obtain ⟨_, ⟨cs, h1, _⟩, h2⟩ := h
  obtain ⟨a1, c1, e1, _⟩ := h1.shape
  obtain ⟨a2, c2, e2, _⟩ := h2.shape
  exact ⟨a1, c1, a2, c2, e1, e2⟩
set_option maxRecDepth 20000 in
set_option maxHeartbeats 1000000 in
theorem few_any (l : List AT) (lv : Value) (S : Nat → Prop) (w : World) (h : Acts w S lv l) : Calls Try.prog 16 #[lv] w fun r w' => r = .returned (.bool (fewB l)) ∧ Below w.heap.size w w' := by
  obtain ⟨hm, cs, hs, hr⟩ := h
  obtain ⟨av, cv, rfl, hcv, _⟩ := hs.shape
  have hmx : l.length ≤ 9223372036854775807 := hm
  have HS := Lib.hid hs
  have HR := Lib.hid hr
  clear hs hr hm
  go_enter Try.func16, Try.ntmps16
  go_wp2
  go_loopw [7] (fun v W => ∃ k : Nat, k ≤ l.length ∧ v = .int .i64 k ∧ Hid (Below w.heap.size w W) ∧ Hid (∀ a ∈ l.take k, okA a = true)) (fun v _ => l.length - (intOf v).toNat)
  case atStart => exact ⟨0, Nat.zero_le _, rfl, Lib.hid (Below.refl _ _), Lib.hid (fun a ha => by simp at ha)⟩
  case round =>
    obtain ⟨k, hk, rfl, HB, HN⟩ := hrel
    by_cases hlt : k < l.length
    · obtain ⟨g', o', c', hv, _, _, _, hcells⟩ := (HS.out.keep (kc_below HB.out)).at (by omega)
      cases hv
      obtain ⟨vn, vd, hc, d0, d1, d2, d3, d4⟩ := act_cells (HR.out.mono fun _ _ h => h.keep (kc_below HB.out)) hcells hlt
      obtain ⟨a1, c1, a2, c2, rfl, rfl⟩ := act_shape hc
      have z1 : l[k].nm.size ≤ 9223372036854775807 := hc.1.2.1
      have z2 : l[k].dr.length ≤ 9223372036854775807 := hc.1.2.2.2
      have HT : Hid (okA l[k] = true → ∀ a ∈ l.take (k + 1), okA a = true) := Lib.hid fun ht a ha => by
        rw [List.take_succ_eq_append_getElem hlt, List.mem_append, List.mem_singleton] at ha
        rcases ha with ha | rfl
        · exact HN.out a ha
        · exact ht
      have HF : Hid (okA l[k] = false → fewB l = false) := Lib.hid fun hf => few_not (List.getElem?_eq_getElem hlt) hf
      clear hc hcells HN
      by_cases h1 : l[k].nm.size ≤ 40
      · have b1 : decide ((40 : Int) < (l[k].nm.size : Int)) = false := decide_eq_false (by omega)
        by_cases h2 : l[k].dr.length ≤ 40
        · have b2 : decide ((40 : Int) < (l[k].dr.length : Int)) = false := decide_eq_false (by omega)
          have HT2 := Lib.hid (HT.out (by simp [okA, h1, h2]))
          clear HT HF
          go_wp2
          go_roundw
          case rel => exact ⟨k + 1, by omega, by go_num, Lib.hid (by ((repeat (first | with_reducible exact HB.out | with_reducible exact Below.refl _ _ | with_reducible refine bl_drew ?_ | with_reducible refine bl_alloc ?_ _ | with_reducible refine bl_set ?_ (by dsimp only; omega) _)); done)), HT2⟩
          case measure => simp [intOf]; omega
        · have b2 : decide ((40 : Int) < (l[k].dr.length : Int)) = true := decide_eq_true (by omega)
          have HF2 := Lib.hid (HF.out (by simp [okA, h2]))
          clear HT HF
          go_wp2
          go_ret
          exact ⟨ret_bool HF2.out.symm, by ((repeat (first | with_reducible exact HB.out | with_reducible exact Below.refl _ _ | with_reducible refine bl_drew ?_ | with_reducible refine bl_alloc ?_ _ | with_reducible refine bl_set ?_ (by dsimp only; omega) _)); done)⟩
      · have b1 : decide ((40 : Int) < (l[k].nm.size : Int)) = true := decide_eq_true (by omega)
        have HF2 := Lib.hid (HF.out (by simp [okA, h1]))
        clear HT HF
        go_wp2
        go_ret
        exact ⟨ret_bool HF2.out.symm, by ((repeat (first | with_reducible exact HB.out | with_reducible exact Below.refl _ _ | with_reducible refine bl_drew ?_ | with_reducible refine bl_alloc ?_ _ | with_reducible refine bl_set ?_ (by dsimp only; omega) _)); done)⟩
    · obtain rfl : k = l.length := by omega
      have HE : Hid (fewB l = decide (l.length ≤ 25)) := Lib.hid (few_all (by simpa using HN.out))
      obtain ⟨b, hb⟩ : ∃ b, decide ((l.length : Int) ≤ 25) = b := ⟨_, rfl⟩
      have HB2 : Hid (b = decide (l.length ≤ 25)) := Lib.hid (by rw [← hb]; exact decide_eq_decide.2 (by omega))
      clear HN
      go_wp2
      go_ret
      exact ⟨ret_bool (HB2.out.trans HE.out.symm), by ((repeat (first | with_reducible exact HB.out | with_reducible exact Below.refl _ _ | with_reducible refine bl_drew ?_ | with_reducible refine bl_alloc ?_ _ | with_reducible refine bl_set ?_ (by dsimp only; omega) _)); done)⟩
end Go.Proofs.Ytbajghjdnjodmaa
