/- The document's Put, whatever is put in. -/
import Derived.Test.YtbajghjdnjodmaaDocIns
import Derived.Sort.Walk0
namespace Go.Proofs.Ytbajghjdnjodmaa
set_option linter.unusedVariables false
set_option linter.unusedSimpArgs false
open Go.RowKit

theorem put24_any (l : List ET) (lv : Value) (e : ET) (S S' : Nat → Prop) (vi vk vd : Value) (w : World) (h : Doc w S lv l) (hc : e.Cells w S' vi vk vd) (hs : e.nm.size ≤ 9223372036854775807) (hl : l.length ≤ 64) :
    Calls Try.prog 42 #[lv, e.agg vi vk vd] w fun r w' => ∃ lv', r = .returned (.tuple #[lv', .int .i64 (putK l e)]) ∧ Doc w' (fun x => S x ∨ S' x ∨ w.heap.size ≤ x) lv' (putL l e) ∧ Below w.heap.size w w' := by
  cases hn : isNameB e.nm with
  | false => exact put24_form l lv e S S' vi vk vd w h hc hs hn
  | true =>
    cases hf : findF e.nm l 0 with
    | some k => exact put24_old l lv e S S' vi vk vd w h hc hs hn hf hl
    | none =>
      rcases Nat.lt_or_ge l.length 64 with h6 | h6
      · exact put24_new l lv e S S' vi vk vd w h hc hs hn hf h6
      · exact put24_full l lv e S S' vi vk vd w h hc hs hn hf (by omega)
/-- The names rise, and are names; they are few. -/
structure DocOk (l : List ET) : Prop where
  rise : Rising l
  names : ∀ e ∈ l, isNameB e.nm = true ∧ e.nm.size ≤ maxLen
  ok : ∀ e ∈ l, e.ok
  len : l.length ≤ 64
theorem bless_trans {a b c : List UInt8} (h : Op.bytesLess a b = true) (k : Op.bytesLess b c = true) : Op.bytesLess a c = true := by
  rw [bytesLess_eq, decide_eq_true_eq] at *; exact List.lt_trans h k
theorem bless_irrefl (a : List UInt8) : Op.bytesLess a a = false := by
  rw [bytesLess_eq, decide_eq_false_iff_not]; exact List.lt_irrefl a
theorem bless_total {a b : List UInt8} (h : Op.bytesLess a b = false) (hne : a ≠ b) : Op.bytesLess b a = true := by
  rw [bytesLess_eq, decide_eq_false_iff_not] at h
  rw [bytesLess_eq, decide_eq_true_eq]
  rcases List.le_iff_lt_or_eq.1 (List.not_lt.1 h) with k | k
  · exact k
  · exact absurd k.symm hne
theorem posF_spec (nm : ByteArray) : ∀ l : List ET, Rising l → (∀ e ∈ l.take (posF nm l), Op.bytesLess e.nm.toList nm.toList = true) ∧ (∀ e ∈ l.drop (posF nm l), Op.bytesLess e.nm.toList nm.toList = false)
  | [], _ => ⟨by simp, by simp⟩
  | a :: l, h => by
    obtain ⟨h1, h2⟩ := List.pairwise_cons.1 h
    obtain ⟨k1, k2⟩ := posF_spec nm l h2
    unfold posF
    split
    · rename_i ha
      exact ⟨fun e he => by
        rw [List.take_succ_cons] at he
        cases he with
        | head => exact ha
        | tail _ he => exact k1 e he, fun e he => by rw [List.drop_succ_cons] at he; exact k2 e he⟩
    · rename_i ha
      refine ⟨by simp, fun e he => ?_⟩
      rw [List.drop_zero] at he
      cases hb : Op.bytesLess e.nm.toList nm.toList with
      | false => rfl
      | true =>
        cases he with
        | head => exact absurd hb ha
        | tail _ he => exact absurd (bless_trans (h1 e he) hb) ha
theorem rising_ne {l : List ET} (h : Rising l) : l.Pairwise fun a b => a.nm ≠ b.nm :=
  h.imp fun {a b} hab e => by rw [e, bless_irrefl] at hab; cases hab
theorem ins_rising {l : List ET} {e : ET} (h : Rising l) (hf : findF e.nm l 0 = none) : Rising (insF l e) := by
  obtain ⟨k1, k2⟩ := posF_spec e.nm l h
  unfold insF Rising
  rw [List.pairwise_append]
  have hsp : Rising (l.take (posF e.nm l) ++ l.drop (posF e.nm l)) := by rw [List.take_append_drop]; exact h
  obtain ⟨p1, p2, p3⟩ := List.pairwise_append.1 hsp
  have hlt : ∀ b ∈ l.drop (posF e.nm l), Op.bytesLess e.nm.toList b.nm.toList = true := fun b hb =>
    bless_total (k2 b hb) (fun he => findF_none hf b (List.mem_of_mem_drop hb) (bytes_ext he))
  refine ⟨p1, List.pairwise_cons.2 ⟨hlt, p2⟩, fun a ha b hb => ?_⟩
  cases hb with
  | head => exact k1 a ha
  | tail _ hb => exact p3 a ha b hb
end Go.Proofs.Ytbajghjdnjodmaa
