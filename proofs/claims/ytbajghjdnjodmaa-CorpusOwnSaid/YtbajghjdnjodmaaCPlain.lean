/- Rows of entries: who is in them behind a Put or a Drop; they stay good ones. No program in sight. -/
import Derived.Test.YtbajghjdnjodmaaCMap
namespace Go.Proofs.Ytbajghjdnjodmaa
set_option linter.unusedVariables false
set_option linter.unusedSimpArgs false
open Go.RowKit

theorem findF_mem {nm : ByteArray} {l : List ET} : (findF nm l 0).isSome = true ↔ ∃ e ∈ l, e.nm = nm := by
  constructor
  · intro h
    obtain ⟨k, hk⟩ := Option.isSome_iff_exists.1 h
    obtain ⟨j, e, _, h2, h3, _⟩ := findF_at hk
    exact ⟨e, List.mem_of_getElem? h2, h3⟩
  · rintro ⟨e, he, hn⟩
    cases hf : findF nm l 0 with
    | some k => rfl
    | none => exact absurd hn (findF_none hf e he)
theorem apart_split {l : List ET} (h : Rising l) {k : Nat} {d : ET} (hk : l[k]? = some d) : l = l.take k ++ d :: l.drop (k + 1) ∧ (∀ x ∈ l.take k, x.nm ≠ d.nm) ∧ ∀ x ∈ l.drop (k + 1), x.nm ≠ d.nm := by
  have hl := (List.getElem?_eq_some_iff.1 hk).1
  have e1 : l = l.take k ++ d :: l.drop (k + 1) := by
    have : l[k] = d := by rw [List.getElem?_eq_getElem hl] at hk; exact Option.some.inj hk
    rw [← this, ← List.drop_eq_getElem_cons hl, List.take_append_drop]
  have hp := rising_ne h
  rw [e1] at hp
  obtain ⟨_, h2, h3⟩ := List.pairwise_append.1 hp
  refine ⟨e1, fun x hx => h3 x hx d (.head _), fun x hx => ?_⟩
  exact ((List.pairwise_cons.1 h2).1 x hx).symm
theorem drop_mem {l : List ET} (h : Rising l) {nm : ByteArray} {x : ET} : x ∈ dropL l nm ↔ x ∈ l ∧ x.nm ≠ nm := by
  unfold dropL
  cases hf : findF nm l 0 with
  | none => exact ⟨fun hx => ⟨hx, findF_none hf x hx⟩, fun hx => hx.1⟩
  | some k =>
    obtain ⟨j, d, hj, hd, hn, _⟩ := findF_at hf
    obtain rfl : j = k := by omega
    obtain ⟨e1, h1, h2⟩ := apart_split h hd
    simp only [List.mem_append]
    constructor
    · rintro (hx | hx)
      · exact ⟨List.mem_of_mem_take hx, hn ▸ h1 x hx⟩
      · exact ⟨List.mem_of_mem_drop hx, hn ▸ h2 x hx⟩
    · rintro ⟨hx, hne⟩
      rw [e1, List.mem_append, List.mem_cons] at hx
      rcases hx with hx | rfl | hx
      · exact .inl hx
      · exact absurd hn hne
      · exact .inr hx
theorem drop_sub (l : List ET) (nm : ByteArray) : (dropL l nm).Sublist l := by
  unfold dropL
  cases hf : findF nm l 0 with
  | none => exact List.Sublist.refl _
  | some k =>
    have : (l.take k ++ l.drop (k + 1)).Sublist (l.take k ++ l.drop k) := List.Sublist.append (List.Sublist.refl _) (List.drop_sublist_drop_left l (Nat.le_succ k))
    rwa [List.take_append_drop] at this
theorem drop_len {l : List ET} {nm : ByteArray} : (dropL l nm).length + (if (findF nm l 0).isSome then 1 else 0) = l.length := by
  unfold dropL
  cases hf : findF nm l 0 with
  | none => simp
  | some k =>
    obtain ⟨j, d, hj, hd, _, _⟩ := findF_at hf
    have := (List.getElem?_eq_some_iff.1 hd).1
    simp only [List.length_append, List.length_take, List.length_drop, Option.isSome_some, if_true]
    omega
theorem drop_ok24 {l : List ET} (h : DocOk l) (nm : ByteArray) : DocOk (dropL l nm) :=
  ⟨h.rise.sublist (drop_sub l nm), fun e he => h.names e ((drop_sub l nm).subset he), fun e he => h.ok e ((drop_sub l nm).subset he), Nat.le_trans (drop_sub l nm).length_le h.len⟩
/-- Does a Put put something in? -/
def Goes (l : List ET) (e : ET) : Prop := isNameB e.nm = true ∧ ((findF e.nm l 0).isSome = true ∨ l.length ≠ 64)
theorem put_mem {l : List ET} (h : Rising l) {e : ET} (hg : Goes l e) {x : ET} : x ∈ putL l e ↔ x = e ∨ (x ∈ l ∧ x.nm ≠ e.nm) := by
  unfold putL
  rw [if_pos hg.1]
  cases hf : findF e.nm l 0 with
  | some k =>
    obtain ⟨j, d, hj, hd, hn, _⟩ := findF_at hf
    obtain rfl : j = k := by omega
    have hlt := (List.getElem?_eq_some_iff.1 hd).1
    obtain ⟨e1, h1, h2⟩ := apart_split h hd
    simp only
    rw [List.set_eq_take_append_cons_drop, if_pos hlt, List.mem_append, List.mem_cons]
    constructor
    · rintro (hx | rfl | hx)
      · exact .inr ⟨List.mem_of_mem_take hx, hn ▸ h1 x hx⟩
      · exact .inl rfl
      · exact .inr ⟨List.mem_of_mem_drop hx, hn ▸ h2 x hx⟩
    · rintro (rfl | ⟨hx, hne⟩)
      · exact .inr (.inl rfl)
      · rw [e1, List.mem_append, List.mem_cons] at hx
        rcases hx with hx | rfl | hx
        · exact .inl hx
        · exact absurd hn hne
        · exact .inr (.inr hx)
  | none =>
    have h64 : l.length ≠ 64 := by
      rcases hg.2 with h' | h'
      · rw [hf] at h'; cases h'
      · exact h'
    simp only
    rw [if_neg h64]
    unfold insF
    rw [List.mem_append, List.mem_cons]
    constructor
    · rintro (hx | rfl | hx)
      · have := List.mem_of_mem_take hx; exact .inr ⟨this, findF_none hf x this⟩
      · exact .inl rfl
      · have := List.mem_of_mem_drop hx; exact .inr ⟨this, findF_none hf x this⟩
    · rintro (rfl | ⟨hx, _⟩)
      · exact .inr (.inl rfl)
      · rw [← List.take_append_drop (posF e.nm l) l, List.mem_append] at hx
        rcases hx with hx | hx
        · exact .inl hx
        · exact .inr (.inr hx)
theorem put_len {l : List ET} {e : ET} (hg : Goes l e) : (putL l e).length = if (findF e.nm l 0).isSome then l.length else l.length + 1 := by
  unfold putL
  rw [if_pos hg.1]
  cases hf : findF e.nm l 0 with
  | some k => simp
  | none =>
    have h64 : l.length ≠ 64 := by
      rcases hg.2 with h' | h'
      · rw [hf] at h'; cases h'
      · exact h'
    simp only
    rw [if_neg h64]
    unfold insF
    have := posF_le e.nm l
    simp only [List.length_append, List.length_cons, List.length_take, List.length_drop, Option.isSome_none, Bool.false_eq_true, if_false]
    omega
theorem put_not {l : List ET} {e : ET} (hg : ¬ Goes l e) : putL l e = l := by
  unfold putL
  by_cases hn : isNameB e.nm = true
  · rw [if_pos hn]
    cases hf : findF e.nm l 0 with
    | some k => exact absurd ⟨hn, .inl (by rw [hf]; rfl)⟩ hg
    | none =>
      simp only
      split
      · rfl
      · rename_i h6; exact absurd ⟨hn, .inr h6⟩ hg
  · rw [if_neg hn]
theorem set_rising {l : List ET} (h : Rising l) {k : Nat} {d e : ET} (hd : l[k]? = some d) (hn : d.nm = e.nm) : Rising (l.set k e) := by
  have hlt := (List.getElem?_eq_some_iff.1 hd).1
  obtain ⟨e1, _, _⟩ := apart_split h hd
  rw [List.set_eq_take_append_cons_drop, if_pos hlt]
  unfold Rising at h ⊢
  rw [e1] at h
  obtain ⟨h1, h2, h3⟩ := List.pairwise_append.1 h
  obtain ⟨h4, h5⟩ := List.pairwise_cons.1 h2
  refine List.pairwise_append.2 ⟨h1, List.pairwise_cons.2 ⟨fun a ha => by rw [← hn]; exact h4 a ha, h5⟩, fun a ha b hb => ?_⟩
  cases hb with
  | head => rw [← hn]; exact h3 a ha d (.head _)
  | tail _ hb => exact h3 a ha b (.tail _ hb)
theorem put_ok24 {l : List ET} (h : DocOk l) {e : ET} (hs : e.nm.size ≤ maxLen) (ho : e.ok) : DocOk (putL l e) := by
  by_cases hg : Goes l e
  · refine ⟨?_, fun x hx => ?_, fun x hx => ?_, ?_⟩
    · unfold putL
      rw [if_pos hg.1]
      cases hf : findF e.nm l 0 with
      | some k =>
        obtain ⟨j, d, hj, hd, hn, _⟩ := findF_at hf
        obtain rfl : j = k := by omega
        exact set_rising h.rise hd hn
      | none =>
        simp only
        split
        · exact h.rise
        · exact ins_rising h.rise hf
    · rcases (put_mem h.rise hg).1 hx with rfl | ⟨hx, _⟩
      · exact ⟨hg.1, hs⟩
      · exact h.names x hx
    · rcases (put_mem h.rise hg).1 hx with rfl | ⟨hx, _⟩
      · exact ho
      · exact h.ok x hx
    · rw [put_len hg]
      have := h.len
      rcases hg.2 with h' | h'
      · rw [if_pos h']; exact this
      · split <;> omega
  · rw [put_not hg]; exact h
end Go.Proofs.Ytbajghjdnjodmaa
