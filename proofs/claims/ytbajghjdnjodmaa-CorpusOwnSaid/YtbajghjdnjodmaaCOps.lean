/- The corpus's map under a lookup, a store, a delete, len. -/
import Derived.Test.YtbajghjdnjodmaaCPlain
namespace Go.Proofs.Ytbajghjdnjodmaa
set_option linter.unusedVariables false
set_option linter.unusedSimpArgs false
open Go.RowKit

theorem ownsMap_tight {w : World} {m n : Nat} {D : DataW Value} (h : w.ownsMap Try.prog 9 entR m n D) (k : Maps.size D ≤ 64) : w.ownsMap Try.prog 9 entR m 64 D := by
  obtain ⟨es, c, h1, h2, h3, h4⟩ := h
  refine ⟨es, c, h1, h2, ?_, h4⟩
  rw [h4] at k
  simpa [Maps.size, length_sorted] using k
theorem put_le {l : List ET} (h : DocOk l) {e : ET} (hg : Goes l e) : (putL l e).length ≤ 64 := by
  rw [put_len hg]
  have := h.len
  rcases hg.2 with h' | h'
  · rw [if_pos h']; exact this
  · split <;> omega
section
variable {w : World} {S : Nat → Prop} {m : Nat} {l : List ET} {nm : ByteArray}
theorem syn_look (h : Syn w S m l) (hs : nm.size ≤ maxLen) : ∃ v : EV, (Instr.lookup 67 (.map (some m)) (.string nm) true).run Try.prog w = .ok (.tuple #[v.val, .bool (findF nm l 0).isSome]) w ∧
    (Instr.lookup 67 (.map (some m)) (.string nm) false).run Try.prog w = .ok v.val w ∧ ∀ e ∈ l, e.nm = nm → ∃ vi vk vd, v.val = e.ent vi vk vd ∧ e.Cells w S vi vk vd := by
  obtain ⟨D, h1, h2, h3, h4⟩ := h
  have hz : entR (EV.mk 0 false 0 ⟨#[]⟩ none 0 0 none 0 0 false ⟨#[]⟩ none 0 0).val = some (.held (EV.mk 0 false 0 ⟨#[]⟩ none 0 0 none 0 0 false ⟨#[]⟩ none 0 0).val, []) := rfl
  obtain ⟨v, ps, hr, hv⟩ := h1.look_ok law_s Try.underlying67 (Try.zeroValue33 w) hz (key_s hs)
  obtain ⟨v2, ps2, hr2, hv2⟩ := h1.lookup law_s Try.underlying67 (Try.zeroValue33 w) hz (key_s hs)
  obtain ⟨e1, rfl, he1⟩ := entR_inv hv
  obtain ⟨e2, rfl, he2⟩ := entR_inv hv2
  have e12 : e1.val = e2.val := by
    have i1 := congrArg Prod.fst he1
    have i2 := congrArg Prod.fst he2
    simp only at i1 i2
    exact DataW.held.inj (i1.symm.trans i2)
  rw [h3 nm] at hr
  refine ⟨e1, hr, by rw [e12]; exact hr2, fun e he hn => ?_⟩
  obtain ⟨vi, vk, vd, h5, h6⟩ := h4 e he
  refine ⟨vi, vk, vd, ?_, h6⟩
  have := congrArg Prod.fst he1
  simp only at this
  rw [← hn, h5] at this
  exact (DataW.held.inj this).symm
theorem syn_len (h : Syn w S m l) (ty : TypeId) : (Builtin.len_ #[67] ty #[.map (some m)]).run Try.prog w = .ok (.int .i64 l.length) w := by
  obtain ⟨D, h1, h2, _⟩ := h
  rw [h1.len Try.underlying67 ty, h2]
theorem syn_put (h : Syn w S m l) (hl : DocOk l) {e : ET} (hs : e.nm.size ≤ maxLen) (hg : Goes l e) {vi vk vd : Value} (hc : e.Cells w S vi vk vd) :
    ∃ w', (Instr.mapUpdate 67 (.map (some m)) (.string e.nm) (e.ent vi vk vd)).run Try.prog w = .ok () w' ∧ Syn w' S m (putL l e) ∧ w.grownBy w' (some m) := by
  obtain ⟨es0, c0, hm⟩ := h.isMap
  obtain ⟨D, h1, h2, h3, h4⟩ := h
  obtain ⟨ev, hev⟩ := ent_val hc
  obtain ⟨w', hr, ho, hg'⟩ := h1.update law_s Try.underlying67 (by unfold maxLen; omega) (key_s hs) (entR_mk ev)
  rw [← hev] at hr ho
  have hT := h1.tidy law_s
  have hk : WideAt.IsKeyLit (kl e.nm) := trivial
  have hsz : Maps.size (D.put (kl e.nm) (.held (e.ent vi vk vd))) = (putL l e).length := by
    rw [Maps.size_put hT, h3, h2, put_len hg]
  refine ⟨w', hr, ⟨_, ownsMap_tight ho (by rw [hsz]; exact put_le hl hg), hsz, fun nm => ?_, fun x hx => ?_⟩, hg'⟩
  · rw [Bool.eq_iff_iff, findF_mem]
    by_cases hn : nm = e.nm
    · subst hn
      rw [Maps.has_put_same hT.isMap hk]
      exact ⟨fun _ => ⟨e, (put_mem hl.rise hg).2 (.inl rfl), rfl⟩, fun _ => rfl⟩
    · rw [Maps.has_put_other (kl_ne hn), h3, findF_mem]
      constructor
      · rintro ⟨x, hx, rfl⟩
        exact ⟨x, (put_mem hl.rise hg).2 (.inr ⟨hx, hn⟩), rfl⟩
      · rintro ⟨x, hx, rfl⟩
        rcases (put_mem hl.rise hg).1 hx with rfl | ⟨hx, _⟩
        · exact absurd rfl hn
        · exact ⟨x, hx, rfl⟩
  · have kc : Kc S w w' := kc_map hg' hm
    rcases (put_mem hl.rise hg).1 hx with rfl | ⟨hx, hn⟩
    · exact ⟨vi, vk, vd, fun zd => Maps.atKey_put_same hT.isMap hk _ _, hc.keep kc⟩
    · obtain ⟨xi, xk, xd, h5, h6⟩ := h4 x hx
      exact ⟨xi, xk, xd, fun zd => by rw [Maps.atKey_put_other (kl_ne hn)]; exact h5 zd, h6.keep kc⟩
theorem syn_drop (h : Syn w S m l) (hl : DocOk l) (hs : nm.size ≤ maxLen) (ty : TypeId) :
    ∃ w', (Builtin.delete_ #[67, 9] ty #[.map (some m), .string nm]).run Try.prog w = .ok (.tuple #[]) w' ∧ Syn w' S m (dropL l nm) ∧ w.grownBy w' (some m) := by
  obtain ⟨es0, c0, hm⟩ := h.isMap
  obtain ⟨D, h1, h2, h3, h4⟩ := h
  obtain ⟨w', hr, ho, ht⟩ := h1.drop law_s Try.underlying67 (key_s hs) ty
  have hT := h1.tidy law_s
  have hg' := ht.grown
  have hsz : Maps.size (D.del (kl nm)) = (dropL l nm).length := by
    have a := Maps.size_del (k := kl nm) hT
    have b := drop_len (l := l) (nm := nm)
    rw [h3, h2] at a
    omega
  refine ⟨w', hr, ⟨_, ownsMap_tight ho (by rw [hsz]; exact (drop_ok24 hl nm).len), hsz, fun x => ?_, fun x hx => ?_⟩, hg'⟩
  · rw [Bool.eq_iff_iff, findF_mem]
    by_cases hn : x = nm
    · subst hn
      rw [Maps.has_del_same]
      constructor
      · intro h; cases h
      · rintro ⟨y, hy, rfl⟩; exact absurd rfl ((drop_mem hl.rise).1 hy).2
    · rw [Maps.has_del_other (kl_ne hn), h3, findF_mem]
      constructor
      · rintro ⟨y, hy, rfl⟩; exact ⟨y, (drop_mem hl.rise).2 ⟨hy, hn⟩, rfl⟩
      · rintro ⟨y, hy, rfl⟩; exact ⟨y, ((drop_mem hl.rise).1 hy).1, rfl⟩
  · have kc : Kc S w w' := kc_map hg' hm
    obtain ⟨hx1, hn⟩ := (drop_mem hl.rise).1 hx
    obtain ⟨xi, xk, xd, h5, h6⟩ := h4 x hx1
    exact ⟨xi, xk, xd, fun zd => by rw [Maps.atKey_del_other (kl_ne hn)]; exact h5 zd, h6.keep kc⟩
end
end Go.Proofs.Ytbajghjdnjodmaa
