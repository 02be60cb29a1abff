/- Put together: The parser answers as the grammar says: all levels, by one induction; How deep trees are; what is parsed is no deeper than its text is long; What trees come out of a text; A text's expressions, reckoned: for texts that are known; The walks of the depths; The walk of Parse. -/
import Derived.Test.YtdlkdecigpaaaaaGreatDoorMp29
namespace Go.Proofs.YtdlkdecigpaaaaaGreatDoor
set_option linter.unusedVariables false
set_option linter.unusedSimpArgs false
open Go.RowKit

theorem not_marks {s : ByteArray} {i : Int} {r : Res} (h : Par s (.lev 2) i r) (h0 : 0 ≤ i) : ∃ k e0 r0, Marks s notS k i e0 ∧ Par s (.lev 3) e0 r0 ∧ r = upN notS k r0 := by
  generalize hG : G.lev 2 = G' at h
  induction h with
  | not_on hw _ ih =>
    have hp := (pmark_word (s := s) (t := notS) (by decide +kernel) (by decide) h0).1 hw
    have hpos := pmark_pos hp.1 (by decide)
    obtain ⟨k, e0, r0, h1, h2, h3⟩ := ih (by rw [← hp.2]; omega) rfl
    exact ⟨k + 1, e0, r0, ⟨hp.1, by rw [hp.2]; exact h1⟩, h2, by rw [h3]; rfl⟩
  | not_no hw h _ => exact ⟨0, _, _, ⟨rfl, (pmark_word (s := s) (t := notS) (by decide +kernel) (by decide) h0).2 hw⟩, h, rfl⟩
  | lev_err hn => cases hG; unfold lv at hn; omega
  | lev_ok hn => cases hG; unfold lv at hn; omega
  | _ => cases hG
theorem neg_marks {s : ByteArray} {i : Int} {r : Res} (h : Par s (.lev 6) i r) (h0 : 0 ≤ i) : ∃ k e0 r0, Marks s ⟨#[45]⟩ k i e0 ∧ Par s .part e0 r0 ∧ r = upN negS k r0 := by
  generalize hG : G.lev 6 = G' at h
  induction h with
  | neg_on hm _ ih =>
    obtain ⟨k, e0, r0, h1, h2, h3⟩ := ih (by omega) rfl
    have hp : ∀ j, pmark s j ⟨#[45]⟩ = markAt s j ⟨#[45]⟩ := fun j => pmark_nl (by decide +kernel)
    exact ⟨k + 1, e0, r0, ⟨by rw [hp]; exact hm, by rw [hp]; exact h1⟩, h2, by rw [h3]; rfl⟩
  | neg_no hm h _ =>
    have hp : ∀ j, pmark s j ⟨#[45]⟩ = markAt s j ⟨#[45]⟩ := fun j => pmark_nl (by decide +kernel)
    exact ⟨0, _, _, ⟨rfl, by rw [hp]; exact hm⟩, h, rfl⟩
  | lev_err hn => cases hG; unfold lv at hn; omega
  | lev_ok hn => cases hG; unfold lv at hn; omega
  | _ => cases hG
/-- The function that reads what is looked for. -/
def kf : G → Option Nat
  | .lev 0 => some 45
  | .lev 1 => some 74
  | .lev 2 => some 94
  | .lev 3 => some 133
  | .lev 4 => some 153
  | .lev 5 => some 162
  | .lev 6 => some 170
  | .part => some 175
  | .one => some 178
  | _ => none
theorem wordR_err {s : ByteArray} {i : Int} (h : wordAt s i = eS ∨ wordAt s i = orS ∨ wordAt s i = andS ∨ wordAt s i = notS) : wordR s i = .err (blanks s i) 1 := by
  unfold wordR
  rcases h with h | h | h | h <;> rw [h] <;> rfl
theorem wordR_var {s : ByteArray} {i : Int} (hne : wordAt s i ≠ eS) (hr : memL (wordAt s i) resL = false) : wordR s i = .ok (.mk varS (wordAt s i) VT.zero []) (wordAtEnd s i) := by
  have hz := res_ne hr
  unfold wordR
  rw [if_neg hz.2.2.2.1, if_neg hz.2.2.2.2.1, if_neg hz.2.2.2.2.2.1, if_neg hz.2.2.2.2.2.2, if_neg (by rintro (h | h); exact hne h; rw [hr] at h; cases h)]
theorem mem_res {t : ByteArray} (h : memL t resL = true) : t = orS ∨ t = andS ∨ t = notS ∨ t = trueS ∨ t = falseS ∨ t = nullS ∨ t = thisS := by
  rw [memL_iff] at h; simpa [resL] using h
theorem eparse_all (s : ByteArray) (pl : Int) (g : Nat) (hs : s.size ≤ 4000) (hg2 : 5 < g) : ∀ (k : Nat) (G' : G) (i : Int) (r : Res) (W : World), meas s G' i ≤ k → 0 ≤ i → i ≤ s.size → Par s G' i r → PAt s i pl 0 g W → VarOk W →
    ∀ K, kf G' = some K → Calls Tryz.prog K #[.pointer (some ⟨g, 0, none⟩)] W (PSays s r pl g W) := by
  intro k
  induction k using Nat.strongRecOn with
  | _ k ih =>
    intro G' i r W hk h0 h1 hr hp hv K hK
    have hs2 : s.size ≤ 1000000 := by omega
    have step : ∀ (G2 : G) (i2 : Int) (r2 : Res) (W2 : World) (K2 : Nat), meas s G2 i2 < meas s G' i → 0 ≤ i2 → i2 ≤ s.size → Par s G2 i2 r2 → PAt s i2 pl 0 g W2 → Keeps [g] W W2 → kf G2 = some K2 → Calls Tryz.prog K2 #[.pointer (some ⟨g, 0, none⟩)] W2 (PSays s r2 pl g W2) :=
      fun G2 i2 r2 W2 K2 hm h2 h3 h4 h5 h6 h7 => ih (meas s G2 i2) (by omega) G2 i2 r2 W2 (Nat.le_refl _) h2 h3 h4 h5 (hv.keeps h6 (by simpa using hg2)) K2 h7
    have far : ∀ (i2 : Int) (r2 : Res) (W2 : World), i < i2 → i2 ≤ s.size → Par s (.lev 0) i2 r2 → PAt s i2 pl 0 g W2 → Keeps [g] W W2 → Calls Tryz.prog 45 #[.pointer (some ⟨g, 0, none⟩)] W2 (PSays s r2 pl g W2) :=
      fun i2 r2 W2 hm h3 h4 h5 h6 => step (.lev 0) i2 r2 W2 _ (by unfold meas; simp only [rank]; cases G' <;> simp [rank] <;> omega) (by omega) h3 h4 h5 h6 rfl
    match G', hK with
    | .lev 0, hK =>
      cases hK
      exact eor_of s i pl g W r hp fun W1 vL p1 k1 l1 => echain_of s i pl g 0 2048 W1 r _ vL _ (enters_of Tryz.func74 (by kernel_rfl) rfl) (.inl rfl) (.inr ⟨by decide, by decide⟩) (by decide) p1 h0 h1 hs hr l1 (fun k hk => by have := hk_lt hp; omega)
        fun i' r' W2 h2 h3 h4 h5 h6 => step (.lev 1) i' r' W2 _ (by unfold meas; simp only [rank]; omega) (by omega) h3 h4 h5 (k1.trans h6) rfl
    | .lev 1, hK =>
      cases hK
      exact eand_of s i pl g W r hp fun W1 vL p1 k1 l1 => echain_of s i pl g 1 2048 W1 r _ vL _ (enters_of Tryz.func94 (by kernel_rfl) rfl) (.inr (.inl rfl)) (.inr ⟨by decide, by decide⟩) (by decide) p1 h0 h1 hs hr l1 (fun k hk => by have := hk_lt hp; omega)
        fun i' r' W2 h2 h3 h4 h5 h6 => step (.lev 2) i' r' W2 _ (by unfold meas; simp only [rank]; omega) (by omega) h3 h4 h5 (k1.trans h6) rfl
    | .lev 2, hK =>
      cases hK
      obtain ⟨m, e0, r0, hm, hr0, rfl⟩ := not_marks hr h0
      have hme := marks_pos (by decide) m hm h1
      exact enot_of s i pl g W _ hp (esigned_of s notS notS i pl e0 g m _ r0 _ (enters_of Tryz.func133 (by kernel_rfl) rfl) (pat_alloc hp _) h0 h1 hs (by decide) (by decide) hm
        fun W2 h5 h6 => step (.lev 3) e0 r0 W2 _ (by unfold meas; simp only [rank]; omega) (by omega) hme.2 hr0 h5 (((Keeps.refl [g] W).alloc _).trans h6) rfl)
    | .lev 3, hK =>
      cases hK
      exact erel_of s i pl g W r hp fun W1 vL p1 k1 l1 => echain_of s i pl g 3 1 W1 r _ vL _ (enters_of Tryz.func153 (by kernel_rfl) rfl) (.inr (.inr (.inl rfl))) (.inl ⟨rfl, rfl⟩) (by decide) p1 h0 h1 hs hr l1 (fun k hk => by have := hk_lt hp; omega)
        fun i' r' W2 h2 h3 h4 h5 h6 => step (.lev 4) i' r' W2 _ (by unfold meas; simp only [rank]; omega) (by omega) h3 h4 h5 (k1.trans h6) rfl
    | .lev 4, hK =>
      cases hK
      exact esum_of s i pl g W r hp fun W1 vL p1 k1 l1 => echain_of s i pl g 4 16384 W1 r _ vL _ (enters_of Tryz.func162 (by kernel_rfl) rfl) (.inr (.inr (.inr (.inl rfl)))) (.inr ⟨by decide, by decide⟩) (by decide) p1 h0 h1 hs hr l1 (fun k hk => by have := hk_lt hp; omega)
        fun i' r' W2 h2 h3 h4 h5 h6 => step (.lev 5) i' r' W2 _ (by unfold meas; simp only [rank]; omega) (by omega) h3 h4 h5 (k1.trans h6) rfl
    | .lev 5, hK =>
      cases hK
      exact eprod_of s i pl g W r hp fun W1 vL p1 k1 l1 => echain_of s i pl g 5 16384 W1 r _ vL _ (enters_of Tryz.func170 (by kernel_rfl) rfl) (.inr (.inr (.inr (.inr rfl)))) (.inr ⟨by decide, by decide⟩) (by decide) p1 h0 h1 hs hr l1 (fun k hk => by have := hk_lt hp; omega)
        fun i' r' W2 h2 h3 h4 h5 h6 => step (.lev 6) i' r' W2 _ (by unfold meas; simp only [rank]; omega) (by omega) h3 h4 h5 (k1.trans h6) rfl
    | .lev 6, hK =>
      cases hK
      obtain ⟨m, e0, r0, hm, hr0, rfl⟩ := neg_marks hr h0
      have hme := marks_pos (by decide) m hm h1
      exact esign_of s i pl g W _ hp (esigned_of s ⟨#[45]⟩ negS i pl e0 g m _ r0 _ (enters_of Tryz.func175 (by kernel_rfl) rfl) (pat_alloc hp _) h0 h1 hs (by decide) (by decide) hm
        fun W2 h5 h6 => step .part e0 r0 W2 _ (by unfold meas; simp only [rank]; omega) (by omega) hme.2 hr0 h5 (((Keeps.refl [g] W).alloc _).trans h6) rfl)
    | .part, hK =>
      cases hK
      exact epart_of s i pl g W r hp hv hg2 h0 h1 hs2 hr (fun r' W2 h4 h5 h6 => step .one i r' W2 _ (by unfold meas; simp only [rank]; omega) h0 h1 h4 h5 h6 rfl) far
    | .one, hK =>
      cases hK
      cases hr with
      | one_num hd => exact eone_num s i pl g W hp hv h0 h1 hs2 hd
      | one_text hq => exact eone_text s i pl g W hp hv hg2 h0 h1 hs2 hq
      | one_err hm hx => exact eone_in s i pl g W _ _ hp h0 h1 hs2 hm hx (fun p c e => (by cases e; exact ⟨rfl, par_code hx⟩)) (fun U p e => (by cases e)) far
      | one_form hm hx hk => exact eone_in s i pl g W _ _ hp h0 h1 hs2 hm hx (fun p c e => (by cases e)) (fun U p e => (by cases e; exact .inl ⟨hk, rfl⟩)) far
      | one_in hm hx hk => exact eone_in s i pl g W _ _ hp h0 h1 hs2 hm hx (fun p c e => (by cases e)) (fun U p e => (by cases e; exact .inr ⟨hk, rfl⟩)) far
      | one_word hd hq hm ha =>
        by_cases hw : wordAt s i = eS ∨ wordAt s i = orS ∨ wordAt s i = andS ∨ wordAt s i = notS
        · rw [wordR_err hw]; exact eone_fail s i pl g W hp h0 h1 hs2 hd hq hm hw
        · cases hb : memL (wordAt s i) resL with
          | false => rw [wordR_var (fun h => hw (.inl h)) hb]; exact eone_var s i pl g W hp h0 h1 hs2 (fun h => hw (.inl h)) ha hb
          | true =>
            rcases mem_res hb with h | h | h | h | h | h | h
            · exact absurd (.inr (.inl h)) hw
            · exact absurd (.inr (.inr (.inl h))) hw
            · exact absurd (.inr (.inr (.inr h))) hw
            · have e : wordR s i = .ok (litT (boolV true)) (wordAtEnd s i) := by unfold wordR; rw [h]; rfl
              rw [e]; exact eone_true s i pl g W hp h0 h1 hs2 h
            · have e : wordR s i = .ok (litT (boolV false)) (wordAtEnd s i) := by unfold wordR; rw [h]; rfl
              rw [e]; exact eone_false s i pl g W hp h0 h1 hs2 h
            · have e : wordR s i = .ok (litT VT.zero) (wordAtEnd s i) := by unfold wordR; rw [h]; rfl
              rw [e]; exact eone_null s i pl g W hp h0 h1 hs2 h
            · have e : wordR s i = .ok (.mk thisS eS VT.zero []) (wordAtEnd s i) := by unfold wordR; rw [h]; rfl
              rw [e]; exact eone_this s i pl g W hp h0 h1 hs2 h
      | one_open ha hm =>
        have hwp := word_pos h0 (argsN_ne ha).1
        exact eone_call s i pl g W hp h0 h1 hs2 _ ha fun W2 h5 h6 => ecall_of s (wordAtEnd s i) pl g W2 _ _ ha h5 (by omega) hwp.2 hs2 (.inl ⟨hm, rfl⟩) fun i' r' W3 h7 h8 h9 h10 h11 => far i' r' W3 (by omega) h8 h9 h10 (h6.trans h11)
      | one_call ha hm hx =>
        have hwp := word_pos h0 (argsN_ne ha).1
        exact eone_call s i pl g W hp h0 h1 hs2 _ ha fun W2 h5 h6 => ecall_of s (wordAtEnd s i) pl g W2 _ _ ha h5 (by omega) hwp.2 hs2 (.inr ⟨hm, hx⟩) fun i' r' W3 h7 h8 h9 h10 h11 => far i' r' W3 (by omega) h8 h9 h10 (h6.trans h11)
end Go.Proofs.YtdlkdecigpaaaaaGreatDoor
namespace Go.Proofs.YtdlkdecigpaaaaaGreatDoor
set_option linter.unusedVariables false
set_option linter.unusedSimpArgs false
open Go.RowKit

mutual
def XT.depth : XT → Nat
  | .mk _ _ _ l => XT.deepL l + 1
def XT.deepL : List XT → Nat
  | [] => 0
  | T :: l => max T.depth (XT.deepL l)
end
theorem depth_mk (o n : ByteArray) (v : VT) (l : List XT) : (XT.mk o n v l).depth = XT.deepL l + 1 := by rw [XT.depth]
theorem depth_args (T : XT) : T.depth = XT.deepL T.args + 1 := by cases T; exact depth_mk _ _ _ _
theorem deepL_nil : XT.deepL [] = 0 := by rw [XT.deepL]
theorem deepL_cons (T : XT) (l : List XT) : XT.deepL (T :: l) = max T.depth (XT.deepL l) := by rw [XT.deepL]
theorem deepL_snoc (l : List XT) (T : XT) : XT.deepL (l ++ [T]) = max (XT.deepL l) T.depth := by
  induction l with
  | nil => rw [List.nil_append, deepL_cons, deepL_nil]; omega
  | cons a l ih => rw [List.cons_append, deepL_cons, deepL_cons, ih]; omega
theorem deepL_mem {l : List XT} {T : XT} (h : T ∈ l) : T.depth ≤ XT.deepL l := by
  induction l with
  | nil => simp at h
  | cons a l ih =>
    rw [deepL_cons]
    rcases List.mem_cons.1 h with rfl | h
    · omega
    · have := ih h; omega
theorem depth_pos (T : XT) : 1 ≤ T.depth := by rw [depth_args]; omega
theorem depth_bin (op : ByteArray) (T U : XT) : (binT op T U).depth = max T.depth U.depth + 1 := by unfold binT; rw [depth_mk, deepL_cons, deepL_cons, deepL_nil]; omega
theorem depth_one (op nm : ByteArray) (v : VT) (T : XT) : (XT.mk op nm v [T]).depth = T.depth + 1 := by rw [depth_mk, deepL_cons, deepL_nil]; omega
theorem depth_leaf (op nm : ByteArray) (v : VT) : (XT.mk op nm v []).depth = 1 := by rw [depth_mk, deepL_nil]
/-- How deep an answer may be. -/
def DeepOk (g : G) (i : Int) : Res → Prop
  | .err _ _ => True
  | .ok T p => match g with
    | .more _ T0 => (T.depth : Int) ≤ T0.depth + (p - i)
    | .parts T0 => (T.depth : Int) ≤ T0.depth + (p - i)
    | .call _ l => (T.depth : Int) ≤ max (XT.deepL l : Int) (p - i) + 1
    | _ => (T.depth : Int) ≤ p - i
theorem numR_leaf {s : ByteArray} {q : Int} {T : XT} {p : Int} (h : numR s q = .ok T p) : T.depth = 1 := by
  unfold numR at h
  split at h
  · cases h
  · split at h
    · cases h
    · split at h
      · cases h
      · cases h; exact depth_leaf _ _ _
theorem textR_leaf {s : ByteArray} {q : Int} {T : XT} {p : Int} (h : textR s q = .ok T p) : T.depth = 1 := by
  unfold textR at h
  split at h
  · cases h; exact depth_leaf _ _ _
  · cases h
theorem wordR_leaf {s : ByteArray} {q : Int} {T : XT} {p : Int} (h : wordR s q = .ok T p) : T.depth = 1 := by
  unfold wordR at h
  split at h
  · cases h; exact depth_leaf _ _ _
  · split at h
    · cases h; exact depth_leaf _ _ _
    · split at h
      · cases h; exact depth_leaf _ _ _
      · split at h
        · cases h; exact depth_leaf _ _ _
        · split at h
          · cases h
          · cases h; exact depth_leaf _ _ _
theorem one_leaf {s : ByteArray} {i : Int} {r : Res} (h : PosOk s .one i r) (hl : ∀ T p, r = .ok T p → T.depth = 1) (h0 : 0 ≤ i) (h1 : i ≤ s.size) : DeepOk .one i r := by
  cases r with
  | err p c => trivial
  | ok T p => have h2 := h h0 h1; have h3 : i < p := h2.2; show (T.depth : Int) ≤ p - i; rw [hl T p rfl]; omega
theorem deep_case {g g' : G} {i e : Int} {r : Res} (h : DeepOk g' e r) (k : ∀ T p, DeepOk g' e (.ok T p) → DeepOk g i (.ok T p)) : DeepOk g i r := by
  cases r with
  | err => trivial
  | ok T p => exact k T p h
theorem deep_par {s : ByteArray} {g g' : G} {i e : Int} {r : Res} (hp : PosOk s g' e r) (h : DeepOk g' e r) (k : ∀ T p, PosOk s g' e (.ok T p) → DeepOk g' e (.ok T p) → DeepOk g i (.ok T p)) : DeepOk g i r := by
  cases r with
  | err => trivial
  | ok T p => exact k T p hp h
theorem deep_up {g : G} {n : Nat} {i e : Int} {r : Res} {op : ByteArray} (h : DeepOk (.lev n) e r) (hi : i < e) : DeepOk (.lev n) i (r.up op) := by
  cases r with
  | err => trivial
  | ok T p => simp only [DeepOk, Res.up, unT] at *; rw [depth_one]; omega
theorem par_deep {s : ByteArray} {g : G} {i : Int} {r : Res} (h : Par s g i r) : 0 ≤ i → i ≤ s.size → DeepOk g i r := by
  induction h with
  | lev_err => intro _ _; trivial
  | lev_ok _ h k ih1 ih2 =>
    intro h0 h1
    have hp := par_pos h h0 h1
    have h3 := ih1 h0 h1
    have hp2 : _ < _ := hp.2
    have h4 := ih2 (by have := hp.1.1; omega) hp.1.2
    exact deep_case h4 fun T p h5 => by simp only [DeepOk] at *; omega
  | not_on hw h ih =>
    intro h0 h1
    have hp := word_pos h0 (by rw [hw]; decide)
    exact deep_up (g := .one) (ih (by omega) hp.2) hp.1
  | not_no _ _ ih => intro h0 h1; exact deep_case (ih h0 h1) fun T p h => h
  | neg_on hm h ih =>
    intro h0 h1
    have hp := mark_pos hm (by decide)
    exact deep_up (g := .one) (ih (by omega) hp.2) hp.1
  | neg_no _ _ ih => intro h0 h1; exact deep_case (ih h0 h1) fun T p h => h
  | more_end => intro _ _; simp only [DeepOk]; omega
  | more_err => intro _ _; trivial
  | more_one hb h ih =>
    intro h0 h1
    have hp := betw_pos h0 hb
    have h3 := ih (by omega) hp.2
    have hq := par_pos h (by omega) hp.2
    have hq2 : _ < _ := hq.2
    simp only [DeepOk] at *; rw [depth_bin]; omega
  | more_on _ hb h _ ih1 ih2 =>
    intro h0 h1
    have hp := betw_pos h0 hb
    have h3 := ih1 (by omega) hp.2
    have hq := par_pos h (by omega) hp.2
    have hq2 : _ < _ := hq.2
    have h4 := ih2 (by omega) hq.1.2
    exact deep_case h4 fun T p h5 => by simp only [DeepOk] at *; rw [depth_bin] at h5; omega
  | part_err => intro _ _; trivial
  | part_ok h k ih1 ih2 =>
    intro h0 h1
    have hp := par_pos h h0 h1
    have h3 := ih1 h0 h1
    have h4 := ih2 (by have := hp.1.1; omega) hp.1.2
    exact deep_case h4 fun T p h5 => by simp only [DeepOk] at *; omega
  | parts_end => intro _ _; simp only [DeepOk]; omega
  | get_word hm hw _ ih =>
    intro h0 h1
    have h2 := mark_pos hm (by decide)
    have h3 := word_pos (by omega) hw
    have h4 := ih (by omega) h3.2
    exact deep_case h4 fun T p h5 => by simp only [DeepOk] at *; rw [depth_one] at h5; omega
  | get_form => intro _ _; trivial
  | get_err => intro _ _; trivial
  | get_text hm _ hq _ hc _ ih =>
    intro h0 h1
    have h2 := mark_pos hm (by decide)
    rename_i T i q r _ _ _
    have h3 := blanks_ge s (markAt s i ⟨#[46]⟩)
    rw [← hq] at h3
    have h4 := str_pos (by omega) hc
    have h5 := ih (by omega) h4.2
    exact deep_case h5 fun T p h6 => by simp only [DeepOk] at *; rw [depth_one] at h6; omega
  | at_err => intro _ _; trivial
  | at_form => intro _ _; trivial
  | at_on _ hm h hk _ ih1 ih2 =>
    intro h0 h1
    have h2 := mark_pos hm (by decide)
    have h3 := ih1 (by omega) h2.2
    have hp := par_pos h (by omega) h2.2
    have hp2 : _ < _ := hp.2
    have h4 := mark_pos hk (by decide)
    have h5 := ih2 (by omega) h4.2
    exact deep_case h5 fun T p h6 => by simp only [DeepOk] at *; rw [depth_bin] at h6; omega
  | one_num hd => exact one_leaf (numR_pos hd) fun T p e => numR_leaf e
  | one_text _ => exact one_leaf textR_pos fun T p e => textR_leaf e
  | one_err => intro _ _; trivial
  | one_form => intro _ _; trivial
  | one_in hm h hk ih =>
    intro h0 h1
    have h2 := mark_pos hm (by decide)
    have h3 := ih (by omega) h2.2
    have h4 := mark_pos hk (by decide)
    simp only [DeepOk] at *; omega
  | one_word _ _ _ _ => exact one_leaf wordR_pos fun T p e => wordR_leaf e
  | one_open => intro _ _; trivial
  | one_call ha hm h ih =>
    intro h0 h1
    have h2 := word_pos h0 (argsN_ne ha).1
    have h3 := mark_pos hm (by decide)
    exact deep_par (par_pos h) (ih (by omega) h3.2) fun T p hp h4 => by
      have hp1 := (hp (by omega) h3.2).1.1
      simp only [DeepOk, deepL_nil] at *
      omega
  | call_err => intro _ _; trivial
  | call_few => intro _ _; trivial
  | call_end h hm _ ih =>
    intro h0 h1
    have h3 := ih h0 h1
    have h4 := mark_pos hm (by decide)
    simp only [DeepOk] at *; rw [depth_mk, deepL_snoc]; omega
  | call_form => intro _ _; trivial
  | call_many => intro _ _; trivial
  | call_on h _ hm _ hr ih1 ih2 =>
    intro h0 h1
    have h3 := ih1 h0 h1
    have hp := par_pos h h0 h1
    have hp2 : _ < _ := hp.2
    have h4 := mark_pos hm (by decide)
    have h5 := ih2 (by omega) h4.2
    exact deep_par (par_pos hr) h5 fun T p hq h6 => by
      have hq1 := (hq (by omega) h4.2).1.1
      simp only [DeepOk, deepL_snoc] at *; omega
end Go.Proofs.YtdlkdecigpaaaaaGreatDoor
namespace Go.Proofs.YtdlkdecigpaaaaaGreatDoor
set_option linter.unusedVariables false
set_option linter.unusedSimpArgs false
open Go.RowKit

/-- A literal's value. -/
def litOk (v : VT) : Prop := v = VT.zero ∨ (∃ b, v = boolV b) ∨ (∃ n : Int, -9223372036854775808 ≤ n ∧ n ≤ 9223372036854775807 ∧ v = nrV n) ∨ ∃ t, v = textV t
def binL : List ByteArray := [orS, andS, ⟨#[61, 61]⟩, ⟨#[33, 61]⟩, ⟨#[60, 61]⟩, ⟨#[62, 61]⟩, ⟨#[60]⟩, ⟨#[62]⟩, ⟨#[43]⟩, ⟨#[45]⟩, ⟨#[42]⟩, ⟨#[47]⟩, ⟨#[37]⟩]
inductive XGood : XT → Prop
  | lit {v} : litOk v → XGood (litT v)
  | this : XGood (.mk thisS eS VT.zero [])
  | var {nm} : nm ≠ eS → memL nm resL = false → argsN nm = 0 → XGood (.mk varS nm VT.zero [])
  | get {nm T} : XGood T → XGood (getT nm T)
  | at_ {T U} : XGood T → XGood U → XGood (binT atS T U)
  | un {op T} : op = notS ∨ op = negS → XGood T → XGood (unT op T)
  | bin {op T U} : op ∈ binL → XGood T → XGood U → XGood (binT op T U)
  | call {w l} : 0 < argsN w → l.length = argsN w → (∀ T ∈ l, XGood T) → XGood (.mk w eS VT.zero l)
theorem XGood.len {T : XT} (h : XGood T) : T.args.length ≤ 2 := by
  cases h with
  | call _ h _ => exact h ▸ argsN_le _
  | _ => simp [XT.args, litT, getT, binT, unT]
theorem XGood.arg {T : XT} (h : XGood T) : ∀ U ∈ T.args, XGood U := by
  cases h with
  | get h => intro U hU; simp [XT.args, getT] at hU; rw [hU]; exact h
  | un _ h => intro U hU; simp [XT.args, unT] at hU; rw [hU]; exact h
  | at_ h k => intro U hU; simp [XT.args, binT] at hU; rcases hU with rfl | rfl <;> assumption
  | bin _ h k => intro U hU; simp [XT.args, binT] at hU; rcases hU with rfl | rfl <;> assumption
  | call _ _ h => exact h
  | _ => intro U hU; simp [XT.args, litT] at hU
theorem XGood.litE {T : XT} (h : XGood T) : T.lit = VT.zero ∨ ∃ v, litOk v ∧ T = litT v := by
  cases h with
  | lit h => exact .inr ⟨_, h, rfl⟩
  | _ => exact .inl rfl
theorem litOk.its {v : VT} (h : litOk v) : v.its = [] ∧ v.ks = [] := by
  rcases h with rfl | ⟨b, rfl⟩ | ⟨n, _, _, rfl⟩ | ⟨t, rfl⟩ <;> exact ⟨rfl, rfl⟩
theorem XGood.its {T : XT} (h : XGood T) : T.lit.its = [] ∧ T.lit.ks = [] := by
  rcases h.litE with h | ⟨v, hv, rfl⟩
  · rw [h]; exact ⟨rfl, rfl⟩
  · exact hv.its
/-- What an answer's tree is, where what it goes on from is one. -/
def GoodR (g : G) : Res → Prop
  | .err _ _ => True
  | .ok T _ => match g with
    | .more _ T0 => XGood T0 → XGood T
    | .parts T0 => XGood T0 → XGood T
    | .call w l => 0 < argsN w → l.length < argsN w → (∀ U ∈ l, XGood U) → XGood T
    | _ => XGood T
theorem good_case {g g' : G} {r : Res} (h : GoodR g' r) (k : ∀ T p, GoodR g' (.ok T p) → GoodR g (.ok T p)) : GoodR g r := by
  cases r with
  | err => trivial
  | ok T p => exact k T p h
theorem betw_mem {s : ByteArray} {i : Int} {n : Nat} {op : ByteArray} {e : Int} (hn : lv n) (h0 : 0 ≤ i) (h : betw s i n = some (op, e)) : op ∈ binL := by
  obtain ⟨q, hq, h1, _⟩ := betw_some hn h0 h
  rw [← h1]
  have hm := List.getElem_mem hq
  have k0 : ∀ t ∈ signsL 0, memL t binL = true := by decide +kernel
  have k1 : ∀ t ∈ signsL 1, memL t binL = true := by decide +kernel
  have k3 : ∀ t ∈ signsL 3, memL t binL = true := by decide +kernel
  have k4 : ∀ t ∈ signsL 4, memL t binL = true := by decide +kernel
  have k5 : ∀ t ∈ signsL 5, memL t binL = true := by decide +kernel
  rcases hn with rfl | rfl | rfl | rfl | rfl
  · exact memL_iff.1 (k0 _ hm)
  · exact memL_iff.1 (k1 _ hm)
  · exact memL_iff.1 (k3 _ hm)
  · exact memL_iff.1 (k4 _ hm)
  · exact memL_iff.1 (k5 _ hm)
theorem parse_range (s : ByteArray) : -9223372036854775808 ≤ parseVal s ∧ parseVal s ≤ 9223372036854775807 := by
  unfold parseVal fitsF
  split
  · rename_i h; simp only [Bool.and_eq_true] at h; have := h.2; unfold fitsB at this; simp at this; omega
  · omega
theorem numR_good {s : ByteArray} {q : Int} {g : G} (hg : g = .one) : GoodR g (numR s q) := by
  subst hg
  unfold numR
  split
  · trivial
  · split
    · trivial
    · split
      · trivial
      · exact XGood.lit (.inr (.inr (.inl ⟨_, (parse_range _).1, (parse_range _).2, rfl⟩)))
theorem textR_good {s : ByteArray} {q : Int} : GoodR .one (textR s q) := by
  unfold textR
  split
  · exact XGood.lit (.inr (.inr (.inr ⟨_, rfl⟩)))
  · trivial
theorem wordR_good {s : ByteArray} {i : Int} (ha : argsN (wordAt s i) = 0) : GoodR .one (wordR s i) := by
  unfold wordR
  split
  · exact XGood.lit (.inr (.inl ⟨_, rfl⟩))
  · split
    · exact XGood.lit (.inr (.inl ⟨_, rfl⟩))
    · split
      · exact XGood.lit (.inl rfl)
      · split
        · exact XGood.this
        · split
          · trivial
          · rename_i h; exact XGood.var (fun h2 => h (.inl h2)) (by cases hm : memL (wordAt s i) resL with | false => rfl | true => exact absurd (.inr hm) h) ha
theorem par_good {s : ByteArray} {g : G} {i : Int} {r : Res} (h : Par s g i r) : goodG g → 0 ≤ i → i ≤ s.size → GoodR g r := by
  induction h with
  | lev_err => intro _ _ _; trivial
  | lev_ok hn h k ih1 ih2 =>
    intro hg h0 h1
    have hp := par_pos h h0 h1
    have h3 := ih1 (by unfold lv at hn; simp [goodG]; omega) h0 h1
    exact good_case (ih2 hn (by have := hp.1.1; omega) hp.1.2) fun T p h => h h3
  | not_on hw h ih =>
    intro hg h0 h1
    have hp := word_pos h0 (by rw [hw]; decide)
    have h3 := ih hg (by omega) hp.2
    revert h3; cases ‹Res› with
    | err => intro _; trivial
    | ok T p => intro h3; exact XGood.un (.inl rfl) h3
  | not_no _ _ ih => intro hg h0 h1; exact good_case (ih (by simp [goodG]) h0 h1) fun T p h => h
  | neg_on hm h ih =>
    intro hg h0 h1
    have hp := mark_pos hm (by decide)
    have h3 := ih hg (by omega) hp.2
    revert h3; cases ‹Res› with
    | err => intro _; trivial
    | ok T p => intro h3; exact XGood.un (.inr rfl) h3
  | neg_no _ _ ih => intro hg h0 h1; exact good_case (ih trivial h0 h1) fun T p h => h
  | more_end => intro _ _ _ h; exact h
  | more_err => intro _ _ _; trivial
  | more_one hb h ih =>
    intro hg h0 h1 hT
    have hp := betw_pos h0 hb
    exact XGood.bin (betw_mem hg h0 hb) hT (ih (by simp [goodG]) (by omega) hp.2)
  | more_on _ hb h _ ih1 ih2 =>
    intro hg h0 h1
    have hp := betw_pos h0 hb
    have hl : lv _ := hg
    have h3 := ih1 (by unfold lv at hl; simp [goodG]; omega) (by omega) hp.2
    have hq := par_pos h (by omega) hp.2
    have hq2 := hq.1.1
    exact good_case (ih2 hg (by omega) hq.1.2) fun T p h hT => h (XGood.bin (betw_mem hl h0 hb) hT h3)
  | part_err => intro _ _ _; trivial
  | part_ok h k ih1 ih2 =>
    intro hg h0 h1
    have hp := par_pos h h0 h1
    have h3 := ih1 trivial h0 h1
    exact good_case (ih2 trivial (by have := hp.1.1; omega) hp.1.2) fun T p h => h h3
  | parts_end => intro _ _ _ h; exact h
  | get_word hm hw _ ih =>
    intro hg h0 h1
    have h2 := mark_pos hm (by decide)
    have h3 := word_pos (by omega) hw
    exact good_case (ih trivial (by omega) h3.2) fun T p h hT => h (XGood.get hT)
  | get_form => intro _ _ _; trivial
  | get_err => intro _ _ _; trivial
  | get_text hm _ hq _ hc _ ih =>
    intro hg h0 h1
    have h2 := mark_pos hm (by decide)
    rename_i T0 i0 q0 r0 _ _ _
    have h3 := blanks_ge s (markAt s i0 ⟨#[46]⟩)
    rw [← hq] at h3
    have h4 := str_pos (by omega) hc
    exact good_case (ih trivial (by omega) h4.2) fun T p h hT => h (XGood.get hT)
  | at_err => intro _ _ _; trivial
  | at_form => intro _ _ _; trivial
  | at_on _ hm h hk _ ih1 ih2 =>
    intro hg h0 h1
    have h2 := mark_pos hm (by decide)
    have h3 := ih1 (by simp [goodG]) (by omega) h2.2
    have hp := par_pos h (by omega) h2.2
    have hp2 := hp.1.1
    have h4 := mark_pos hk (by decide)
    exact good_case (ih2 trivial (by omega) h4.2) fun T p h hT => h (XGood.at_ hT h3)
  | one_num hd => intro _ _ _; exact numR_good rfl
  | one_text _ => intro _ _ _; exact textR_good
  | one_err => intro _ _ _; trivial
  | one_form => intro _ _ _; trivial
  | one_in hm h hk ih =>
    intro hg h0 h1
    have h2 := mark_pos hm (by decide)
    exact ih (by simp [goodG]) (by omega) h2.2
  | one_word _ _ _ ha => intro _ _ _; exact wordR_good ha
  | one_open => intro _ _ _; trivial
  | one_call ha hm h ih =>
    intro hg h0 h1
    have h2 := word_pos h0 (argsN_ne ha).1
    have h3 := mark_pos hm (by decide)
    exact good_case (ih trivial (by omega) h3.2) fun T p h => h ha ha (by simp)
  | call_err => intro _ _ _; trivial
  | call_few => intro _ _ _; trivial
  | call_end h hm hl ih =>
    intro hg h0 h1 ha hlt hU
    have h3 := ih (by simp [goodG]) h0 h1
    refine XGood.call ha (by simp; omega) fun T hT => ?_
    rcases List.mem_append.1 hT with hT | hT
    · exact hU T hT
    · rw [List.mem_singleton.1 hT]; exact h3
  | call_form => intro _ _ _; trivial
  | call_many => intro _ _ _; trivial
  | call_on h _ hm hl hr ih1 ih2 =>
    intro hg h0 h1
    have h3 := ih1 (by simp [goodG]) h0 h1
    have hp := par_pos h h0 h1
    have hp2 := hp.1.1
    have h4 := mark_pos hm (by decide)
    refine good_case (ih2 trivial (by omega) h4.2) fun T p h ha hlt hU => h ha (by simp; omega) fun T hT => ?_
    rcases List.mem_append.1 hT with hT | hT
    · exact hU T hT
    · rw [List.mem_singleton.1 hT]; exact h3
end Go.Proofs.YtdlkdecigpaaaaaGreatDoor
namespace Go.Proofs.YtdlkdecigpaaaaaGreatDoor
set_option linter.unusedVariables false
set_option linter.unusedSimpArgs false
open Go.RowKit

/-- What a text's answer is, as far as so many steps tell. -/
def runP (s : ByteArray) : Nat → G → Int → Option Res
  | 0, _, _ => none
  | k + 1, .lev n, i =>
    if n = 2 then (if wordAt s i = notS then (runP s k (.lev 2) (wordAtEnd s i)).map (Res.up notS) else runP s k (.lev 3) i)
    else if n = 6 then (if 0 ≤ markAt s i ⟨#[45]⟩ then (runP s k (.lev 6) (markAt s i ⟨#[45]⟩)).map (Res.up negS) else runP s k .part i)
    else if n = 0 ∨ n = 1 ∨ n = 3 ∨ n = 4 ∨ n = 5 then
      match runP s k (.lev (n + 1)) i with
      | some (.ok T p) => runP s k (.more n T) p
      | o => o
    else none
  | k + 1, .more n T, i =>
    match betw s i n with
    | none => some (.ok T i)
    | some (op, e) =>
      match runP s k (.lev (n + 1)) e with
      | some (.ok U p) => if n = 3 then some (.ok (binT op T U) p) else runP s k (.more n (binT op T U)) p
      | o => o
  | k + 1, .part, i =>
    match runP s k .one i with
    | some (.ok T p) => runP s k (.parts T) p
    | o => o
  | k + 1, .parts T, i =>
    if 0 ≤ markAt s i ⟨#[46]⟩ then
      if wordAt s (markAt s i ⟨#[46]⟩) ≠ eS then runP s k (.parts (.mk getS (wordAt s (markAt s i ⟨#[46]⟩)) VT.zero [T])) (wordAtEnd s (markAt s i ⟨#[46]⟩))
      else if isAt s (blanks s (markAt s i ⟨#[46]⟩)) 34 = false then some (.err (blanks s (markAt s i ⟨#[46]⟩)) 1)
      else if (strF s (blanks s (markAt s i ⟨#[46]⟩))).2.2 = 0 then runP s k (.parts (.mk getS (strF s (blanks s (markAt s i ⟨#[46]⟩))).1.text VT.zero [T])) (strF s (blanks s (markAt s i ⟨#[46]⟩))).1.stop
      else some (.err (strF s (blanks s (markAt s i ⟨#[46]⟩))).2.1 (strF s (blanks s (markAt s i ⟨#[46]⟩))).2.2)
    else if 0 ≤ markAt s i ⟨#[91]⟩ then
      match runP s k (.lev 0) (markAt s i ⟨#[91]⟩) with
      | some (.ok U p) => if 0 ≤ markAt s p ⟨#[93]⟩ then runP s k (.parts (binT atS T U)) (markAt s p ⟨#[93]⟩) else some (.err (blanks s p) 1)
      | o => o
    else some (.ok T i)
  | k + 1, .one, i =>
    if digitAt s (blanks s i) = true then some (numR s (blanks s i))
    else if isAt s (blanks s i) 34 = true then some (textR s (blanks s i))
    else if 0 ≤ markAt s i ⟨#[40]⟩ then
      match runP s k (.lev 0) (markAt s i ⟨#[40]⟩) with
      | some (.ok T p) => if 0 ≤ markAt s p ⟨#[41]⟩ then some (.ok T (markAt s p ⟨#[41]⟩)) else some (.err (blanks s p) 1)
      | o => o
    else if argsN (wordAt s i) = 0 then some (wordR s i)
    else if 0 ≤ markAt s (wordAtEnd s i) ⟨#[40]⟩ then runP s k (.call (wordAt s i) []) (markAt s (wordAtEnd s i) ⟨#[40]⟩)
    else some (.err (blanks s (wordAtEnd s i)) 1)
  | k + 1, .call w l, i =>
    match runP s k (.lev 0) i with
    | some (.ok U p) =>
      if 0 ≤ markAt s p ⟨#[41]⟩ then (if l.length + 1 < argsN w then some (.err (blanks s p) 12) else some (.ok (.mk w eS VT.zero (l ++ [U])) (markAt s p ⟨#[41]⟩)))
      else if 0 ≤ markAt s p ⟨#[44]⟩ then (if l.length + 1 = argsN w then some (.err (blanks s p) 12) else runP s k (.call w (l ++ [U])) (markAt s p ⟨#[44]⟩))
      else some (.err (blanks s p) 1)
    | o => o
theorem runP_par {s : ByteArray} : ∀ (k : Nat) {g : G} {i : Int} {r : Res}, runP s k g i = some r → Par s g i r := by
  intro k
  induction k with
  | zero => intro g i r h; simp [runP] at h
  | succ k ih =>
    intro g i r h
    cases g with
    | lev n =>
      simp only [runP] at h
      split at h
      · rename_i hn; subst hn
        split at h
        · rename_i hw
          obtain ⟨r', hr, rfl⟩ := Option.map_eq_some_iff.1 h
          exact .not_on hw (ih hr)
        · rename_i hw; exact .not_no hw (ih h)
      · split at h
        · rename_i hn; subst hn
          split at h
          · rename_i hm
            obtain ⟨r', hr, rfl⟩ := Option.map_eq_some_iff.1 h
            exact .neg_on hm (ih hr)
          · exact .neg_no (by omega) (ih h)
        · split at h
          · rename_i hn
            cases hx : runP s k (.lev (n + 1)) i with
            | none => rw [hx] at h; cases h
            | some r1 =>
              rw [hx] at h
              cases r1 with
              | ok T p => exact .lev_ok hn (ih hx) (ih h)
              | err p c => cases h; exact .lev_err hn (ih hx)
          · cases h
    | more n T =>
      simp only [runP] at h
      split at h
      · rename_i hb; cases h; exact .more_end hb
      · rename_i op e hb
        cases hx : runP s k (.lev (n + 1)) e with
        | none => rw [hx] at h; cases h
        | some r1 =>
          rw [hx] at h
          cases r1 with
          | ok U p =>
            simp only at h
            split at h
            · rename_i hn; subst hn; cases h; exact .more_one hb (ih hx)
            · rename_i hn; exact .more_on hn hb (ih hx) (ih h)
          | err p c => cases h; exact .more_err hb (ih hx)
    | part =>
      simp only [runP] at h
      cases hx : runP s k .one i with
      | none => rw [hx] at h; cases h
      | some r1 =>
        rw [hx] at h
        cases r1 with
        | ok T p => exact .part_ok (ih hx) (ih h)
        | err p c => cases h; exact .part_err (ih hx)
    | parts T =>
      simp only [runP] at h
      split at h
      · rename_i hm
        split at h
        · rename_i hw; exact .get_word hm hw (ih h)
        · rename_i hw
          have hw : wordAt s (markAt s i ⟨#[46]⟩) = eS := Decidable.of_not_not hw
          split at h
          · rename_i hq; cases h; exact .get_form hm hw hq
          · rename_i hq
            have hq : isAt s (blanks s (markAt s i ⟨#[46]⟩)) 34 = true := by simpa using hq
            split at h
            · rename_i hc; exact .get_text hm hw rfl hq hc (ih h)
            · rename_i hc; cases h; exact .get_err hm hw rfl hq hc
      · rename_i hm
        split at h
        · rename_i hs
          cases hx : runP s k (.lev 0) (markAt s i ⟨#[91]⟩) with
          | none => rw [hx] at h; cases h
          | some r1 =>
            rw [hx] at h
            cases r1 with
            | ok U p =>
              simp only at h
              split at h
              · rename_i hc; exact .at_on (by omega) hs (ih hx) hc (ih h)
              · cases h; exact .at_form (by omega) hs (ih hx) (by omega)
            | err p c => cases h; exact .at_err (by omega) hs (ih hx)
        · cases h; exact .parts_end (by omega) (by omega)
    | one =>
      simp only [runP] at h
      split at h
      · rename_i hd; cases h; exact .one_num hd
      · rename_i hd
        split at h
        · rename_i hq; cases h; exact .one_text hq
        · rename_i hq
          split at h
          · rename_i hm
            cases hx : runP s k (.lev 0) (markAt s i ⟨#[40]⟩) with
            | none => rw [hx] at h; cases h
            | some r1 =>
              rw [hx] at h
              cases r1 with
              | ok U p =>
                simp only at h
                split at h
                · rename_i hc; cases h; exact .one_in hm (ih hx) hc
                · cases h; exact .one_form hm (ih hx) (by omega)
              | err p c => cases h; exact .one_err hm (ih hx)
          · rename_i hm
            split at h
            · rename_i ha; cases h; exact .one_word (by simpa using hd) (by simpa using hq) (by omega) ha
            · split at h
              · rename_i hc; exact .one_call (by omega) hc (ih h)
              · cases h; exact .one_open (by omega) (by omega)
    | call w l =>
      simp only [runP] at h
      cases hx : runP s k (.lev 0) i with
      | none => rw [hx] at h; cases h
      | some r1 =>
        rw [hx] at h
        cases r1 with
        | ok U p =>
          simp only at h
          split at h
          · rename_i hc
            split at h
            · rename_i hl; cases h; exact .call_few (ih hx) hc hl
            · cases h; exact .call_end (ih hx) hc (by omega)
          · split at h
            · rename_i hc
              split at h
              · rename_i hl; cases h; exact .call_many (ih hx) (by omega) hc hl
              · rename_i hl; exact .call_on (ih hx) (by omega) hc hl (ih h)
            · cases h; exact .call_form (ih hx) (by omega) (by omega)
        | err p c => cases h; exact .call_err (ih hx)
/-- this.a + 1 -/
abbrev ex9 : ByteArray := ⟨#[116, 104, 105, 115, 46, 97, 32, 43, 32, 49]⟩
abbrev ex9T : XT := binT ⟨#[43]⟩ (.mk getS ⟨#[97]⟩ VT.zero [.mk thisS eS VT.zero []]) (litT (nrV 1))
theorem ex9_par : Par ex9 (.lev 0) 0 (.ok ex9T 10) := runP_par 30 (by kernel_rfl)
/-- 1 + 2 * x -/
abbrev ex8 : ByteArray := ⟨#[49, 32, 43, 32, 50, 32, 42, 32, 120]⟩
abbrev ex8T : XT := binT ⟨#[43]⟩ (litT (nrV 1)) (binT ⟨#[42]⟩ (litT (nrV 2)) (.mk varS ⟨#[120]⟩ VT.zero []))
theorem ex8_par : Par ex8 (.lev 0) 0 (.ok ex8T 9) := runP_par 30 (by kernel_rfl)
end Go.Proofs.YtdlkdecigpaaaaaGreatDoor
namespace Go.Proofs.YtdlkdecigpaaaaaGreatDoor
set_option linter.unusedVariables false
set_option linter.unusedSimpArgs false
open Go.RowKit

/-- The nine cells of a part of a row of trees. -/
theorem nine_cells {w : World} {S : Nat → Prop} {l : List XT} {cs : List Value} {g o : Nat} (hr : Rows (XT.Nine w S) l cs) (hc : ∀ j u, cs[j]? = some u → w.cell? ⟨g, o + j, none⟩ = some u) {i : Nat} (hi : i < l.length) :
    ∃ a1 c1 a2 c2 a3 c3, l[i].Rep w S (.slice a1 l[i].lit.its.length c1) (.slice a2 l[i].lit.ks.length c2) (.slice a3 l[i].args.length c3) ∧ w.cell? ⟨g, o + i * 9, none⟩ = some (.string l[i].op) ∧ w.cell? ⟨g, o + i * 9 + 1, none⟩ = some (.string l[i].nm) ∧
      w.cell? ⟨g, o + i * 9 + 2, none⟩ = some (.int .i64 l[i].lit.k) ∧ w.cell? ⟨g, o + i * 9 + 3, none⟩ = some (.bool l[i].lit.b) ∧ w.cell? ⟨g, o + i * 9 + 4, none⟩ = some (.int .i64 l[i].lit.n) ∧ w.cell? ⟨g, o + i * 9 + 5, none⟩ = some (.string l[i].lit.s) ∧
      w.cell? ⟨g, o + i * 9 + 6, none⟩ = some (.slice a1 l[i].lit.its.length c1) ∧ w.cell? ⟨g, o + i * 9 + 7, none⟩ = some (.slice a2 l[i].lit.ks.length c2) ∧ w.cell? ⟨g, o + i * 9 + 8, none⟩ = some (.slice a3 l[i].args.length c3) := by
  obtain ⟨x, ⟨vi, vk, va, rfl, h2⟩, h3⟩ := hr.at nine_len hi
  obtain ⟨a1, c1, a2, c2, a3, c3, rfl, rfl, rfl⟩ := xrep_shape h2
  refine ⟨a1, c1, a2, c2, a3, c3, h2, hc _ _ (h3 0 (by omega)), ?_, ?_, ?_, ?_, ?_, ?_, ?_, ?_⟩
  · rw [Nat.add_assoc]; exact hc _ _ (h3 1 (by omega))
  · rw [Nat.add_assoc]; exact hc _ _ (h3 2 (by omega))
  · rw [Nat.add_assoc]; exact hc _ _ (h3 3 (by omega))
  · rw [Nat.add_assoc]; exact hc _ _ (h3 4 (by omega))
  · rw [Nat.add_assoc]; exact hc _ _ (h3 5 (by omega))
  · rw [Nat.add_assoc]; exact hc _ _ (h3 6 (by omega))
  · rw [Nat.add_assoc]; exact hc _ _ (h3 7 (by omega))
  · rw [Nat.add_assoc]; exact hc _ _ (h3 8 (by omega))
theorem deepL_take (l : List XT) {k : Nat} (h : k < l.length) : XT.deepL (l.take (k + 1)) = max (XT.deepL (l.take k)) l[k].depth := by
  rw [List.take_succ_eq_append_getElem h, deepL_snoc]
theorem deepL_takele (l : List XT) (k : Nat) : XT.deepL (l.take k) ≤ XT.deepL l := by
  induction l generalizing k with
  | nil => simp
  | cons a l ih =>
    cases k with
    | zero => rw [List.take_zero, deepL_nil]; omega
    | succ k => rw [List.take_succ_cons, deepL_cons, deepL_cons]; have := ih k; omega
/-- A tree's parts as a row, and its literal. -/
theorem xrep_row {w : World} {S : Nat → Prop} {T : XT} {vi vk va : Value} (h : T.Rep w S vi vk va) : ∃ cs, Sl w S 9 va T.args.length cs ∧ Rows (XT.Nine w S) T.args cs := (xrep_iff.1 h).2
set_option maxRecDepth 20000 in
set_option maxHeartbeats 1000000 in
theorem edepth_any : ∀ (k : Nat) (T : XT) (vi vk va : Value) (S : Nat → Prop) (w : World), T.depth ≤ k → k ≤ 1000000 → XGood T → T.Rep w S vi vk va →
    Calls Tryz.prog 32 #[T.agg vi vk va] w fun e w' => e = .returned (.int .i64 T.depth) ∧ Keeps [] w w' := by
  intro k
  induction k with
  | zero => intro T _ _ _ _ _ h; have := depth_pos T; omega
  | succ k ih =>
    intro T vi vk va S w hd hk hg h
    obtain ⟨a1, c1, a2, c2, a3, c3, rfl, rfl, rfl⟩ := xrep_shape h
    obtain ⟨cs, hsl, hrows⟩ := xrep_row h
    have hlen := hg.len
    have HD : Hid (T.depth = XT.deepL T.args + 1) := Lib.hid (depth_args T)
    have hdl : XT.deepL T.args ≤ k := by have := HD.out; omega
    have HI := Lib.hid (fun (j : Nat) (hj : j < T.args.length) (a1 : Option Addr) (c1 : Nat) (a2 : Option Addr) (c2 : Nat) (a3 : Option Addr) (c3 : Nat) (W : World) (hr : T.args[j].Rep W S (.slice a1 T.args[j].lit.its.length c1) (.slice a2 T.args[j].lit.ks.length c2) (.slice a3 T.args[j].args.length c3)) =>
      ih T.args[j] _ _ _ S W (by have := deepL_mem (List.getElem_mem hj); omega) (by omega) (hg.arg _ (List.getElem_mem hj)) hr)
    have HL := Lib.hid (fun (W : World) (k : Keeps [] w W) => And.intro (hsl.keep (kc_keeps k fun _ _ => by simp)) (nine_go (kc_keeps k fun _ _ => by simp) (fun _ _ _ _ h _ => h) hrows))
    have HK0 : Hid (Keeps [] w (w.alloc (.cells (T.nine (.slice a1 T.lit.its.length c1) (.slice a2 T.lit.ks.length c2) (.slice a3 T.args.length c3)) 52))) := Lib.hid ((Keeps.refl _ _).alloc _)
    clear h hsl hrows hg hd ih
    go_enter Tryz.func32, Tryz.ntmps32
    go_wp2_with fail
    go_loopw [3, 9] (fun v i W => ∃ j : Nat, j ≤ T.args.length ∧ i = .int .i64 j ∧ v = .int .i64 (XT.deepL (T.args.take j)) ∧ Hid (Keeps [] w W)) (fun _ i _ => T.args.length - (intOf i).toNat)
    case atStart => exact ⟨0, Nat.zero_le _, rfl, by rw [List.take_zero, deepL_nil]; rfl, HK0⟩
    case round =>
      obtain ⟨j, hj, rfl, rfl, HK⟩ := hrel
      by_cases hlt : j < T.args.length
      · obtain ⟨hsl, hrw⟩ := HL.out _ HK.out
        obtain ⟨g', o', c', hv, _, _, _, hcells⟩ := hsl.at (by omega)
        cases hv
        obtain ⟨x1, y1, x2, y2, x3, y3, hrep, z0, z1, z2, z3, z4, z5, z6, z7, z8⟩ := nine_cells hrw hcells hlt
        have HR := Lib.hid hrep
        have HT := Lib.hid (deepL_take T.args hlt)
        have hle := deepL_takele T.args (j + 1)
        rw [HT.out] at hle
        have hdm : T.args[j].depth ≤ 1000000 := by omega
        have hdt : XT.deepL (T.args.take j) ≤ 1000000 := by omega
        clear hsl hrw hcells hrep hle
        go_wp2_with (go_at_call 32; refine (HI.out j hlt _ _ _ _ _ _ _ (HR.out.keep (kc_alloc _))).mono ?_; rintro e' w2 ⟨rfl, hk2⟩; have H2 := Lib.hid ((HK.out.alloc _).trans hk2); clear hk2)
        go_roundw
        case rel => exact ⟨j + 1, by omega, by go_num, by rw [HT.out]; congr 1; omega, H2⟩
        case measure => simp [intOf]; omega
      · obtain rfl : j = T.args.length := by omega
        have hdm : XT.deepL (T.args.take T.args.length) = XT.deepL T.args := by rw [List.take_length]
        have hdm2 := HD.out
        have HE : Hid ((T.depth : Int) = (XT.deepL (T.args.take T.args.length) : Int) + 1) := Lib.hid (by rw [hdm]; omega)
        have hb : XT.deepL (T.args.take T.args.length) ≤ 1000000 := by omega
        clear hdm hdm2
        go_wp2_with fail
        go_ret
        exact ⟨ret_i64 (by have := HD.out; omega), HK.out⟩
set_option maxRecDepth 20000 in
set_option maxHeartbeats 1000000 in
theorem rdepth_any : ∀ (k : Nat) (T : XT) (vi vk va : Value) (S : Nat → Prop) (w : World), T.depth ≤ k → k ≤ 1000000 → XGood T → T.Rep w S vi vk va →
    Calls Tryz.prog 31 #[T.agg vi vk va] w fun e w' => e = .returned (.int .i64 T.depth) ∧ Keeps [] w w' := by
  intro k
  induction k with
  | zero => intro T _ _ _ _ _ h; have := depth_pos T; omega
  | succ k ih =>
    intro T vi vk va S w hd hk hg h
    obtain ⟨a1, c1, a2, c2, a3, c3, rfl, rfl, rfl⟩ := xrep_shape h
    obtain ⟨cs, hsl, hrows⟩ := xrep_row h
    have hlen := hg.len
    have HD : Hid (T.depth = XT.deepL T.args + 1) := Lib.hid (depth_args T)
    have hdl : XT.deepL T.args ≤ k := by have := HD.out; omega
    have HI := Lib.hid (fun (j : Nat) (hj : j < T.args.length) (a1 : Option Addr) (c1 : Nat) (a2 : Option Addr) (c2 : Nat) (a3 : Option Addr) (c3 : Nat) (W : World) (hr : T.args[j].Rep W S (.slice a1 T.args[j].lit.its.length c1) (.slice a2 T.args[j].lit.ks.length c2) (.slice a3 T.args[j].args.length c3)) =>
      ih T.args[j] _ _ _ S W (by have := deepL_mem (List.getElem_mem hj); omega) (by omega) (hg.arg _ (List.getElem_mem hj)) hr)
    have HL := Lib.hid (fun (W : World) (k : Keeps [] w W) => And.intro (hsl.keep (kc_keeps k fun _ _ => by simp)) (nine_go (kc_keeps k fun _ _ => by simp) (fun _ _ _ _ h _ => h) hrows))
    have HK0 : Hid (Keeps [] w (w.alloc (.cells (T.nine (.slice a1 T.lit.its.length c1) (.slice a2 T.lit.ks.length c2) (.slice a3 T.args.length c3)) 30)) ∧ (w.alloc (.cells (T.nine (.slice a1 T.lit.its.length c1) (.slice a2 T.lit.ks.length c2) (.slice a3 T.args.length c3)) 30)).heap[w.heap.size]? = some (.cells (T.nine (.slice a1 T.lit.its.length c1) (.slice a2 T.lit.ks.length c2) (.slice a3 T.args.length c3)) 30 (0, 0))) := Lib.hid ⟨(Keeps.refl _ _).alloc _, new_blk _ _⟩
    clear h hsl hrows hg hd ih
    go_enter Tryz.func31, Tryz.ntmps31
    go_wp2_with fail
    go_loopw [3, 8] (fun v i W => ∃ j : Nat, j ≤ T.args.length ∧ i = .int .i64 j ∧ v = .int .i64 (1 + (XT.deepL (T.args.take j) : Int)) ∧ Hid (Keeps [] w W ∧ W.heap[w.heap.size]? = some (.cells (T.nine (.slice a1 T.lit.its.length c1) (.slice a2 T.lit.ks.length c2) (.slice a3 T.args.length c3)) 30 (0, 0)))) (fun _ i _ => T.args.length - (intOf i).toNat)
    case atStart => exact ⟨0, Nat.zero_le _, rfl, by rw [List.take_zero, deepL_nil]; rfl, HK0⟩
    case round =>
      obtain ⟨j, hj, rfl, rfl, HK⟩ := hrel
      by_cases hlt : j < T.args.length
      · have gbx := cell_blk HK.out.2
        obtain ⟨hsl, hrw⟩ := HL.out _ HK.out.1
        obtain ⟨g', o', c', hv, _, _, _, hcells⟩ := hsl.at (by omega)
        cases hv
        obtain ⟨x1, y1, x2, y2, x3, y3, hrep, z0, z1, z2, z3, z4, z5, z6, z7, z8⟩ := nine_cells hrw hcells hlt
        have HR := Lib.hid hrep
        have HT := Lib.hid (deepL_take T.args hlt)
        have hle := deepL_takele T.args (j + 1)
        rw [HT.out] at hle
        have hdm : T.args[j].depth ≤ 1000000 := by omega
        have hdt : XT.deepL (T.args.take j) ≤ 1000000 := by omega
        clear hsl hrw hcells hrep hle
        go_wp2_with (go_at_call 31; refine (HI.out j hlt _ _ _ _ _ _ _ HR.out).mono ?_; rintro e' w2 ⟨rfl, hk2⟩; have H2 := Lib.hid (And.intro (HK.out.1.trans hk2) (hk2.same HK.out.2)); clear hk2)
        go_roundw
        case rel => exact ⟨j + 1, by omega, by go_num, by rw [HT.out]; congr 1; omega, H2⟩
        case measure => simp [intOf]; omega
      · obtain rfl : j = T.args.length := by omega
        have hdm : XT.deepL (T.args.take T.args.length) = XT.deepL T.args := by rw [List.take_length]
        have hdm2 := HD.out
        have HE : Hid ((T.depth : Int) = (XT.deepL (T.args.take T.args.length) : Int) + 1) := Lib.hid (by rw [hdm]; omega)
        have hb : XT.deepL (T.args.take T.args.length) ≤ 1000000 := by omega
        clear hdm hdm2
        go_wp2_with fail
        go_ret
        exact ⟨ret_i64 (by have := HD.out; have e := congrArg XT.deepL (List.take_length (l := T.args)); omega), HK.out.1⟩
end Go.Proofs.YtdlkdecigpaaaaaGreatDoor
namespace Go.Proofs.YtdlkdecigpaaaaaGreatDoor
set_option linter.unusedVariables false
set_option linter.unusedSimpArgs false
open Go.RowKit

theorem drew_cells {W : World} {b : Nat} {cs : Array Value} {t : TypeId} (h : W.heap[b]? = some (.cells cs t (0, 0))) : ∀ j, W.drew.cell? ⟨b, j, none⟩ = cs[j]? := cell_blk h
/-- What Parse answers: a tree, a place, an error. -/
def parseR (s : ByteArray) : Res → XT × Int × Int
  | .err p c => (XT.zero, p, c)
  | .ok T p => if blanks s p < s.size then (XT.zero, blanks s p, 1) else if 32 < T.depth then (XT.zero, 0, 6) else (T, 0, 0)
def Says3 (a : XT × Int × Int) (w : World) (e : Ending) (w' : World) : Prop :=
  ∃ vi vk va, e = .returned (.tuple #[a.1.agg vi vk va, .int .i64 a.2.1, .int .i64 a.2.2]) ∧ a.1.Rep w' (w.heap.size ≤ ·) vi vk va ∧ Keeps [] w w'
/-- The parser is block b, the variable block x; the result's block is as it was made. -/
structure PX (s : ByteArray) (a pl c : Int) (b x : Nat) (T : XT) (vi vk va : Value) (w W : World) : Prop where
  pat : PAt s a pl c b W
  blk : W.heap[x]? = some (.cells (T.nine vi vk va) 52 (0, 0))
  rep : T.Rep W (fun k => b < k ∧ k ≠ x) vi vk va
  keeps : Keeps [] w W
  box : W.heap[w.heap.size]? = some (.cells zero9 52 (0, 0))
theorem varOk_lt {w : World} (h : VarOk w) : 5 < w.heap.size := by obtain ⟨ev, hc, _⟩ := h; exact World.block_lt_of_cell? w _ hc
section
variable {s : ByteArray} {a pl c : Int} {b x : Nat} {T : XT} {vi vk va : Value} {w W W' : World}
theorem PX.go (h : PX s a pl c b x T vi vk va w W) (k : Keeps [] W W') : PX s a pl c b x T vi vk va w W' :=
  ⟨pat_keeps h.pat k (by simp), k.same h.blk, h.rep.keep (kc_keeps k fun _ _ => by simp), h.keeps.trans k, k.same h.box⟩
theorem PX.to {a' pl' c' : Int} (h : PX s a pl c b x T vi vk va w W) (k : Keeps [b] W W') (hp : PAt s a' pl' c' b W') (hb : w.heap.size < b) (hx : b < x) : PX s a' pl' c' b x T vi vk va w W' :=
  ⟨hp, k.heap h.blk (by simp; omega), h.rep.keep (kc_keeps k fun k hk => by simp; omega), h.keeps.step k (fun k h1 h2 => by simp at h1; omega), k.heap h.box (by simp; omega)⟩
theorem px_new {W0 : World} (h0 : Keeps [] w W0) (hbox : W0.heap[w.heap.size]? = some (.cells zero9 52 (0, 0))) (hb : w.heap.size < b) (hbl : b < W0.heap.size) (hr : T.Rep W (W0.heap.size ≤ ·) vi vk va) (hk : Keeps [b] W0 W) (hp : PAt s a pl c b W) :
    PX s a pl c b W.heap.size T vi vk va w (W.alloc (.cells (T.nine vi vk va) 52)) := by
  have ka : Keeps [] W (W.alloc (.cells (T.nine vi vk va) 52)) := (Keeps.refl _ _).alloc _
  have hz := hk.size
  exact ⟨pat_keeps hp ka (by simp), new_blk _ _, (hr.into (S' := fun k => b < k ∧ k ≠ W.heap.size) (fun k _ _ _ h1 h2 => ⟨by omega, by have := hk_lt h2; omega⟩)).keep (kc_keeps ka fun _ _ => by simp), (h0.step hk (fun k h1 h2 => by simp at h1; omega)).trans ka, ka.same (hk.heap hbox (by simp; omega))⟩
/-- The variable's tree, laid into the result. -/
theorem PX.ret (h : PX s a pl c b x T vi vk va w W) (hb : w.heap.size < b) :
    (sets9 W w.heap.size (.string T.op) (.string T.nm) (.int .i64 T.lit.k) (.bool T.lit.b) (.int .i64 T.lit.n) (.string T.lit.s) vi vk va).heap[w.heap.size]? = some (.cells (T.nine vi vk va) 52 (0, 0)) ∧ T.Rep (sets9 W w.heap.size (.string T.op) (.string T.nm) (.int .i64 T.lit.k) (.bool T.lit.b) (.int .i64 T.lit.n) (.string T.lit.s) vi vk va) (w.heap.size ≤ ·) vi vk va ∧
      Keeps [] w (sets9 W w.heap.size (.string T.op) (.string T.nm) (.int .i64 T.lit.k) (.bool T.lit.b) (.int .i64 T.lit.n) (.string T.lit.s) vi vk va) := by
  have k9 := keeps_sets9 W w.heap.size (.string T.op) (.string T.nm) (.int .i64 T.lit.k) (.bool T.lit.b) (.int .i64 T.lit.n) (.string T.lit.s) vi vk va
  exact ⟨blk_sets9 h.box _ _ _ _ _ _ _ _ _, (h.rep.keep (kc_keeps k9 fun k hk => by simp; omega)).mono (fun k hk => by omega), h.keeps.step k9 (fun k h1 h2 => by simp at h1; omega)⟩
/-- The zero, laid into the result. -/
theorem PX.zer (h : PX s a pl c b x T vi vk va w W) :
    (sets9 W w.heap.size (.string eS) (.string eS) (.int .i64 0) (.bool false) (.int .i64 0) (.string eS) (.slice none 0 0) (.slice none 0 0) (.slice none 0 0)).heap[w.heap.size]? = some (.cells zero9 52 (0, 0)) ∧
      Keeps [] w (sets9 W w.heap.size (.string eS) (.string eS) (.int .i64 0) (.bool false) (.int .i64 0) (.string eS) (.slice none 0 0) (.slice none 0 0) (.slice none 0 0)) := by
  have k9 := keeps_sets9 W w.heap.size (.string eS) (.string eS) (.int .i64 0) (.bool false) (.int .i64 0) (.string eS) (.slice none 0 0) (.slice none 0 0) (.slice none 0 0)
  exact ⟨blk_sets9 h.box _ _ _ _ _ _ _ _ _, h.keeps.step k9 (fun k h1 h2 => by simp at h1; omega)⟩
/-- What stands behind a region that draws, where the zero was laid. -/
def ZerD (w W : World) : Prop := W.heap[w.heap.size]? = some (.cells zero9 52 (0, 0)) ∧ Keeps [] w W
theorem ZerD.drew {X : World} (h : ZerD w X) : ZerD w X.drew := ⟨h.1, h.2.drew⟩
theorem PX.zerD (h : PX s a pl c b x T vi vk va w W) : ZerD w (sets9 W w.heap.size (.string eS) (.string eS) (.int .i64 0) (.bool false) (.int .i64 0) (.string eS) (.slice none 0 0) (.slice none 0 0) (.slice none 0 0)).drew := ZerD.drew (show ZerD w _ from h.zer)
/-- What stands behind a region that draws, where the tree was laid. -/
def RetD (T : XT) (vi vk va : Value) (w W : World) : Prop := W.heap[w.heap.size]? = some (.cells (T.nine vi vk va) 52 (0, 0)) ∧ T.Rep W (w.heap.size ≤ ·) vi vk va ∧ Keeps [] w W
theorem RetD.drew {X : World} (h : RetD T vi vk va w X) : RetD T vi vk va w X.drew := ⟨h.1, h.2.1.keep kc_drew, h.2.2.drew⟩
theorem PX.retD (h : PX s a pl c b x T vi vk va w W) (hb : w.heap.size < b) : RetD T vi vk va w (sets9 W w.heap.size (.string T.op) (.string T.nm) (.int .i64 T.lit.k) (.bool T.lit.b) (.int .i64 T.lit.n) (.string T.lit.s) vi vk va).drew := RetD.drew (show RetD T vi vk va w _ from h.ret hb)
end
section
variable (s : ByteArray) (w : World) (r : Res)
set_option maxRecDepth 20000 in
set_option maxHeartbeats 1000000 in
theorem eParse_long (hs : 2048 < s.size) (hs2 : s.size ≤ 140737488351232) : Calls Tryz.prog 25 #[.string s] w (Says3 (XT.zero, 0, 7) w) := by
  go_enter Tryz.func25, Tryz.ntmps25
  go_wp2_with fail
  exact bodyPost_ret (v := .tuple #[XT.zero.agg (.slice none 0 0) (.slice none 0 0) (.slice none 0 0), .int .i64 0, .int .i64 7]) (by simp [results, Tryz.results25, go_sem]; exact ⟨rfl, rfl, rfl, rfl, rfl, rfl⟩) rfl ⟨_, _, _, rfl, XT.zero_rep _ _, (Keeps.refl _ _).alloc _⟩
set_option maxRecDepth 20000 in
set_option maxHeartbeats 1500000 in
theorem eParse_any (hs : s.size ≤ 2048) (hv : VarOk w) (hr : Par s (.lev 0) 0 r) : Calls Tryz.prog 25 #[.string s] w (Says3 (parseR s r) w) := by
  have hvl := varOk_lt hv
  have HW0 : Hid (Keeps [] w ((w.alloc (.cells zero9 52)).alloc (.cells #[.string s, .int .i64 0, .int .i64 0, .int .i64 0] 97)) ∧ PAt s 0 0 0 (w.heap.size + 1) ((w.alloc (.cells zero9 52)).alloc (.cells #[.string s, .int .i64 0, .int .i64 0, .int .i64 0] 97)) ∧
      ((w.alloc (.cells zero9 52)).alloc (.cells #[.string s, .int .i64 0, .int .i64 0, .int .i64 0] 97)).heap[w.heap.size]? = some (.cells zero9 52 (0, 0))) := Lib.hid ⟨((Keeps.refl _ _).alloc _).alloc _, new_blk1 _ _ _, hk_alloc (new_blk _ _) _⟩
  have HP := Lib.hid (eparse_all s 0 (w.heap.size + 1) (by omega) (by omega) _ (.lev 0) 0 r _ (Nat.le_refl _) (Int.le_refl _) (by omega) hr HW0.out.2.1 (hv.keeps HW0.out.1 (by simp)) _ rfl)
  have HR := Lib.hid hr
  clear hv hr hvl
  go_enter Tryz.func25, Tryz.ntmps25
  go_wp2_with fail
  refine HP.out.mono ?_
  rintro e1 w2 hx
  obtain ⟨T, vi, vk, va, rfl, hrep, hk1, hm1⟩ := psays_at hx
  obtain ⟨a1, c1, a2, c2, a3, c3, rfl, rfl, rfl⟩ := xrep_shape hrep
  cases r with
  | err p c =>
    have hc : c ≠ 0 := par_code HR.out
    obtain ⟨a, ha0, ha1, hpa⟩ : ∃ a : Int, 0 ≤ a ∧ a ≤ s.size ∧ PAt s a p c (w.heap.size + 1) w2 := hm1
    have HX := Lib.hid (px_new (b := w.heap.size + 1) HW0.out.1 HW0.out.2.2 (Nat.lt_succ_self _) (by simp) hrep hk1 hpa)
    have hsz : w.heap.size + 1 < w2.heap.size := by have := hk1.size; simp at this; omega
    clear hx hrep hk1 hpa HP
    go_upto_region 5 with fail
    refine abs_world (F := fun W => PX s a p c (w.heap.size + 1) w2.heap.size T (.slice a1 T.lit.its.length c1) (.slice a2 T.lit.ks.length c2) (.slice a3 T.args.length c3) w W) HX.out (fun W3 HW3 => ?_)
    have H3 := Lib.hid HW3
    clear HW3 HX
    have gp := cell_blk H3.out.pat
    have gb := cell_blk H3.out.box
    have gbf := frozen_blk H3.out.box
    have hl1 := hk_lt H3.out.box
    have hl2 := hk_lt H3.out.pat
    have HA := Lib.hid (eahead_any s a p c (w.heap.size + 1) W3 H3.out.pat ha0 (by omega))
    have HF := Lib.hid (fail_no s a p c (blanks s a) 1 (w.heap.size + 1) W3 H3.out.pat hc)
    have e1 : (c != 0) = true := by simpa using hc
    have HZD := Lib.hid H3.out.zerD
    clear hc
    generalize blanks s a = q at *
    go_upto_region 8 with (first
      | (go_at_call 46; refine HA.out.mono ?_; rintro e' w' ⟨rfl, rfl⟩)
      | (go_at_call 47; refine HF.out.mono ?_; rintro e' w' ⟨rfl, rfl⟩))
    all_goals go_region_law (fail)
    all_goals
      refine ‹∀ (a : Act) (w : World), _ → _› _ _ ?_
      go_wp2_with fail
      simp only [Act.put, List.getElem_toArray, List.getElem_cons_succ, List.getElem_cons_zero, List.setIfInBounds_toArray, List.set_cons_zero, List.set_cons_succ]
      refine abs_post (F := ZerD w) HZD.out (fun W hW => ?_)
      have cr := cell_blk hW.1
      exact bodyPost_ret (v := .tuple #[XT.zero.agg (.slice none 0 0) (.slice none 0 0) (.slice none 0 0), .int .i64 p, .int .i64 c]) (by simp [results, Tryz.results25, go_sem, cr]; exact ⟨rfl, rfl, rfl, rfl, rfl, rfl⟩) rfl ⟨_, _, _, rfl, XT.zero_rep _ _, hW.2⟩
  | ok U p =>
    obtain ⟨hT, hpa⟩ : T = U ∧ PAt s p 0 0 (w.heap.size + 1) w2 := hm1
    subst hT
    have hp := par_pos HR.out (Int.le_refl _) (by omega)
    have hp1 : 0 ≤ p := hp.1.1
    have hp2 : p ≤ s.size := hp.1.2
    have HX := Lib.hid (px_new (b := w.heap.size + 1) HW0.out.1 HW0.out.2.2 (Nat.lt_succ_self _) (by simp) hrep hk1 hpa)
    have hsz : w.heap.size + 1 < w2.heap.size := by have := hk1.size; simp at this; omega
    have hgd : XGood T := par_good HR.out (by simp [goodG]) (Int.le_refl _) (by omega)
    have hdp : (T.depth : Int) ≤ p - 0 := par_deep HR.out (Int.le_refl _) (by omega)
    have HGD := Lib.hid hgd
    clear hx hrep hk1 hpa HP hp hgd
    go_upto_region 5 with fail
    refine abs_world (F := fun W => PX s p 0 0 (w.heap.size + 1) w2.heap.size T (.slice a1 T.lit.its.length c1) (.slice a2 T.lit.ks.length c2) (.slice a3 T.args.length c3) w W) HX.out (fun W3 HW3 => ?_)
    have H3 := Lib.hid HW3
    clear HW3 HX
    have gp := cell_blk H3.out.pat
    have gx := cell_blk H3.out.blk
    have gb := cell_blk H3.out.box
    have gbf := frozen_blk H3.out.box
    have hl1 := hk_lt H3.out.box
    have hl2 := hk_lt H3.out.pat
    have HA := Lib.hid (eahead_any s p 0 0 (w.heap.size + 1) W3 H3.out.pat hp1 (by omega))
    by_cases hq : blanks s p < s.size
    · have HF := Lib.hid (fail_yes s p 0 (blanks s p) 1 (w.heap.size + 1) W3 H3.out.pat)
      have HRE : Hid (parseR s (.ok T p) = (XT.zero, blanks s p, 1)) := Lib.hid (by simp only [parseR]; rw [if_pos hq])
      have hd : decide (blanks s p < (s.size : Int)) = true := decide_eq_true hq
      generalize blanks s p = q at *
      generalize parseR s (.ok T p) = pr at *
      go_upto_region 8 with (first
        | (go_at_call 46; refine HA.out.mono ?_; rintro e' w' ⟨rfl, rfl⟩)
        | (go_at_call 47; refine HF.out.mono ?_; rintro e' w4 ⟨rfl, hp4, hk4⟩; have H4 := Lib.hid (H3.out.to hk4 hp4 (Nat.lt_succ_self _) hsz); clear hp4 hk4; have gp4 := cell_blk H4.out.pat; have gb4 := cell_blk H4.out.box; have gbf4 := frozen_blk H4.out.box))
      have HZD := Lib.hid H4.out.zerD
      go_region_law (fail)
      all_goals
        refine ‹∀ (a : Act) (w : World), _ → _› _ _ ?_
        go_wp2_with fail
        simp only [Act.put, List.getElem_toArray, List.getElem_cons_succ, List.getElem_cons_zero, List.setIfInBounds_toArray, List.set_cons_zero, List.set_cons_succ]
        refine abs_post (F := ZerD w) HZD.out (fun W hW => ?_)
        have cr := cell_blk hW.1
        exact bodyPost_ret (v := .tuple #[XT.zero.agg (.slice none 0 0) (.slice none 0 0) (.slice none 0 0), .int .i64 q, .int .i64 1]) (by simp [results, Tryz.results25, go_sem, cr]; exact ⟨rfl, rfl, rfl, rfl, rfl, rfl⟩) rfl (by rw [HRE.out]; exact ⟨_, _, _, rfl, XT.zero_rep _ _, hW.2⟩)
    · have hd : decide (blanks s p < (s.size : Int)) = false := decide_eq_false hq
      have HDE := Lib.hid (fun (W : World) (k : Keeps [] W3 W) => edepth_any 1000000 T _ _ _ _ W (by omega) (Nat.le_refl _) HGD.out (H3.out.go k).rep)
      by_cases h32 : 32 < T.depth
      · have HRE : Hid (parseR s (.ok T p) = (XT.zero, 0, 6)) := Lib.hid (by simp only [parseR]; rw [if_neg hq, if_pos h32])
        generalize blanks s p = q at *
        generalize parseR s (.ok T p) = pr at *
        go_wp2_with (first
          | (go_at_call 46; refine HA.out.mono ?_; rintro e' w' ⟨rfl, rfl⟩)
          | (go_at_call 32; refine (HDE.out _ (Keeps.refl _ _)).mono ?_; rintro e' w4 ⟨rfl, hk4⟩; have H4 := Lib.hid (H3.out.go hk4); clear hk4; have gb4 := cell_blk H4.out.box; have gbf4 := frozen_blk H4.out.box))
        have HZ := Lib.hid H4.out.zer
        refine abs_post (F := fun W => W.heap[w.heap.size]? = some (.cells zero9 52 (0, 0)) ∧ Keeps [] w W) HZ.out (fun W hW => ?_)
        have cr := cell_blk hW.1
        exact bodyPost_ret (v := .tuple #[XT.zero.agg (.slice none 0 0) (.slice none 0 0) (.slice none 0 0), .int .i64 0, .int .i64 6]) (by simp [results, Tryz.results25, go_sem, cr]; exact ⟨rfl, rfl, rfl, rfl, rfl, rfl⟩) rfl (by rw [HRE.out]; exact ⟨_, _, _, rfl, XT.zero_rep _ _, hW.2⟩)
      · have HRE : Hid (parseR s (.ok T p) = (T, 0, 0)) := Lib.hid (by simp only [parseR]; rw [if_neg hq, if_neg h32])
        generalize blanks s p = q at *
        generalize parseR s (.ok T p) = pr at *
        go_wp2_with (first
          | (go_at_call 46; refine HA.out.mono ?_; rintro e' w' ⟨rfl, rfl⟩)
          | (go_at_call 32; refine (HDE.out _ (Keeps.refl _ _)).mono ?_; rintro e' w4 ⟨rfl, hk4⟩; have H4 := Lib.hid (H3.out.go hk4); clear hk4; have gb4 := cell_blk H4.out.box; have gbf4 := frozen_blk H4.out.box; have gx4 := cell_blk H4.out.blk))
        have HZ := Lib.hid (H4.out.ret (Nat.lt_succ_self _))
        refine abs_post (F := fun W => W.heap[w.heap.size]? = some (.cells (T.nine (.slice a1 T.lit.its.length c1) (.slice a2 T.lit.ks.length c2) (.slice a3 T.args.length c3)) 52 (0, 0)) ∧ T.Rep W (w.heap.size ≤ ·) (.slice a1 T.lit.its.length c1) (.slice a2 T.lit.ks.length c2) (.slice a3 T.args.length c3) ∧ Keeps [] w W) HZ.out (fun W hW => ?_)
        have cr := cell_blk hW.1
        exact bodyPost_ret (v := .tuple #[T.agg (.slice a1 T.lit.its.length c1) (.slice a2 T.lit.ks.length c2) (.slice a3 T.args.length c3), .int .i64 0, .int .i64 0]) (by simp [results, Tryz.results25, go_sem, cr]) rfl (by rw [HRE.out]; exact ⟨_, _, _, rfl, hW.2.1, hW.2.2⟩)
end
end Go.Proofs.YtdlkdecigpaaaaaGreatDoor
