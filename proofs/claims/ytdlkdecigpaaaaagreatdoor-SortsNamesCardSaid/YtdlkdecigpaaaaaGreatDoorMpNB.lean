/- How many parts trees have; what is parsed has no more than its text is long. -/
import Derived.Test.YtdlkdecigpaaaaaGreatDoorMp30
namespace Go.Proofs.YtdlkdecigpaaaaaGreatDoor
set_option linter.unusedVariables false
set_option linter.unusedSimpArgs false
open Go.RowKit

mutual
def XT.cnt : XT → Nat
  | .mk _ _ _ l => XT.cntL l + 1
def XT.cntL : List XT → Nat
  | [] => 0
  | T :: l => T.cnt + XT.cntL l
end
theorem cnt_mk (o n : ByteArray) (v : VT) (l : List XT) : (XT.mk o n v l).cnt = XT.cntL l + 1 := by rw [XT.cnt]
theorem cnt_args (T : XT) : T.cnt = XT.cntL T.args + 1 := by cases T; exact cnt_mk _ _ _ _
theorem cntL_nil : XT.cntL [] = 0 := by rw [XT.cntL]
theorem cntL_cons (T : XT) (l : List XT) : XT.cntL (T :: l) = T.cnt + XT.cntL l := by rw [XT.cntL]
theorem cntL_snoc (l : List XT) (T : XT) : XT.cntL (l ++ [T]) = XT.cntL l + T.cnt := by
  induction l with
  | nil => rw [List.nil_append, cntL_cons, cntL_nil]; omega
  | cons a l ih => rw [List.cons_append, cntL_cons, cntL_cons, ih]; omega
theorem cntL_mem {l : List XT} {T : XT} (h : T ∈ l) : T.cnt ≤ XT.cntL l := by
  induction l with
  | nil => simp at h
  | cons a l ih =>
    rw [cntL_cons]
    rcases List.mem_cons.1 h with rfl | h
    · omega
    · have := ih h; omega
theorem cnt_pos (T : XT) : 1 ≤ T.cnt := by rw [cnt_args]; omega
theorem cnt_bin (op : ByteArray) (T U : XT) : (binT op T U).cnt = T.cnt + U.cnt + 1 := by unfold binT; rw [cnt_mk, cntL_cons, cntL_cons, cntL_nil]; omega
theorem cnt_one (op nm : ByteArray) (v : VT) (T : XT) : (XT.mk op nm v [T]).cnt = T.cnt + 1 := by rw [cnt_mk, cntL_cons, cntL_nil]
theorem cnt_leaf (op nm : ByteArray) (v : VT) : (XT.mk op nm v []).cnt = 1 := by rw [cnt_mk, cntL_nil]
/-- How many parts an answer may have. -/
def CntOk (g : G) (i : Int) : Res → Prop
  | .err _ _ => True
  | .ok T p => match g with
    | .more _ T0 => (T.cnt : Int) ≤ T0.cnt + (p - i)
    | .parts T0 => (T.cnt : Int) ≤ T0.cnt + (p - i)
    | .call _ l => (T.cnt : Int) ≤ (XT.cntL l : Int) + (p - i) + 1
    | _ => (T.cnt : Int) ≤ p - i
theorem numR_one {s : ByteArray} {q : Int} {T : XT} {p : Int} (h : numR s q = .ok T p) : T.cnt = 1 := by
  unfold numR at h
  split at h
  · cases h
  · split at h
    · cases h
    · split at h
      · cases h
      · cases h; exact cnt_leaf _ _ _
theorem textR_one {s : ByteArray} {q : Int} {T : XT} {p : Int} (h : textR s q = .ok T p) : T.cnt = 1 := by
  unfold textR at h
  split at h
  · cases h; exact cnt_leaf _ _ _
  · cases h
theorem wordR_one {s : ByteArray} {q : Int} {T : XT} {p : Int} (h : wordR s q = .ok T p) : T.cnt = 1 := by
  unfold wordR at h
  split at h
  · cases h; exact cnt_leaf _ _ _
  · split at h
    · cases h; exact cnt_leaf _ _ _
    · split at h
      · cases h; exact cnt_leaf _ _ _
      · split at h
        · cases h; exact cnt_leaf _ _ _
        · split at h
          · cases h
          · cases h; exact cnt_leaf _ _ _
theorem one_cnt {s : ByteArray} {i : Int} {r : Res} (h : PosOk s .one i r) (hl : ∀ T p, r = .ok T p → T.cnt = 1) (h0 : 0 ≤ i) (h1 : i ≤ s.size) : CntOk .one i r := by
  cases r with
  | err p c => trivial
  | ok T p => have h2 := h h0 h1; have h3 : i < p := h2.2; show (T.cnt : Int) ≤ p - i; rw [hl T p rfl]; omega
theorem cnt_case {g g' : G} {i e : Int} {r : Res} (h : CntOk g' e r) (k : ∀ T p, CntOk g' e (.ok T p) → CntOk g i (.ok T p)) : CntOk g i r := by
  cases r with
  | err => trivial
  | ok T p => exact k T p h
theorem cnt_par {s : ByteArray} {g g' : G} {i e : Int} {r : Res} (hp : PosOk s g' e r) (h : CntOk g' e r) (k : ∀ T p, PosOk s g' e (.ok T p) → CntOk g' e (.ok T p) → CntOk g i (.ok T p)) : CntOk g i r := by
  cases r with
  | err => trivial
  | ok T p => exact k T p hp h
theorem cnt_up {g : G} {n : Nat} {i e : Int} {r : Res} {op : ByteArray} (h : CntOk (.lev n) e r) (hi : i < e) : CntOk (.lev n) i (r.up op) := by
  cases r with
  | err => trivial
  | ok T p => simp only [CntOk, Res.up, unT] at *; rw [cnt_one]; omega
theorem par_cnt {s : ByteArray} {g : G} {i : Int} {r : Res} (h : Par s g i r) : 0 ≤ i → i ≤ s.size → CntOk g i r := by
  induction h with
  | lev_err => intro _ _; trivial
  | lev_ok _ h k ih1 ih2 =>
    intro h0 h1
    have hp := par_pos h h0 h1
    have h3 := ih1 h0 h1
    have hp2 : _ < _ := hp.2
    have h4 := ih2 (by have := hp.1.1; omega) hp.1.2
    exact cnt_case h4 fun T p h5 => by simp only [CntOk] at *; omega
  | not_on hw h ih =>
    intro h0 h1
    have hp := word_pos h0 (by rw [hw]; decide)
    exact cnt_up (g := .one) (ih (by omega) hp.2) hp.1
  | not_no _ _ ih => intro h0 h1; exact cnt_case (ih h0 h1) fun T p h => h
  | neg_on hm h ih =>
    intro h0 h1
    have hp := mark_pos hm (by decide)
    exact cnt_up (g := .one) (ih (by omega) hp.2) hp.1
  | neg_no _ _ ih => intro h0 h1; exact cnt_case (ih h0 h1) fun T p h => h
  | more_end => intro _ _; simp only [CntOk]; omega
  | more_err => intro _ _; trivial
  | more_one hb h ih =>
    intro h0 h1
    have hp := betw_pos h0 hb
    have h3 := ih (by omega) hp.2
    have hq := par_pos h (by omega) hp.2
    have hq2 : _ < _ := hq.2
    simp only [CntOk] at *; rw [cnt_bin]; omega
  | more_on _ hb h _ ih1 ih2 =>
    intro h0 h1
    have hp := betw_pos h0 hb
    have h3 := ih1 (by omega) hp.2
    have hq := par_pos h (by omega) hp.2
    have hq2 : _ < _ := hq.2
    have h4 := ih2 (by omega) hq.1.2
    exact cnt_case h4 fun T p h5 => by simp only [CntOk] at *; rw [cnt_bin] at h5; omega
  | part_err => intro _ _; trivial
  | part_ok h k ih1 ih2 =>
    intro h0 h1
    have hp := par_pos h h0 h1
    have h3 := ih1 h0 h1
    have h4 := ih2 (by have := hp.1.1; omega) hp.1.2
    exact cnt_case h4 fun T p h5 => by simp only [CntOk] at *; omega
  | parts_end => intro _ _; simp only [CntOk]; omega
  | get_word hm hw _ ih =>
    intro h0 h1
    have h2 := mark_pos hm (by decide)
    have h3 := word_pos (by omega) hw
    have h4 := ih (by omega) h3.2
    exact cnt_case h4 fun T p h5 => by simp only [CntOk] at *; rw [cnt_one] at h5; omega
  | get_form => intro _ _; trivial
  | get_err => intro _ _; trivial
  | get_text hm _ hq _ hc _ ih =>
    intro h0 h1
    have h2 := mark_pos hm (by decide)
    rename_i T i q r _ _ _
    have h3 := blanks_ge s (markAt s i ⟨#[46]⟩)
    rw [← hq] at h3
    have h4 := str_pos (by omega) hc
    have h5 := ih (by omega) h4.2
    exact cnt_case h5 fun T p h6 => by simp only [CntOk] at *; rw [cnt_one] at h6; omega
  | at_err => intro _ _; trivial
  | at_form => intro _ _; trivial
  | at_on _ hm h hk _ ih1 ih2 =>
    intro h0 h1
    have h2 := mark_pos hm (by decide)
    have h3 := ih1 (by omega) h2.2
    have hp := par_pos h (by omega) h2.2
    have hp2 : _ < _ := hp.2
    have h4 := mark_pos hk (by decide)
    have h5 := ih2 (by omega) h4.2
    exact cnt_case h5 fun T p h6 => by simp only [CntOk] at *; rw [cnt_bin] at h6; omega
  | one_num hd => exact one_cnt (numR_pos hd) fun T p e => numR_one e
  | one_text _ => exact one_cnt textR_pos fun T p e => textR_one e
  | one_err => intro _ _; trivial
  | one_form => intro _ _; trivial
  | one_in hm h hk ih =>
    intro h0 h1
    have h2 := mark_pos hm (by decide)
    have h3 := ih (by omega) h2.2
    have h4 := mark_pos hk (by decide)
    simp only [CntOk] at *; omega
  | one_word _ _ _ _ => exact one_cnt wordR_pos fun T p e => wordR_one e
  | one_open => intro _ _; trivial
  | one_call ha hm h ih =>
    intro h0 h1
    have h2 := word_pos h0 (argsN_ne ha).1
    have h3 := mark_pos hm (by decide)
    exact cnt_par (par_pos h) (ih (by omega) h3.2) fun T p hp h4 => by
      have hp1 := (hp (by omega) h3.2).1.1
      simp only [CntOk, cntL_nil] at *
      omega
  | call_err => intro _ _; trivial
  | call_few => intro _ _; trivial
  | call_end h hm _ ih =>
    intro h0 h1
    have h3 := ih h0 h1
    have h4 := mark_pos hm (by decide)
    simp only [CntOk] at *; rw [cnt_mk, cntL_snoc]; omega
  | call_form => intro _ _; trivial
  | call_many => intro _ _; trivial
  | call_on h _ hm _ hr ih1 ih2 =>
    intro h0 h1
    have h3 := ih1 h0 h1
    have hp := par_pos h h0 h1
    have hp2 : _ < _ := hp.2
    have h4 := mark_pos hm (by decide)
    have h5 := ih2 (by omega) h4.2
    exact cnt_par (par_pos hr) h5 fun T p hq h6 => by
      have hq1 := (hq (by omega) h4.2).1.1
      simp only [CntOk, cntL_snoc] at *; omega
end Go.Proofs.YtdlkdecigpaaaaaGreatDoor
