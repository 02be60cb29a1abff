/- Numbers as figures of four decimal digits, in plain words. -/
import Derived.Test.YtdlkdecigpaaaaaGreatDoorMg1
namespace Go.Proofs.YtdlkdecigpaaaaaGreatDoor
set_option linter.unusedVariables false
set_option linter.unusedSimpArgs false
open Go.RowKit

/-- What figures are, the lowest first. -/
def valF : List Int → Int
  | [] => 0
  | a :: r => a + 10000 * valF r
def Dig (l : List Int) : Prop := ∀ x ∈ l, 0 ≤ x ∧ x ≤ 9999
/-- Figures without noughts at the high end. -/
def Can (l : List Int) : Prop := Dig l ∧ l.getLast? ≠ some 0
theorem Dig.cons {a : Int} {r : List Int} (h : Dig (a :: r)) : (0 ≤ a ∧ a ≤ 9999) ∧ Dig r := ⟨h a (.head _), fun x hx => h x (.tail _ hx)⟩
theorem Dig.app {l m : List Int} (h : Dig l) (k : Dig m) : Dig (l ++ m) := fun x hx => (List.mem_append.1 hx).elim (h x) (k x)
theorem Dig.one {a : Int} (h : 0 ≤ a ∧ a ≤ 9999) : Dig [a] := fun x hx => by simp at hx; subst hx; exact h
theorem Dig.take {l : List Int} (h : Dig l) (k : Nat) : Dig (l.take k) := fun x hx => h x (List.mem_of_mem_take hx)
theorem valF_nonneg : ∀ {l : List Int}, Dig l → 0 ≤ valF l
  | [], _ => by simp [valF]
  | a :: r, h => by
    have := valF_nonneg h.cons.2
    have := h.cons.1
    simp only [valF]; omega
theorem valF_app : ∀ (l m : List Int), valF (l ++ m) = valF l + 10000 ^ l.length * valF m
  | [], m => by simp [valF]
  | a :: r, m => by
    simp only [List.cons_append, valF, valF_app r m, List.length_cons, Int.pow_succ]
    rw [Int.mul_comm (10000 ^ r.length) 10000, Int.mul_assoc, Int.mul_add, Int.add_assoc]
theorem pow_pos' (k : Nat) : (0 : Int) < 10000 ^ k := Int.pow_pos (by omega)
theorem valF_lt : ∀ {l : List Int}, Dig l → valF l < 10000 ^ l.length
  | [], _ => by simp [valF]
  | a :: r, h => by
    have := valF_lt h.cons.2
    have := h.cons.1
    simp only [valF, List.length_cons, Int.pow_succ]; omega
theorem valF_pos : ∀ {l : List Int}, Can l → l ≠ [] → 0 < valF l
  | [], _, h => absurd rfl h
  | [a], h, _ => by
    have h1 := h.1.cons.1
    have : a ≠ 0 := fun e => h.2 (by rw [e]; rfl)
    simp only [valF]; omega
  | a :: b :: r, h, _ => by
    have h1 := h.1.cons.1
    have := valF_pos (l := b :: r) ⟨h.1.cons.2, by have := h.2; rwa [List.getLast?_cons_cons] at this⟩ (by simp)
    simp only [valF] at this ⊢; omega
/-- Clean figures are told by what they are. -/
theorem can_inj : ∀ {l m : List Int}, Can l → Can m → valF l = valF m → l = m
  | [], [], _, _, _ => rfl
  | [], b :: r, _, k, h => by have := valF_pos k (by simp); simp only [valF] at *; omega
  | a :: r, [], h, _, e => by have := valF_pos h (by simp); simp only [valF] at *; omega
  | a :: r, b :: q, h, k, e => by
    have h1 := h.1.cons.1
    have k1 := k.1.cons.1
    simp only [valF] at e
    have hab : a = b := by omega
    have hv : valF r = valF q := by omega
    have hc : ∀ {x : Int} {l : List Int}, Can (x :: l) → Can l := by
      intro x l hl
      refine ⟨hl.1.cons.2, ?_⟩
      cases l with
      | nil => simp
      | cons y z => have := hl.2; rwa [List.getLast?_cons_cons] at this
    rw [hab, can_inj (hc h) (hc k) hv]
/-- How many are left without the noughts at the high end. -/
def trimF (l : List Int) : Nat → Nat
  | 0 => 0
  | k + 1 => if l[k]? = some 0 then trimF l k else k + 1
theorem trim_le (l : List Int) : ∀ k, trimF l k ≤ k
  | 0 => Nat.le_refl _
  | k + 1 => by unfold trimF; split; exact Nat.le_succ_of_le (trim_le l k); exact Nat.le_refl _
theorem trim_val (l : List Int) : ∀ k, k ≤ l.length → valF (l.take (trimF l k)) = valF (l.take k)
  | 0, _ => rfl
  | k + 1, h => by
    unfold trimF
    split
    · rename_i h0
      rw [trim_val l k (by omega), List.take_add_one, h0]
      simp [valF_app, valF]
    · rfl
theorem trim_can {l : List Int} (h : Dig l) : ∀ k, k ≤ l.length → Can (l.take (trimF l k))
  | 0, _ => ⟨by simp [trimF, Dig], by simp [trimF]⟩
  | k + 1, hk => by
    unfold trimF
    split
    · exact trim_can h k (by omega)
    · rename_i h0
      refine ⟨h.take _, ?_⟩
      rw [List.getLast?_take, if_neg (by omega)]
      obtain ⟨x, hx⟩ : ∃ x, l[k]? = some x := ⟨l[k], List.getElem?_eq_getElem (by omega)⟩
      rw [Nat.add_sub_cancel, hx]
      intro e; simp at e; exact h0 (by rw [hx, e])
/-- The figures of both, with what is over. -/
def stepF (f : Int) : Int × Int := if f ≥ 10000 then (f - 10000, 1) else if f < 0 then (f + 10000, -1) else (f, 0)
def bothF (sign : Int) : Int → List Int → List Int → List Int × Int
  | o, [], [] => ([], o)
  | o, a :: r, [] => let s := stepF (o + a); let t := bothF sign s.2 r []; (s.1 :: t.1, t.2)
  | o, [], b :: q => let s := stepF (o + sign * b); let t := bothF sign s.2 [] q; (s.1 :: t.1, t.2)
  | o, a :: r, b :: q => let s := stepF (o + a + sign * b); let t := bothF sign s.2 r q; (s.1 :: t.1, t.2)
theorem stepF_val (f : Int) : (stepF f).1 + 10000 * (stepF f).2 = f := by unfold stepF; split; simp only; omega; split <;> simp only <;> omega
theorem stepF_dig {f : Int} (h1 : -10000 ≤ f) (h2 : f ≤ 19999) : (0 ≤ (stepF f).1 ∧ (stepF f).1 ≤ 9999) ∧ -1 ≤ (stepF f).2 ∧ (stepF f).2 ≤ 1 := by
  unfold stepF; split; simp only; omega; split <;> simp only <;> omega
theorem stepF_over1 {f : Int} (h1 : 0 ≤ f) : 0 ≤ (stepF f).2 := by unfold stepF; split; simp only; omega; split <;> simp only <;> omega
theorem stepF_overm {f : Int} (h1 : f ≤ 9999) : (stepF f).2 ≤ 0 := by unfold stepF; split; simp only; omega; split <;> simp only <;> omega
theorem both_len (sign : Int) : ∀ (o : Int) (a b : List Int), (bothF sign o a b).1.length = max a.length b.length
  | o, [], [] => by simp [bothF]
  | o, a :: r, [] => by
    have := both_len sign (stepF (o + a)).2 r []
    simp only [bothF, List.length_cons, this]; simp
  | o, [], b :: q => by
    have := both_len sign (stepF (o + sign * b)).2 [] q
    simp only [bothF, List.length_cons, this]; simp
  | o, a :: r, b :: q => by
    have := both_len sign (stepF (o + a + sign * b)).2 r q
    simp only [bothF, List.length_cons, this]; omega
termination_by o a b => a.length + b.length
theorem both_val (sign : Int) : ∀ (o : Int) (a b : List Int), valF (bothF sign o a b).1 + 10000 ^ (max a.length b.length) * (bothF sign o a b).2 = o + valF a + sign * valF b
  | o, [], [] => by simp [bothF, valF]
  | o, a :: r, [] => by
    have ih := both_val sign (stepF (o + a)).2 r []
    have hs := stepF_val (o + a)
    simp only [bothF, valF, List.length_cons, List.length_nil, Nat.max_zero, Int.pow_succ, Int.mul_zero, Int.add_zero] at ih ⊢
    rw [Int.mul_comm (10000 ^ r.length) 10000, Int.mul_assoc]
    omega
  | o, [], b :: q => by
    have ih := both_val sign (stepF (o + sign * b)).2 [] q
    have hs := stepF_val (o + sign * b)
    simp only [bothF, valF, List.length_cons, List.length_nil, Nat.zero_max, Int.pow_succ, Int.add_zero] at ih ⊢
    rw [Int.mul_comm (10000 ^ q.length) 10000, Int.mul_assoc, Int.mul_add, Int.mul_left_comm sign 10000]
    omega
  | o, a :: r, b :: q => by
    have ih := both_val sign (stepF (o + a + sign * b)).2 r q
    have hs := stepF_val (o + a + sign * b)
    have hm : max (r.length + 1) (q.length + 1) = max r.length q.length + 1 := by omega
    simp only [bothF, valF, List.length_cons, hm, Int.pow_succ] at ih ⊢
    rw [Int.mul_comm (10000 ^ max r.length q.length) 10000, Int.mul_assoc, Int.mul_add sign, Int.mul_left_comm sign 10000]
    omega
theorem both_dig {sign : Int} (hs : sign = 1 ∨ sign = -1) : ∀ {o : Int} {a b : List Int}, (-1 ≤ o ∧ o ≤ 1) → Dig a → Dig b → Dig (bothF sign o a b).1
  | o, [], [], _, _, _ => by simp [bothF, Dig]
  | o, a :: r, [], ho, ha, hb => by
    have h1 := ha.cons.1
    have h2 := stepF_dig (f := o + a) (by omega) (by omega)
    have := both_dig hs (o := (stepF (o + a)).2) (a := r) (b := []) h2.2 ha.cons.2 hb
    intro x hx
    simp only [bothF, List.mem_cons] at hx
    rcases hx with rfl | hx
    · exact h2.1
    · exact this x hx
  | o, [], b :: q, ho, ha, hb => by
    have h1 := hb.cons.1
    have h2 := stepF_dig (f := o + sign * b) (by rcases hs with rfl | rfl <;> omega) (by rcases hs with rfl | rfl <;> omega)
    have := both_dig hs (o := (stepF (o + sign * b)).2) (a := []) (b := q) h2.2 ha hb.cons.2
    intro x hx
    simp only [bothF, List.mem_cons] at hx
    rcases hx with rfl | hx
    · exact h2.1
    · exact this x hx
  | o, a :: r, b :: q, ho, ha, hb => by
    have h1 := ha.cons.1
    have h3 := hb.cons.1
    have h2 := stepF_dig (f := o + a + sign * b) (by rcases hs with rfl | rfl <;> omega) (by rcases hs with rfl | rfl <;> omega)
    have := both_dig hs (o := (stepF (o + a + sign * b)).2) (a := r) (b := q) h2.2 ha.cons.2 hb.cons.2
    intro x hx
    simp only [bothF, List.mem_cons] at hx
    rcases hx with rfl | hx
    · exact h2.1
    · exact this x hx

theorem both_over {sign : Int} (hs : sign = 1 ∨ sign = -1) : ∀ {o : Int} {a b : List Int}, (-1 ≤ o ∧ o ≤ 1) → Dig a → Dig b → -1 ≤ (bothF sign o a b).2 ∧ (bothF sign o a b).2 ≤ 1
  | o, [], [], ho, _, _ => by simpa [bothF] using ho
  | o, a :: r, [], ho, ha, hb => by
    have h1 := ha.cons.1
    have h2 := stepF_dig (f := o + a) (by omega) (by omega)
    simpa only [bothF] using both_over hs (o := (stepF (o + a)).2) (a := r) (b := []) h2.2 ha.cons.2 hb
  | o, [], b :: q, ho, ha, hb => by
    have h1 := hb.cons.1
    have h2 := stepF_dig (f := o + sign * b) (by rcases hs with rfl | rfl <;> omega) (by rcases hs with rfl | rfl <;> omega)
    simpa only [bothF] using both_over hs (o := (stepF (o + sign * b)).2) (a := []) (b := q) h2.2 ha hb.cons.2
  | o, a :: r, b :: q, ho, ha, hb => by
    have h1 := ha.cons.1
    have h3 := hb.cons.1
    have h2 := stepF_dig (f := o + a + sign * b) (by rcases hs with rfl | rfl <;> omega) (by rcases hs with rfl | rfl <;> omega)
    simpa only [bothF] using both_over hs (o := (stepF (o + a + sign * b)).2) (a := r) (b := q) h2.2 ha.cons.2 hb.cons.2
def bothL (sign : Int) (a b : List Int) : List Int := if 0 < (bothF sign 0 a b).2 then (bothF sign 0 a b).1 ++ [(bothF sign 0 a b).2] else (bothF sign 0 a b).1
theorem bothL_dig {sign : Int} (hs : sign = 1 ∨ sign = -1) {a b : List Int} (ha : Dig a) (hb : Dig b) : Dig (bothL sign a b) := by
  have h := both_dig hs (o := 0) (by omega) ha hb
  have h2 := both_over hs (o := 0) (by omega) ha hb
  unfold bothL; split
  · exact h.app (Dig.one (by omega))
  · exact h
theorem bothL_len (sign : Int) (a b : List Int) : (bothL sign a b).length ≤ max a.length b.length + 1 := by
  unfold bothL; split
  · rw [List.length_append, both_len]; simp
  · rw [both_len]; omega
theorem bothL_add {a b : List Int} (ha : Dig a) (hb : Dig b) : valF (bothL 1 a b) = valF a + valF b := by
  have hv := both_val 1 0 a b
  have ho := both_over (.inl rfl) (o := 0) (by omega) ha hb
  have hd := both_dig (.inl rfl) (o := 0) (by omega) ha hb
  have hl := valF_lt hd
  have ha0 := valF_nonneg ha
  have hb0 := valF_nonneg hb
  have hlen := both_len 1 0 a b
  rw [both_len] at hl
  rw [Int.one_mul, Int.zero_add] at hv
  unfold bothL
  have hp := pow_pos' (max a.length b.length)
  generalize bothF 1 0 a b = t at *
  obtain ⟨d, o⟩ := t
  simp only at *
  by_cases h : 0 < o
  · rw [if_pos h, valF_app]
    obtain rfl : o = 1 := by omega
    simp only [valF]
    rw [hlen]; omega
  · rw [if_neg h]
    by_cases h2 : o = 0
    · subst h2; omega
    · obtain rfl : o = -1 := by omega
      omega
theorem bothL_sub {a b : List Int} (ha : Dig a) (hb : Dig b) (hle : valF b ≤ valF a) : valF (bothL (-1) a b) = valF a - valF b := by
  have hv := both_val (-1) 0 a b
  have ho := both_over (.inr rfl) (o := 0) (by omega) ha hb
  have hd := both_dig (.inr rfl) (o := 0) (by omega) ha hb
  have hl := valF_lt hd
  have hd0 := valF_nonneg hd
  have hb0 := valF_nonneg hb
  have hla := valF_lt ha
  have hlen := both_len (-1) 0 a b
  have hpa : (10000 : Int) ^ a.length ≤ 10000 ^ (max a.length b.length) := by
    have : max a.length b.length = a.length + (max a.length b.length - a.length) := by omega
    rw [this, Int.pow_add]
    have h1 := pow_pos' a.length
    have h2 := pow_pos' (max a.length b.length - a.length)
    have h3 : (10000 : Int) ^ a.length * 1 ≤ 10000 ^ a.length * 10000 ^ (max a.length b.length - a.length) := Int.mul_le_mul_of_nonneg_left (by omega) (by omega)
    omega
  rw [both_len] at hl
  rw [Int.zero_add] at hv
  unfold bothL
  generalize bothF (-1) 0 a b = t at *
  obtain ⟨d, o⟩ := t
  simp only at *
  by_cases h : 0 < o
  · obtain rfl : o = 1 := by omega
    omega
  · rw [if_neg h]
    by_cases h2 : o = 0
    · subst h2; omega
    · obtain rfl : o = -1 := by omega
      omega
/-- One round of 'both'. -/
def dgt (l : List Int) (i : Nat) : Int := l.getD i 0
theorem both_round (sign o : Int) (a b : List Int) (i : Nat) (h : i < a.length ∨ i < b.length) :
    bothF sign o (a.drop i) (b.drop i) = ((stepF (o + dgt a i + sign * dgt b i)).1 :: (bothF sign (stepF (o + dgt a i + sign * dgt b i)).2 (a.drop (i + 1)) (b.drop (i + 1))).1, (bothF sign (stepF (o + dgt a i + sign * dgt b i)).2 (a.drop (i + 1)) (b.drop (i + 1))).2) := by
  have hx : ∀ l : List Int, i < l.length → l.drop i = dgt l i :: l.drop (i + 1) := by
    intro l hl
    rw [List.drop_eq_getElem_cons hl, dgt, List.getD_eq_getElem?_getD, List.getElem?_eq_getElem hl]; rfl
  have hy : ∀ l : List Int, ¬ i < l.length → l.drop i = [] ∧ l.drop (i + 1) = [] ∧ dgt l i = 0 := by
    intro l hl
    refine ⟨List.drop_of_length_le (by omega), List.drop_of_length_le (by omega), ?_⟩
    rw [dgt, List.getD_eq_getElem?_getD, List.getElem?_eq_none (by omega)]; rfl
  by_cases ha : i < a.length
  · by_cases hb : i < b.length
    · rw [hx a ha, hx b hb]; simp only [bothF]
    · obtain ⟨e1, e2, e3⟩ := hy b hb
      rw [hx a ha, e1, e2, e3]; simp only [bothF, Int.mul_zero, Int.add_zero]
  · obtain ⟨e1, e2, e3⟩ := hy a ha
    by_cases hb : i < b.length
    · rw [hx b hb, e1, e2, e3]; simp only [bothF, Int.add_zero]
    · omega
theorem dgt_range {l : List Int} (h : Dig l) (i : Nat) : 0 ≤ dgt l i ∧ dgt l i ≤ 9999 := by
  rw [dgt, List.getD_eq_getElem?_getD]
  cases hx : l[i]? with
  | none => simp
  | some x => exact h x (List.mem_of_getElem? hx)
theorem dgt_at {l : List Int} {i : Nat} (h : i < l.length) : l[i]? = some (dgt l i) := by rw [dgt, List.getD_eq_getElem?_getD, List.getElem?_eq_getElem h]; rfl
theorem dgt_out {l : List Int} {i : Nat} (h : ¬ i < l.length) : dgt l i = 0 := by rw [dgt, List.getD_eq_getElem?_getD, List.getElem?_eq_none (by omega)]; rfl
/-- Which figures are less, of the same length, from the high end on. -/
def lessFrom (a b : List Int) : Nat → Bool
  | 0 => false
  | k + 1 => if dgt a k ≠ dgt b k then decide (dgt a k < dgt b k) else lessFrom a b k
def lessL (a b : List Int) : Bool := if a.length ≠ b.length then decide (a.length < b.length) else lessFrom a b a.length
theorem lessFrom_val {a b : List Int} (ha : Dig a) (hb : Dig b) : ∀ k, k ≤ a.length → k ≤ b.length → lessFrom a b k = decide (valF (a.take k) < valF (b.take k))
  | 0, _, _ => by simp [lessFrom, valF]
  | k + 1, h1, h2 => by
    have ih := lessFrom_val ha hb k (by omega) (by omega)
    have ea : a.take (k + 1) = a.take k ++ [dgt a k] := by rw [List.take_add_one, dgt_at (by omega)]; rfl
    have eb : b.take (k + 1) = b.take k ++ [dgt b k] := by rw [List.take_add_one, dgt_at (by omega)]; rfl
    have la : (a.take k).length = k := by rw [List.length_take]; omega
    have lb : (b.take k).length = k := by rw [List.length_take]; omega
    have va := valF_lt (ha.take k); rw [la] at va
    have vb := valF_lt (hb.take k); rw [lb] at vb
    have na := valF_nonneg (ha.take k)
    have nb := valF_nonneg (hb.take k)
    have hp := pow_pos' k
    rw [ea, eb, valF_app, valF_app, la, lb, lessFrom]
    simp only [valF, Int.mul_zero, Int.add_zero]
    generalize dgt a k = x at *
    generalize dgt b k = y at *
    generalize valF (a.take k) = u at *
    generalize valF (b.take k) = v at *
    generalize (10000 : Int) ^ k = p at *
    by_cases e : x = y
    · subst e; rw [if_neg (by simp), ih]; rw [Bool.eq_iff_iff]; simp
    · rw [if_pos e, Bool.eq_iff_iff]
      simp only [decide_eq_true_eq]
      constructor
      · intro h
        have : p * (x + 1) ≤ p * y := Int.mul_le_mul_of_nonneg_left (by omega) (by omega)
        rw [Int.mul_add, Int.mul_one] at this; omega
      · intro h
        by_cases h' : x < y
        · exact h'
        · have : p * (y + 1) ≤ p * x := Int.mul_le_mul_of_nonneg_left (by omega) (by omega)
          rw [Int.mul_add, Int.mul_one] at this; omega
theorem valF_ge : ∀ {l : List Int}, Can l → l ≠ [] → 10000 ^ (l.length - 1) ≤ valF l
  | [], _, h => absurd rfl h
  | [a], h, _ => by have := valF_pos h (by simp); simp only [valF] at *; simp; omega
  | a :: b :: r, h, _ => by
    have h1 := h.1.cons.1
    have ih := valF_ge (l := b :: r) ⟨h.1.cons.2, by have := h.2; rwa [List.getLast?_cons_cons] at this⟩ (by simp)
    have e : (a :: b :: r).length - 1 = ((b :: r).length - 1) + 1 := by simp
    rw [e, Int.pow_succ]
    simp only [valF] at ih ⊢
    omega
theorem lessL_val {a b : List Int} (ha : Can a) (hb : Can b) : lessL a b = decide (valF a < valF b) := by
  have hlt : ∀ {a b : List Int}, Can a → Can b → a.length < b.length → valF a < valF b := by
    intro a b ha hb h
    have h1 := valF_lt ha.1
    have h2 := valF_ge hb (by intro e; rw [e] at h; simp at h)
    have h3 : (10000 : Int) ^ a.length ≤ 10000 ^ (b.length - 1) := by
      have : b.length - 1 = a.length + (b.length - 1 - a.length) := by omega
      rw [this, Int.pow_add]
      have h4 := pow_pos' a.length
      have h5 := pow_pos' (b.length - 1 - a.length)
      have h6 : (10000 : Int) ^ a.length * 1 ≤ 10000 ^ a.length * 10000 ^ (b.length - 1 - a.length) := Int.mul_le_mul_of_nonneg_left (by omega) (by omega)
      omega
    omega
  unfold lessL
  by_cases h : a.length = b.length
  · rw [if_neg (by omega), lessFrom_val ha.1 hb.1 _ (Nat.le_refl _) (by omega), List.take_of_length_le (Nat.le_refl _), List.take_of_length_le (by omega)]
  · rw [if_pos h, Bool.eq_iff_iff]
    simp only [decide_eq_true_eq]
    constructor
    · exact hlt ha hb
    · intro h2
      by_cases h3 : a.length < b.length
      · exact h3
      · have := hlt hb ha (by omega); omega
end Go.Proofs.YtdlkdecigpaaaaaGreatDoor
