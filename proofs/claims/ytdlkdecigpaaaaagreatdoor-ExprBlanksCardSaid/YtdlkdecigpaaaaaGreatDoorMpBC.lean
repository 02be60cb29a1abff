/- ExprBlanks: what is written has the same tree: plain words. -/
import Derived.Test.YtdlkdecigpaaaaaGreatDoorMpBB
namespace Go.Proofs.YtdlkdecigpaaaaaGreatDoor
set_option linter.unusedVariables false
set_option linter.unusedSimpArgs false
open Go.RowKit

/-- Where an expression is looked for, blanks ahead don't matter. -/
def startG : G → Bool
  | .lev _ => true
  | .part => true
  | .one => true
  | _ => false
theorem word_start {s : ByteArray} {i j : Int} (h : blanks s j = blanks s i) : wordAt s j = wordAt s i ∧ (wordAt s i ≠ eS → wordAtEnd s j = wordAtEnd s i) := by
  unfold wordAt wordAtEnd
  rw [h]
  cases letterAt s (blanks s i) with
  | false => exact ⟨rfl, fun h => absurd rfl h⟩
  | true => exact ⟨rfl, fun _ => rfl⟩
theorem mark_start {s : ByteArray} {i j : Int} (h : blanks s j = blanks s i) (t : ByteArray) : markAt s j t = markAt s i t := by unfold markAt; rw [h]
theorem wordR_start {s : ByteArray} {i j : Int} (h : blanks s j = blanks s i) : wordR s j = wordR s i := by
  obtain ⟨h1, h2⟩ := word_start h
  unfold wordR
  rw [h1, h]
  by_cases e : wordAt s i = eS
  · rw [e]
    rw [if_neg (by decide), if_neg (by decide), if_neg (by decide), if_neg (by decide), if_pos (.inl rfl), if_neg (by decide), if_neg (by decide), if_neg (by decide), if_neg (by decide), if_pos (.inl rfl)]
  · rw [h2 e]
theorem par_start {s : ByteArray} {g : G} {i : Int} {r : Res} (hp : Par s g i r) : startG g = true → ∀ j : Int, blanks s j = blanks s i → Par s g j r := by
  induction hp with
  | lev_err hl _ ih => intro _ j hb; exact .lev_err hl (ih rfl j hb)
  | lev_ok hl _ h2 ih1 _ => intro _ j hb; exact .lev_ok hl (ih1 rfl j hb) h2
  | not_on hw h _ =>
    intro _ j hb
    obtain ⟨a, b⟩ := word_start hb
    exact .not_on (by rw [a, hw]) (by rw [b (by rw [hw]; decide)]; exact h)
  | not_no hw _ ih => intro _ j hb; exact .not_no (by rw [(word_start hb).1]; exact hw) (ih rfl j hb)
  | neg_on hm h _ => intro _ j hb; exact .neg_on (by rw [mark_start hb]; exact hm) (by rw [mark_start hb]; exact h)
  | neg_no hm _ ih => intro _ j hb; exact .neg_no (by rw [mark_start hb]; exact hm) (ih rfl j hb)
  | part_err _ ih => intro _ j hb; exact .part_err (ih rfl j hb)
  | part_ok _ h2 ih1 _ => intro _ j hb; exact .part_ok (ih1 rfl j hb) h2
  | one_num hd => intro _ j hb; rw [← hb] at hd ⊢; exact .one_num hd
  | one_text hq => intro _ j hb; rw [← hb] at hq ⊢; exact .one_text hq
  | one_err hm h _ => intro _ j hb; exact .one_err (by rw [mark_start hb]; exact hm) (by rw [mark_start hb]; exact h)
  | one_form hm h hc _ => intro _ j hb; exact .one_form (by rw [mark_start hb]; exact hm) (by rw [mark_start hb]; exact h) hc
  | one_in hm h hc _ => intro _ j hb; exact .one_in (by rw [mark_start hb]; exact hm) (by rw [mark_start hb]; exact h) hc
  | one_word h1 h2 h3 h4 => intro _ j hb; rw [← wordR_start hb]; exact .one_word (by rw [hb]; exact h1) (by rw [hb]; exact h2) (by rw [mark_start hb]; exact h3) (by rw [(word_start hb).1]; exact h4)
  | one_open h1 h2 =>
    intro _ j hb
    obtain ⟨a, b⟩ := word_start hb
    rw [← b (arg_word h1)]
    exact .one_open (by rw [a]; exact h1) (by rw [b (arg_word h1)]; exact h2)
  | one_call h1 h2 h _ =>
    intro _ j hb
    obtain ⟨a, b⟩ := word_start hb
    exact .one_call (by rw [a]; exact h1) (by rw [b (arg_word h1)]; exact h2) (by rw [a, b (arg_word h1)]; exact h)
  | _ => intro h; cases h
section
variable {s : ByteArray} {T : XT} {p : Int}
theorem blank_par (g : List Nat) (h : Par s (.lev 0) 0 (.ok T p)) (hp : blanks s p = s.size) :
    (∃ p' : Int, Par (allB s g) (.lev 0) 0 (.ok T p') ∧ blanks (allB s g) p' = (allB s g).size) ∧ (stA s g s.size).q = false ∧ (stA s g s.size).e = false := by
  have ali := blank_ali s g
  have h0 : Out s g ((0 : Nat) : Int) := out_mk (Nat.zero_le _) rfl rfl
  obtain ⟨a, b⟩ := par_sim ali.sim h h0 _ _ rfl
  have hf0 : fB s g 0 = 1 := rfl
  have hz := all_size s g
  have hl := f_lt s g (i := 0) (Int.le_refl _) (by omega)
  have hb0 : bt (allB s g) 0 = 10 := by
    obtain ⟨r, hr⟩ := out_pre s g 0 s.size
    rw [Nat.zero_add] at hr
    unfold allB
    rw [hr, cat_as]
    have := bt_left (a := (⟨#[10]⟩ : ByteArray)) (b := r ++ ⟨#[32]⟩) (j := 0) (by decide)
    exact this.trans (by decide)
  have hst : blanks (allB s g) 0 = blanks (allB s g) 1 := by
    rw [hf0] at hl
    have hbl : isBlank (allB s g) 0 = true := by rw [blankC_is (by omega), hb0]; rfl
    exact upTo_step (Int.le_refl _) hbl (by omega)
  rw [hf0] at a
  refine ⟨⟨_, par_start a rfl 0 hst, ?_⟩, ?_⟩
  · rcases ali.be b hp with e | e
    · exact e
    · -- the last byte is a blank: no bracket stands there
      exfalso
      obtain ⟨j, rfl, _, _⟩ := b.nat
      obtain ⟨e', e1, e2, e3, e4, e5, e6⟩ := out_run _ rfl b
      rw [e1] at hp
      obtain rfl : e' = s.size := by omega
      have hf := f_lt s g (i := (s.size : Int)) (by omega) (by omega)
      have hfe : fB s g s.size = (outB s g s.size).size := by unfold fB; rw [show ((s.size : Int).toNat) = s.size by omega]
      have h1 := f_ge (g := g) b.1 b.2.1
      have : blanks (allB s g) (fB s g j) = (allB s g).size := by
        refine upTo_is _ h1 (by omega) rfl (fun x x1 x2 => ?_) (Int.le_refl _) (blank_end (Int.le_refl _))
        by_cases hx : x < fB s g s.size
        · exact e6 x x1 hx
        · rw [show x = fB s g s.size by omega, blankC_is hf.2, end_bt s g]; rfl
      rw [this] at e
      unfold bt at e
      rw [dif_neg (by omega)] at e
      exact absurd e (by decide)
  · obtain ⟨j, rfl, _, _⟩ := b.nat
    obtain ⟨e', e1, e2, e3, e4, e5, e6⟩ := out_run _ rfl b
    rw [e1] at hp
    obtain rfl : e' = s.size := by omega
    have := e4.2.2
    rw [show ((s.size : Int).toNat) = s.size by omega] at this
    exact this
/-- Behind a backslash in a quoted text there is a byte. -/
theorem esc_in {g : List Nat} (he : (stA s g s.size).e = false) {j : Nat} (hl : j < s.size) (hq : (stA s g j).q = true) (h0 : (stA s g j).e = false) (h9 : bt s j = 92) : j + 1 < s.size := by
  obtain ⟨_, b, _⟩ := step_bs hq h0 h9
  rcases (by omega : j + 1 < s.size ∨ j + 1 = s.size) with h | h
  · exact h
  · rw [h] at b; rw [b] at he; cases he
end
end Go.Proofs.YtdlkdecigpaaaaaGreatDoor
