/- Put together: The walk of a call; The parser's one: at a word, at a bracket, at a call; The parser's one, at a word; The parser's one, at a word that is a literal, at this, at a call; The parser's one, at a bracket. -/
import Derived.Test.YtdlkdecigpaaaaaGreatDoorMp28
namespace Go.Proofs.YtdlkdecigpaaaaaGreatDoor
set_option linter.unusedVariables false
set_option linter.unusedSimpArgs false
open Go.RowKit

/-- A call's state: it is done with an error; or a part is to come, and fewer bytes than that number. -/
def CallSt (s : ByteArray) (r : Res) (nm : ByteArray) (i pl : Int) (g k : Nat) (l : List XT) (W : World) : Prop :=
  (∃ p c a : Int, r = .err p c ∧ c ≠ 0 ∧ 0 ≤ a ∧ a ≤ s.size ∧ PAt s a p c g W) ∨ ∃ p, PAt s p pl 0 g W ∧ Par s (.call nm l) p r ∧ i < p ∧ p ≤ s.size ∧ s.size - p.toNat < k ∧ l.length < argsN nm
/-- What a sign that must follow leaves. -/
def NeedSays (s : ByteArray) (r : Res) (nm : ByteArray) (i pl : Int) (g k : Nat) (l : List XT) (W : World) (e : Ending) (w' : World) : Prop := e = .returned (.tuple #[]) ∧ CallSt s r nm i pl g k l w' ∧ Keeps [g] W w'
theorem argx_new {s : ByteArray} {i pl c : Int} {g : Nat} {w : World} (h : PAt s i pl c g w) (nm : ByteArray) : PAt s i pl c g ((w.alloc (.cells zero9 52)).alloc (.cells (argCells nm (.slice none 0 0)) 52)) ∧ ArgX g (w.heap.size + 1) nm [] (.slice none 0 0) [] w ((w.alloc (.cells zero9 52)).alloc (.cells (argCells nm (.slice none 0 0)) 52)) :=
  ⟨pat_alloc (pat_alloc h _) _, new_blk1 _ _ _, World.ownsRow_nil _ _ _ _, rfl, ((Keeps.refl _ _).alloc _).alloc _, hk_alloc (new_blk _ _) _⟩
section
variable (s : ByteArray) (i pl : Int) (g : Nat) (w : World) (r : Res)
set_option maxRecDepth 20000 in
set_option maxHeartbeats 2000000 in
theorem ecall_of (nm : ByteArray) (hN : 0 < argsN nm) (h : PAt s i pl 0 g w) (h0 : 0 ≤ i) (h1 : i ≤ s.size) (hs : s.size ≤ 1000000)
    (hr : (markAt s i ⟨#[40]⟩ < 0 ∧ r = .err (blanks s i) 1) ∨ (0 ≤ markAt s i ⟨#[40]⟩ ∧ Par s (.call nm []) (markAt s i ⟨#[40]⟩) r))
    (HO : ∀ (i' : Int) (r' : Res) (W : World), i < i' → i' ≤ s.size → Par s (.lev 0) i' r' → PAt s i' pl 0 g W → Keeps [g] w W → Calls Tryz.prog 45 #[.pointer (some ⟨g, 0, none⟩)] W (PSays s r' pl g W)) :
    Calls Tryz.prog 186 #[.pointer (some ⟨g, 0, none⟩), .string nm, .int .i64 (argsN nm)] w (PSays s r pl g w) := by
  have hglt := hk_lt h
  have hgne : w.heap.size ≠ g := by omega
  obtain ⟨hp0, hx0⟩ := argx_new h nm
  have HX0 := Lib.hid hx0
  have hpm : pmark s i ⟨#[40]⟩ = markAt s i ⟨#[40]⟩ := pmark_nl (by decide +kernel)
  have HND : Hid (Calls Tryz.prog 180 #[.pointer (some ⟨g, 0, none⟩), .string ⟨#[40]⟩] ((w.alloc (.cells zero9 52)).alloc (.cells (argCells nm (.slice none 0 0)) 52)) (NeedSays s r nm i pl g (s.size + 1) [] ((w.alloc (.cells zero9 52)).alloc (.cells (argCells nm (.slice none 0 0)) 52)))) := Lib.hid (by
    rcases hr with ⟨hm, hre⟩ | ⟨hm, hpar⟩
    · exact (eneed_no s i pl g _ ⟨#[40]⟩ hp0 h0 h1 hs (by decide) (by rw [hpm]; exact hm)).mono fun e w' ⟨a, b, c⟩ => ⟨a, .inl ⟨_, _, i, hre, by decide, h0, h1, b⟩, c⟩
    · have hmp := mark_pos hm (by decide)
      exact (eneed_yes s i pl g _ ⟨#[40]⟩ hp0 h0 h1 hs (by decide) (by decide) (by rw [hpm]; exact hm)).mono fun e w' ⟨a, b, c⟩ => ⟨a, .inr ⟨_, by rw [hpm] at b; exact b, hpar, hmp.1, hmp.2, by omega, hN⟩, c⟩)
  have HOX := Lib.hid HO
  have hm2 := argsN_le nm
  have HM : Hid (∃ m, argsN nm = m) := Lib.hid ⟨_, rfl⟩
  clear h hp0 hx0 hr HO hpm
  go_enter Tryz.func186, Tryz.ntmps186
  go_wp2_with (go_at_call 180; refine HND.out.mono ?_; rintro e' w3 ⟨rfl, hst3, hk3⟩; have H3 := Lib.hid (And.intro hst3 hk3); clear hst3 hk3)
  refine abs_world (F := fun W => CallSt s r nm i pl g (s.size + 1) [] W ∧ ArgX g (w.heap.size + 1) nm [] (.slice none 0 0) [] w W) ⟨H3.out.1, HX0.out.go H3.out.2 hglt (Nat.lt_succ_self _)⟩ (fun W3 HW3 => ?_)
  have HS3 := Lib.hid HW3
  clear HW3 H3 HX0 HND
  go_loopg [] (s.size + 1) (fun k W => ∃ (l : List XT) (va : Value) (xs : List Value), Hid (CallSt s r nm i pl g k l W ∧ ArgX g (w.heap.size + 1) nm l va xs w W))
  case atStart => exact ⟨_, _, _, HS3⟩
  case round =>
    obtain ⟨l, va, xs, HQ⟩ := hrel
    obtain ⟨b3, d3, rfl, hld⟩ := own_slice_len HQ.out.2.own
    have gb3 := cell_blk HQ.out.2.blk
    have gbf3 := frozen_blk HQ.out.2.blk
    have gb4 := cell_blk HQ.out.2.box
    have gbf4 := frozen_blk HQ.out.2.box
    have hl3 := hk_lt HQ.out.2.blk
    have hl4 := hk_lt HQ.out.2.box
    rcases HQ.out.1 with ⟨p, c, a, hre, hc, ha0, ha1, hpa⟩ | ⟨p, hpa, hpar, hip, hp, hpk, hlen⟩
    · have gp := cell_blk hpa
      have e1 : (c == 0) = false := by rw [beq_eq_false_iff_ne]; exact hc
      have HE := Lib.hid ((HQ.out.2.var (s := s) (r := .err p c) (pl := pl) (Nat.lt_succ_self _) (show ∃ a : Int, 0 ≤ a ∧ a ≤ s.size ∧ PAt s a p c g wr from ⟨a, ha0, ha1, hpa⟩)).ret hglt)
      have HRE := Lib.hid hre
      clear hpa hc hre
      go_wp2_with fail
      refine abs_post (F := fun W => ToldX s (.err p c) pl g w.heap.size (.mk nm eS VT.zero l) (.slice none 0 0) (.slice none 0 0) (.slice b3 l.length d3) w W) HE.out (fun W hW => ?_)
      have cr := cell_blk hW.blk
      exact bodyPost_ret (v := (XT.mk nm eS VT.zero l).agg (.slice none 0 0) (.slice none 0 0) (.slice b3 l.length d3)) (by simp [results, Tryz.results186, go_sem, cr]) rfl (HRE.out ▸ at_psays rfl hW.rep hW.keeps hW.at_)
    · have gp := cell_blk hpa
      have gpf := frozen_blk hpa
      obtain ⟨r3, hr3, he3, ho3⟩ := call_cases hpar
      have HR3 := Lib.hid hr3
      have HE3 := Lib.hid he3
      have HO3 := Lib.hid ho3
      have HPA := Lib.hid hpa
      have HOR := Lib.hid (fun (W : World) (ha : PAt s p pl 0 g W) (k : Keeps [] wr W) => HOX.out p r3 W hip hp HR3.out ha (HQ.out.2.keeps.trans (k.mono (by simp))))
      clear hr3 he3 ho3 hpar hpa
      go_upto_region 4 with fail
      go_region_law (first
        | (refine step_append_sl rfl _ _ _ rfl rfl elem_x (v := .slice b3 l.length d3) (base := w.heap.size + 2) (x := .slice (some ⟨w5.heap.size, 0, none⟩) 1 1) (S := fun _ => True) rfl rfl (HX5.out.own.alloc _) (Sl.of_blk (n := 1) (new_blk _ _) trivial rfl) (by exact head_one9 rfl rfl rfl) (by unfold maxLen; omega) (by omega) (by have := HX5.out.keeps.size; simp only [World.size_alloc] at *; omega) ?_; intro va' w6 ho hgr hv; obtain ⟨b5, d5, rfl, hld5⟩ := own_slice_len ho; have HA := Lib.hid (HQ.out.2.app hglt (Nat.lt_succ_self _) H5.out.2.1 H5.out.1 H5.out.2.2 ho hv hgr); have gb6 := cell_blk HA.out.2.2; have gbf6 := frozen_blk HA.out.2.2; clear ho hgr hv)
        | (refine step_call rfl 45 _ _ rfl (enters_of Tryz.func45 (by kernel_rfl) rfl) rfl (HOR.out _ (by exact HPA.out) (by exact (Keeps.refl _ _).drew)) ?_; rintro e5 w5 hx; obtain ⟨U, ui, uk, ua, rfl, hrep, hk5, hm5⟩ := psays_at hx; obtain ⟨x1, y1, x2, y2, x3, y3, rfl, rfl, rfl⟩ := xrep_shape hrep; refine ⟨_, rfl, ?_⟩; have HX5 := Lib.hid (HQ.out.2.go (kdrew hk5) hglt (Nat.lt_succ_self _)); have gb5 := cell_blk HX5.out.blk; have gbf5 := frozen_blk HX5.out.blk; have hl5 := hk_lt HX5.out.blk; have H5 := Lib.hid (And.intro hrep (And.intro (kdrew hk5) hm5)); clear hk5 hm5 hrep hx))
      all_goals
        refine ‹∀ (a : Act) (w : World), _ → _› _ _ ?_
        refine abs_world (F := fun W => ArgX g (w.heap.size + 1) nm (l ++ [U]) (.slice b5 (l.length + 1) d5) (xs ++ U.head (.slice x1 U.lit.its.length y1) (.slice x2 U.lit.ks.length y2) (.slice x3 U.args.length y3)) w W ∧ At s r3 pl g U W) ⟨HA.out.1, HA.out.2.1⟩ (fun W6 HW6 => ?_)
        have H6 := Lib.hid HW6
        clear HW6 HA gb3 gbf3 gb4 gbf4 hl3 hl4 gp gpf gb5 gbf5 hl5 gb6 gbf6 H5 HX5 HOR HPA hld5
        have gb7 := cell_blk H6.out.1.blk
        have gbf7 := frozen_blk H6.out.1.blk
        have hl7 := hk_lt H6.out.1.blk
        cases r3 with
        | err p' c' =>
          obtain ⟨hre, hc'⟩ := HE3.out p' c' rfl
          have HRE := Lib.hid (And.intro hre hc')
          obtain ⟨a, ha0, ha1, hpa⟩ : ∃ a : Int, 0 ≤ a ∧ a ≤ s.size ∧ PAt s a p' c' g W6 := H6.out.2
          have HA1 := Lib.hid (eahead_any s a p' c' g W6 hpa ha0 hs)
          have HM1 := Lib.hid (emark_fail s ⟨#[41]⟩ a p' c' g W6 hpa ha0 hs hc')
          have HN1 := Lib.hid (eneed_fail s a p' g W6 ⟨#[44]⟩ c' hpa ha0 hs hc')
          have HF1 := Lib.hid (fail_no s a p' c' (blanks s a) 12 g W6 hpa hc')
          have HPA := Lib.hid hpa
          clear hpa hre hc'
          go_wp2_with (first
            | (go_at_call 46; refine HA1.out.mono ?_; rintro e' w' ⟨rfl, rfl⟩)
            | (go_at_call 93; refine HM1.out.mono ?_; rintro e' w' ⟨rfl, rfl⟩)
            | (go_at_call 180; refine HN1.out.mono ?_; rintro e' w' ⟨rfl, rfl⟩)
            | (go_at_call 47; refine HF1.out.mono ?_; rintro e' w' ⟨rfl, rfl⟩))
          all_goals
            go_roundg (s.size - p.toNat)
            case measure => omega
            case rel => exact ⟨_, _, _, Lib.hid ⟨.inl ⟨p', c', a, HRE.out.1, HRE.out.2, ha0, ha1, HPA.out⟩, H6.out.1⟩⟩
        | ok U' p' =>
          obtain ⟨hUU, hpa⟩ : U = U' ∧ PAt s p' pl 0 g W6 := H6.out.2
          subst hUU
          have hpq := par_pos HR3.out (by omega) hp
          have hpp1 : p < p' := hpq.2
          have hpp2 : p' ≤ s.size := hpq.1.2
          have HA1 := Lib.hid (eahead_any s p' pl 0 g W6 hpa (by omega) hs)
          have hpm : pmark s p' ⟨#[41]⟩ = markAt s p' ⟨#[41]⟩ := pmark_nl (by decide +kernel)
          have hpm2 : pmark s p' ⟨#[44]⟩ = markAt s p' ⟨#[44]⟩ := pmark_nl (by decide +kernel)
          clear hpq
          rcases HO3.out U p' rfl with ⟨hy, hfew, hre⟩ | ⟨hy, hfew, hre⟩ | ⟨hno, hno2, hre⟩ | ⟨hno, hy, hfew, hre⟩ | ⟨hno, hy, hfew, hpar'⟩
          · have hmp := mark_pos hy (by decide)
            have hY := emark_yes s ⟨#[41]⟩ p' pl g W6 hpa (by omega) hpp2 hs (by decide) (by decide) (by rw [hpm]; exact hy)
            rw [hpm] at hY
            have HY := Lib.hid hY
            have HRE := Lib.hid hre
            have hd1 : decide (((l.length + 1 : Nat) : Int) < (argsN nm : Int)) = true := by simpa using (by omega : (l.length : Int) + 1 < argsN nm)
            clear hpa hpm hpm2 hY hre hy
            generalize markAt s p' ⟨#[41]⟩ = e2 at *
            go_wp2_with (first
              | (go_at_call 46; refine HA1.out.mono ?_; rintro e' w' ⟨rfl, rfl⟩)
              | (go_at_call 93; refine HY.out.mono ?_; rintro e' w7 ⟨rfl, hp7, hk7⟩; have H7 := Lib.hid (And.intro hp7 hk7); clear hp7 hk7; have HX7 := Lib.hid (H6.out.1.go H7.out.2 hglt (Nat.lt_succ_self _)); have gb8 := cell_blk HX7.out.blk; have gbf8 := frozen_blk HX7.out.blk)
              | (go_at_call 47; refine (fail_yes s e2 pl (blanks s p') 12 g w7 H7.out.1).mono ?_; rintro e' w8 ⟨rfl, hp8, hk8⟩; have H8 := Lib.hid (And.intro hp8 hk8); clear hp8 hk8; have HX8 := Lib.hid (HX7.out.go H8.out.2 hglt (Nat.lt_succ_self _)); have gb9 := cell_blk HX8.out.blk; have gbf9 := frozen_blk HX8.out.blk; have gb10 := cell_blk HX8.out.box; have gbf10 := frozen_blk HX8.out.box))
            refine abs_post (F := fun W => ToldX s (.err (blanks s p') 12) pl g w.heap.size (.mk nm eS VT.zero (l ++ [U])) (.slice none 0 0) (.slice none 0 0) (.slice b5 (l.length + 1) d5) w W) ((HX8.out.var (s := s) (r := .err (blanks s p') 12) (pl := pl) (Nat.lt_succ_self _) (show ∃ a : Int, 0 ≤ a ∧ a ≤ s.size ∧ PAt s a (blanks s p') 12 g w8 from ⟨e2, by omega, hmp.2, H8.out.1⟩)).ret hglt) (fun W hW => ?_)
            have cr := cell_blk hW.blk
            exact bodyPost_ret (v := (XT.mk nm eS VT.zero (l ++ [U])).agg (.slice none 0 0) (.slice none 0 0) (.slice b5 (l.length + 1) d5)) (by simp [results, Tryz.results186, go_sem, cr]) rfl (HRE.out ▸ at_psays rfl hW.rep hW.keeps hW.at_)
          · have hmp := mark_pos hy (by decide)
            have hY := emark_yes s ⟨#[41]⟩ p' pl g W6 hpa (by omega) hpp2 hs (by decide) (by decide) (by rw [hpm]; exact hy)
            rw [hpm] at hY
            have HY := Lib.hid hY
            have HRE := Lib.hid hre
            have hd1 : decide (((l.length + 1 : Nat) : Int) < (argsN nm : Int)) = false := by simpa using (by omega : (argsN nm : Int) ≤ (l.length : Int) + 1)
            clear hpa hpm hpm2 hY hre hy
            generalize markAt s p' ⟨#[41]⟩ = e2 at *
            go_wp2_with (first
              | (go_at_call 46; refine HA1.out.mono ?_; rintro e' w' ⟨rfl, rfl⟩)
              | (go_at_call 93; refine HY.out.mono ?_; rintro e' w7 ⟨rfl, hp7, hk7⟩; have H7 := Lib.hid (And.intro hp7 hk7); clear hp7 hk7; have HX7 := Lib.hid (H6.out.1.go H7.out.2 hglt (Nat.lt_succ_self _)); have gb8 := cell_blk HX7.out.blk; have gbf8 := frozen_blk HX7.out.blk; have gb10 := cell_blk HX7.out.box; have gbf10 := frozen_blk HX7.out.box))
            refine abs_post (F := fun W => ToldX s (.ok (.mk nm eS VT.zero (l ++ [U])) e2) pl g w.heap.size (.mk nm eS VT.zero (l ++ [U])) (.slice none 0 0) (.slice none 0 0) (.slice b5 (l.length + 1) d5) w W) ((HX7.out.var (s := s) (r := .ok (.mk nm eS VT.zero (l ++ [U])) e2) (pl := pl) (Nat.lt_succ_self _) (show _ ∧ _ from ⟨rfl, H7.out.1⟩)).ret hglt) (fun W hW => ?_)
            have cr := cell_blk hW.blk
            exact bodyPost_ret (v := (XT.mk nm eS VT.zero (l ++ [U])).agg (.slice none 0 0) (.slice none 0 0) (.slice b5 (l.length + 1) d5)) (by simp [results, Tryz.results186, go_sem, cr]) rfl (HRE.out ▸ at_psays rfl hW.rep hW.keeps hW.at_)
          · have HM1 := Lib.hid (emark_no s ⟨#[41]⟩ p' pl g W6 hpa (by omega) hpp2 hs (by decide) (by rw [hpm]; exact hno))
            have HN1 := Lib.hid (fun n => eneed_no s p' pl g (W6.drewN n) ⟨#[44]⟩ (pat_drewN hpa n) (by omega) hpp2 hs (by decide) (by rw [hpm2]; exact hno2))
            have HRE := Lib.hid hre
            clear hpa hpm hpm2 hre hno hno2
            go_wp2_with (first
              | (go_at_call 46; refine HA1.out.mono ?_; rintro e' w' ⟨rfl, rfl⟩)
              | (go_at_call 93; refine HM1.out.mono ?_; rintro e' w' ⟨rfl, n, rfl⟩)
              | (go_at_call 180; refine (HN1.out _).mono ?_; rintro e' w8 ⟨rfl, hp8, hk8⟩; have H8 := Lib.hid (And.intro hp8 (((Keeps.refl [g] W6).drewN n).trans hk8)); clear hp8 hk8; have HX8 := Lib.hid (H6.out.1.go H8.out.2 hglt (Nat.lt_succ_self _)); have gb9 := cell_blk HX8.out.blk; have gbf9 := frozen_blk HX8.out.blk)
              | (go_at_call 47; refine (fail_no s p' (blanks s p') 1 (blanks s p') 12 g w8 H8.out.1 (by decide)).mono ?_; rintro e' w' ⟨rfl, rfl⟩))
            all_goals
              go_roundg (s.size - p.toNat)
              case measure => omega
              case rel => exact ⟨_, _, _, Lib.hid ⟨.inl ⟨_, _, p', HRE.out, by decide, by omega, hpp2, H8.out.1⟩, HX8.out⟩⟩
          · have hmp := mark_pos hy (by decide)
            have HM1 := Lib.hid (emark_no s ⟨#[41]⟩ p' pl g W6 hpa (by omega) hpp2 hs (by decide) (by rw [hpm]; exact hno))
            have hY := fun n => eneed_yes s p' pl g (W6.drewN n) ⟨#[44]⟩ (pat_drewN hpa n) (by omega) hpp2 hs (by decide) (by decide) (by rw [hpm2]; exact hy)
            rw [hpm2] at hY
            have HN1 := Lib.hid hY
            have HRE := Lib.hid hre
            have hd1 : (((l.length + 1 : Nat) : Int) == (argsN nm : Int)) = true := by simpa using (by omega : (l.length : Int) + 1 = argsN nm)
            have hd2 : ((l.length : Int) + 1 == (argsN nm : Int)) = true := by simpa using (by omega : (l.length : Int) + 1 = argsN nm)
            clear hpa hpm hpm2 hre hno hY hy hfew
            generalize markAt s p' ⟨#[44]⟩ = e2 at *
            go_wp2_with (first
              | (go_at_call 46; refine HA1.out.mono ?_; rintro e' w' ⟨rfl, rfl⟩)
              | (go_at_call 93; refine HM1.out.mono ?_; rintro e' w' ⟨rfl, n, rfl⟩)
              | (go_at_call 180; refine (HN1.out _).mono ?_; rintro e' w8 ⟨rfl, hp8, hk8⟩; have H8 := Lib.hid (And.intro hp8 (((Keeps.refl [g] W6).drewN n).trans hk8)); clear hp8 hk8; have HX8 := Lib.hid (H6.out.1.go H8.out.2 hglt (Nat.lt_succ_self _)); have gb9 := cell_blk HX8.out.blk; have gbf9 := frozen_blk HX8.out.blk)
              | (go_at_call 47; refine (fail_yes s e2 pl (blanks s p') 12 g w8 H8.out.1).mono ?_; rintro e' w9 ⟨rfl, hp9, hk9⟩; have H9 := Lib.hid (And.intro hp9 hk9); clear hp9 hk9))
            go_roundg (s.size - p.toNat)
            case measure => omega
            case rel => exact ⟨_, _, _, Lib.hid ⟨.inl ⟨_, _, e2, HRE.out, by decide, by omega, hmp.2, H9.out.1⟩, HX8.out.go H9.out.2 hglt (Nat.lt_succ_self _)⟩⟩
          · have hmp := mark_pos hy (by decide)
            have HM1 := Lib.hid (emark_no s ⟨#[41]⟩ p' pl g W6 hpa (by omega) hpp2 hs (by decide) (by rw [hpm]; exact hno))
            have hY := fun n => eneed_yes s p' pl g (W6.drewN n) ⟨#[44]⟩ (pat_drewN hpa n) (by omega) hpp2 hs (by decide) (by decide) (by rw [hpm2]; exact hy)
            rw [hpm2] at hY
            have HN1 := Lib.hid hY
            have HPR := Lib.hid hpar'
            have hd1 : (((l.length + 1 : Nat) : Int) == (argsN nm : Int)) = false := by rw [beq_eq_false_iff_ne]; omega
            have hd2 : ((l.length : Int) + 1 == (argsN nm : Int)) = false := by rw [beq_eq_false_iff_ne]; omega
            have hlen2 : (l ++ [U]).length < argsN nm := by simp; omega
            clear hpa hpm hpm2 hpar' hno hY hy
            generalize markAt s p' ⟨#[44]⟩ = e2 at *
            go_wp2_with (first
              | (go_at_call 46; refine HA1.out.mono ?_; rintro e' w' ⟨rfl, rfl⟩)
              | (go_at_call 93; refine HM1.out.mono ?_; rintro e' w' ⟨rfl, n, rfl⟩)
              | (go_at_call 180; refine (HN1.out _).mono ?_; rintro e' w8 ⟨rfl, hp8, hk8⟩; have H8 := Lib.hid (And.intro hp8 (((Keeps.refl [g] W6).drewN n).trans hk8)); clear hp8 hk8; have HX8 := Lib.hid (H6.out.1.go H8.out.2 hglt (Nat.lt_succ_self _)); have gb9 := cell_blk HX8.out.blk; have gbf9 := frozen_blk HX8.out.blk))
            go_roundg (s.size - p.toNat)
            case measure => omega
            case rel => exact ⟨_, _, _, Lib.hid ⟨.inr ⟨e2, H8.out.1, HPR.out, by omega, hmp.2, by omega, hlen2⟩, HX8.out⟩⟩
end
end Go.Proofs.YtdlkdecigpaaaaaGreatDoor
namespace Go.Proofs.YtdlkdecigpaaaaaGreatDoor
set_option linter.unusedVariables false
set_option linter.unusedSimpArgs false
open Go.RowKit

theorem ext_one {s : ByteArray} {q : Int} {c : UInt8} (h0 : 0 ≤ q) (h1 : q + 1 ≤ s.size) (h : s.extract q.toNat (q.toNat + 1) = ⟨#[c]⟩) : isAt s q c.toNat = true := by
  have hl : q.toNat < s.size := by omega
  have e : s[q.toNat]'hl = c := by
    have e2 := congrArg (fun x : ByteArray => x.data.toList) h
    simp only at e2
    rw [ext_list, Nat.add_sub_cancel_left] at e2
    have e3 : (s.data.toList.drop q.toNat).take 1 = [s.data.toList[q.toNat]'(by rw [Array.length_toList]; exact hl)] := by
      rw [List.drop_eq_getElem_cons (by rw [Array.length_toList]; exact hl)]; rfl
    rw [e3] at e2
    have := List.cons.inj e2
    exact this.1
  have hb := bt_at s q hl
  rw [e] at hb
  simp only [isAt, Bool.and_eq_true, decide_eq_true_eq, beq_iff_eq]
  exact ⟨by omega, hb.symm⟩
theorem mark_byte {s : ByteArray} {i : Int} {c : UInt8} (h0 : 0 ≤ i) (h : 0 ≤ markAt s i ⟨#[c]⟩) : isAt s (blanks s i) c.toNat = true := by
  have hb := blanks_ge s i
  unfold markAt at h
  split at h
  · rename_i hc; exact ext_one (by omega) (by have h2 : ((⟨#[c]⟩ : ByteArray).size : Int) = 1 := rfl; have := hc.1; omega) hc.2
  · omega
theorem word_letter {s : ByteArray} {i : Int} (h : wordAt s i ≠ eS) : letterAt s (blanks s i) = true := by
  cases hl : letterAt s (blanks s i) with
  | true => rfl
  | false => unfold wordAt at h; rw [hl] at h; simp at h
theorem letter_not {s : ByteArray} {q : Int} (h : letterAt s q = true) : digitAt s q = false ∧ isAt s q 34 = false ∧ isAt s q 40 = false := by
  have hlt := letterAt_lt h
  simp [letterAt, letterB, hlt] at h
  refine ⟨?_, ?_, ?_⟩
  · simp [digitAt, digitB]; omega
  · simp [isAt]; omega
  · simp [isAt]; omega
theorem word_end {s : ByteArray} {i : Int} (h0 : 0 ≤ i) (h : wordAt s i ≠ eS) : wordAtEnd s i = blanks s i + (wordAt s i).size ∧ blanks s i + (wordAt s i).size ≤ s.size := by
  have hm := word_mark h0 rfl h
  have hp := word_pos h0 h
  have := mark_val hm.1
  omega
theorem argsN_ne {t : ByteArray} (h : 0 < argsN t) : t ≠ eS ∧ t ≠ orS ∧ t ≠ andS ∧ t ≠ notS ∧ t ≠ trueS ∧ t ≠ falseS ∧ t ≠ nullS ∧ t ≠ thisS := by
  refine ⟨?_, ?_, ?_, ?_, ?_, ?_, ?_, ?_⟩ <;> (rintro rfl; revert h; decide +kernel)
theorem tl_ne {t : ByteArray} {l : List UInt8} (h : t ≠ ⟨l.toArray⟩) : (t.toList == l) = false := by rw [tl_beq]; simpa using h
theorem wo_nil {t : ByteArray} (h : t ≠ eS) : t.toList.isEmpty = false := toList_ne (fun hz => h (by cases hx : t with | mk d => rw [hx] at hz; simp only [ByteArray.size] at hz; rw [show d = #[] from Array.eq_empty_of_size_eq_zero hz]))
theorem size_pos {t : ByteArray} (h : t ≠ eS) : 0 < t.size := by
  rcases Nat.eq_zero_or_pos t.size with hz | hz
  · exact absurd (by cases hx : t with | mk d => rw [hx] at hz; simp only [ByteArray.size] at hz; rw [show d = #[] from Array.eq_empty_of_size_eq_zero hz]) h
  · exact hz
section
variable (s : ByteArray) (i pl : Int) (g : Nat) (w : World)
set_option maxRecDepth 20000 in
set_option maxHeartbeats 1000000 in
theorem eone_fail (h : PAt s i pl 0 g w) (h0 : 0 ≤ i) (h1 : i ≤ s.size) (hs : s.size ≤ 1000000) (hdg : digitAt s (blanks s i) = false) (hqu : isAt s (blanks s i) 34 = false) (hm : markAt s i ⟨#[40]⟩ < 0)
    (ht : wordAt s i = eS ∨ wordAt s i = orS ∨ wordAt s i = andS ∨ wordAt s i = notS) :
    Calls Tryz.prog 178 #[.pointer (some ⟨g, 0, none⟩)] w (PSays s (.err (blanks s i) 1) pl g w) := by
  have hglt := hk_lt h
  have hB := Lib.hid (box_new h)
  have hgne : w.heap.size ≠ g := by omega
  have HA := Lib.hid (eahead_any s i pl 0 g _ hB.out.1 h0 hs)
  have HW := Lib.hid (eword_any s i pl 0 g _ hB.out.1 h0 h1 hs)
  have hb0 := blanks_ge0 s i h0
  have gc := cell_blk hB.out.1
  have gcf := frozen_blk hB.out.1
  have hbt := bt_at s (blanks s i)
  have hpm : pmark s i ⟨#[40]⟩ = markAt s i ⟨#[40]⟩ := pmark_nl (by decide +kernel)
  have HM := Lib.hid (fun n => emark_no s ⟨#[40]⟩ i pl g ((w.alloc (.cells zero9 52)).drewN n) (pat_drewN hB.out.1 n) h0 h1 hs (by decide) (by rw [hpm]; exact hm))
  have HF := Lib.hid (fun n => fail_yes s i pl (blanks s i) 1 g ((w.alloc (.cells zero9 52)).drewN n) (pat_drewN hB.out.1 n))
  have HGO : Hid ((blanks s i < s.size ∧ ∀ w, Calls Tryz.prog 102 #[.int .u8 (bt s (blanks s i))] w fun e w' => e = .returned (.bool false) ∧ w = w') ∨ ¬ blanks s i < s.size) := Lib.hid (by
    by_cases hlt : blanks s i < s.size
    · have hr := bt_range s (blanks s i)
      exact .inl ⟨hlt, fun w => (show digitB (bt s (blanks s i)) = false by rw [← digit_bt hlt]; exact hdg) ▸ edigit_any (bt s (blanks s i)) w hr.1 hr.2⟩
    · exact .inr hlt)
  have HQ34 : Hid (blanks s i < s.size → (bt s (blanks s i) == 34) = false) := Lib.hid (fun hlt => by simpa [isAt, hlt] using hqu)
  clear h hm hpm hdg hqu
  generalize wordAt s i = t at *
  generalize blanks s i = q at *
  rcases HGO.out with ⟨hlt, hd0⟩ | hlt
  · have hd : decide (q < (s.size : Int)) = true := decide_eq_true hlt
    have HD := Lib.hid hd0
    have hb34 := HQ34.out hlt
    clear hd0
    rcases ht with rfl | rfl | rfl | rfl
    all_goals
      go_enter Tryz.func178, Tryz.ntmps178
      go_wp2_with (first
    | (go_at_call 46; refine HA.out.mono ?_; rintro e w' ⟨rfl, rfl⟩)
    | (go_at_call 57; refine HW.out.mono ?_; rintro e w' ⟨rfl, n, rfl⟩)
    | (go_at_call 102; refine (HD.out _).mono ?_; rintro e w' ⟨rfl, rfl⟩)
    | (go_at_call 93; refine (HM.out _).mono ?_; rintro e w' ⟨rfl, m, rfl⟩)
    | (go_at_call 47; refine (HF.out _).mono ?_; rintro e w3 ⟨rfl, hp3, hk3⟩; have H3 := Lib.hid (Box.to (b := w.heap.size) (w := w) (w1 := (w.alloc (.cells zero9 52)).drewN _) ⟨pat_drewN hB.out.1 _, hB.out.2.1.drewN _, hB.out.2.2⟩ hgne hk3 hp3); clear hp3 hk3; have gb3 := cell_blk H3.out.2.2; have gbf3 := frozen_blk H3.out.2.2))
      refine abs_post (F := fun W => W.heap[w.heap.size]? = some (.cells zero9 52 (0, 0)) ∧ PAt s i q 1 g W ∧ Keeps [g] w W) (H3.out.lay hgne (Nat.le_refl _) _ _ _ _ _ _ _ _ _) (fun W hW => ?_)
      have cr := cell_blk hW.1
      exact bodyPost_ret (v := XT.zero.agg (.slice none 0 0) (.slice none 0 0) (.slice none 0 0)) (by simp [results, Tryz.results178, go_sem, cr]; exact ⟨rfl, rfl, rfl, rfl, rfl, rfl⟩) rfl (psays_err s pl g w rfl (XT.zero_rep _ _) h0 h1 hW.2.1 hW.2.2)
  · have hd : decide (q < (s.size : Int)) = false := decide_eq_false hlt
    rcases ht with rfl | rfl | rfl | rfl
    all_goals
      go_enter Tryz.func178, Tryz.ntmps178
      go_wp2_with (first
    | (go_at_call 46; refine HA.out.mono ?_; rintro e w' ⟨rfl, rfl⟩)
    | (go_at_call 57; refine HW.out.mono ?_; rintro e w' ⟨rfl, n, rfl⟩)
    | (go_at_call 93; refine (HM.out _).mono ?_; rintro e w' ⟨rfl, m, rfl⟩)
    | (go_at_call 47; refine (HF.out _).mono ?_; rintro e w3 ⟨rfl, hp3, hk3⟩; have H3 := Lib.hid (Box.to (b := w.heap.size) (w := w) (w1 := (w.alloc (.cells zero9 52)).drewN _) ⟨pat_drewN hB.out.1 _, hB.out.2.1.drewN _, hB.out.2.2⟩ hgne hk3 hp3); clear hp3 hk3; have gb3 := cell_blk H3.out.2.2; have gbf3 := frozen_blk H3.out.2.2))
      refine abs_post (F := fun W => W.heap[w.heap.size]? = some (.cells zero9 52 (0, 0)) ∧ PAt s i q 1 g W ∧ Keeps [g] w W) (H3.out.lay hgne (Nat.le_refl _) _ _ _ _ _ _ _ _ _) (fun W hW => ?_)
      have cr := cell_blk hW.1
      exact bodyPost_ret (v := XT.zero.agg (.slice none 0 0) (.slice none 0 0) (.slice none 0 0)) (by simp [results, Tryz.results178, go_sem, cr]; exact ⟨rfl, rfl, rfl, rfl, rfl, rfl⟩) rfl (psays_err s pl g w rfl (XT.zero_rep _ _) h0 h1 hW.2.1 hW.2.2)
end
end Go.Proofs.YtdlkdecigpaaaaaGreatDoor
namespace Go.Proofs.YtdlkdecigpaaaaaGreatDoor
set_option linter.unusedVariables false
set_option linter.unusedSimpArgs false
open Go.RowKit

section
variable (s : ByteArray) (i pl : Int) (g : Nat) (w : World)
theorem res_ne {t : ByteArray} (h : memL t resL = false) : t ≠ orS ∧ t ≠ andS ∧ t ≠ notS ∧ t ≠ trueS ∧ t ≠ falseS ∧ t ≠ nullS ∧ t ≠ thisS := by
  refine ⟨?_, ?_, ?_, ?_, ?_, ?_, ?_⟩ <;> (rintro rfl; revert h; decide +kernel)
set_option maxRecDepth 20000 in
set_option maxHeartbeats 1000000 in
theorem eone_var (h : PAt s i pl 0 g w) (h0 : 0 ≤ i) (h1 : i ≤ s.size) (hs : s.size ≤ 1000000) (hne : wordAt s i ≠ eS) (ha : argsN (wordAt s i) = 0) (hres : memL (wordAt s i) resL = false) :
    Calls Tryz.prog 178 #[.pointer (some ⟨g, 0, none⟩)] w (PSays s (.ok (.mk varS (wordAt s i) VT.zero []) (wordAtEnd s i)) pl g w) := by
  have hlet := word_letter hne
  obtain ⟨hdg, hqu, hpa⟩ := letter_not hlet
  have hm : markAt s i ⟨#[40]⟩ < 0 := by
    by_cases hm : 0 ≤ markAt s i ⟨#[40]⟩
    · have hb := mark_byte h0 hm
      rw [show ((40 : UInt8).toNat : Int) = 40 from rfl] at hb
      rw [hpa] at hb; cases hb
    · omega
  obtain ⟨hwe, hws⟩ := word_end h0 hne
  have hglt := hk_lt h
  have hB := Lib.hid (box_new h)
  have hgne : w.heap.size ≠ g := by omega
  have HA := Lib.hid (eahead_any s i pl 0 g _ hB.out.1 h0 hs)
  have HW := Lib.hid (eword_any s i pl 0 g _ hB.out.1 h0 h1 hs)
  have hb0 := blanks_ge0 s i h0
  have gc := cell_blk hB.out.1
  have gcf := frozen_blk hB.out.1
  have hbt := bt_at s (blanks s i)
  have hpm : pmark s i ⟨#[40]⟩ = markAt s i ⟨#[40]⟩ := pmark_nl (by decide +kernel)
  have HM := Lib.hid (fun n => emark_no s ⟨#[40]⟩ i pl g ((w.alloc (.cells zero9 52)).drewN n) (pat_drewN hB.out.1 n) h0 h1 hs (by decide) (by rw [hpm]; exact hm))
  have hlt : blanks s i < s.size := letterAt_lt hlet
  have hd : decide (blanks s i < (s.size : Int)) = true := decide_eq_true hlt
  have hr := bt_range s (blanks s i)
  have HD := Lib.hid (fun w => ((show digitB (bt s (blanks s i)) = false by rw [← digit_bt hlt]; exact hdg) ▸ edigit_any (bt s (blanks s i)) w hr.1 hr.2 : Calls Tryz.prog 102 #[.int .u8 (bt s (blanks s i))] w fun e w' => e = .returned (.bool false) ∧ w = w'))
  have hb34 : (bt s (blanks s i) == 34) = false := by simpa [isAt, hlt] using hqu
  have HWE := Lib.hid hwe
  have hz0 := wo_nil hne
  have hz := res_ne hres
  have har : ∀ w, Calls Tryz.prog 52 #[.string (wordAt s i)] w fun e w' => e = .returned (.int .i64 0) ∧ w = w' := fun w => by have := earity_any (wordAt s i) w; rw [ha] at this; exact this
  have HAR := Lib.hid har
  clear h hm hpm hdg hqu hpa hlet hr hwe hne ha hres har
  generalize wordAt s i = t at *
  generalize wordAtEnd s i = e1 at *
  generalize blanks s i = q at *
  have hwr : IntKind.i64.wrap (q + (t.size : Int)) = q + (t.size : Int) := by rw [IntKind.wrap_i64]; omega
  have z1 := tl_ne (l := [111, 114]) hz.1
  have z2 := tl_ne (l := [97, 110, 100]) hz.2.1
  have z3 := tl_ne (l := [110, 111, 116]) hz.2.2.1
  have z4 := tl_ne (l := [116, 114, 117, 101]) hz.2.2.2.1
  have z5 := tl_ne (l := [102, 97, 108, 115, 101]) hz.2.2.2.2.1
  have z6 := tl_ne (l := [110, 117, 108, 108]) hz.2.2.2.2.2.1
  have z7 := tl_ne (l := [116, 104, 105, 115]) hz.2.2.2.2.2.2
  clear hz
  go_enter Tryz.func178, Tryz.ntmps178
  go_upto_region 16 with (first
    | (go_at_call 46; refine HA.out.mono ?_; rintro e w' ⟨rfl, rfl⟩)
    | (go_at_call 57; refine HW.out.mono ?_; rintro e w' ⟨rfl, n, rfl⟩)
    | (go_at_call 102; refine (HD.out _).mono ?_; rintro e w' ⟨rfl, rfl⟩)
    | (go_at_call 93; refine (HM.out _).mono ?_; rintro e w' ⟨rfl, m, rfl⟩))
  refine abs_world (F := fun W => Box s i pl 0 g w.heap.size w W) ⟨pat_drewN hB.out.1 _, hB.out.2.1.drewN _, hB.out.2.2⟩ (fun W hW => ?_)
  have HBW := Lib.hid hW
  clear gc gcf hW
  have gc := cell_blk HBW.out.1
  have gcf := frozen_blk HBW.out.1
  have gb := cell_blk HBW.out.2.2
  have gbf := frozen_blk HBW.out.2.2
  have HB1 := Lib.hid (HBW.out.at (j := q + t.size) hgne)
  go_wp2_with (go_at_call 52; refine (HAR.out _).mono ?_; rintro e w' ⟨rfl, rfl⟩)
  refine abs_post (F := fun W => W.heap[w.heap.size]? = some (.cells #[.string varS, .string t, .int .i64 0, .bool false, .int .i64 0, .string eS, .slice none 0 0, .slice none 0 0, .slice none 0 0] 52 (0, 0)) ∧ PAt s (q + t.size) pl 0 g W ∧ Keeps [g] w W) (HB1.out.lay hgne (Nat.le_refl _) _ _ _ _ _ _ _ _ _) (fun W hW => ?_)
  have cr := cell_blk hW.1
  exact bodyPost_ret (v := (XT.mk varS t VT.zero []).agg (.slice none 0 0) (.slice none 0 0) (.slice none 0 0)) (by simp [results, Tryz.results178, go_sem, cr]; exact ⟨rfl, rfl, rfl, rfl, rfl, rfl⟩) rfl (psays_ok s pl g w rfl (leaf_xrep _ _ _ _ _ _ _ _) (HWE.out ▸ hW.2.1) hW.2.2)
end
end Go.Proofs.YtdlkdecigpaaaaaGreatDoor
namespace Go.Proofs.YtdlkdecigpaaaaaGreatDoor
set_option linter.unusedVariables false
set_option linter.unusedSimpArgs false
open Go.RowKit

section
variable (s : ByteArray) (i pl : Int) (g : Nat) (w : World)
set_option maxRecDepth 20000 in
set_option maxHeartbeats 1000000 in
theorem eone_this (h : PAt s i pl 0 g w) (h0 : 0 ≤ i) (h1 : i ≤ s.size) (hs : s.size ≤ 1000000) (ht : wordAt s i = thisS) :
    Calls Tryz.prog 178 #[.pointer (some ⟨g, 0, none⟩)] w (PSays s (.ok (.mk thisS eS VT.zero []) (wordAtEnd s i)) pl g w) := by
  have hne : wordAt s i ≠ eS := by rw [ht]; decide
  have hlet := word_letter hne
  obtain ⟨hdg, hqu, hpa⟩ := letter_not hlet
  have hm : markAt s i ⟨#[40]⟩ < 0 := by
    by_cases hm : 0 ≤ markAt s i ⟨#[40]⟩
    · have hb := mark_byte h0 hm
      rw [show ((40 : UInt8).toNat : Int) = 40 from rfl] at hb
      rw [hpa] at hb; cases hb
    · omega
  obtain ⟨hwe, hws⟩ := word_end h0 hne
  have hglt := hk_lt h
  have hB := Lib.hid (box_new h)
  have hgne : w.heap.size ≠ g := by omega
  have HA := Lib.hid (eahead_any s i pl 0 g _ hB.out.1 h0 hs)
  have HW := Lib.hid (eword_any s i pl 0 g _ hB.out.1 h0 h1 hs)
  have hb0 := blanks_ge0 s i h0
  have gc := cell_blk hB.out.1
  have gcf := frozen_blk hB.out.1
  have hbt := bt_at s (blanks s i)
  have hpm : pmark s i ⟨#[40]⟩ = markAt s i ⟨#[40]⟩ := pmark_nl (by decide +kernel)
  have HM := Lib.hid (fun n => emark_no s ⟨#[40]⟩ i pl g ((w.alloc (.cells zero9 52)).drewN n) (pat_drewN hB.out.1 n) h0 h1 hs (by decide) (by rw [hpm]; exact hm))
  have hlt : blanks s i < s.size := letterAt_lt hlet
  have hd : decide (blanks s i < (s.size : Int)) = true := decide_eq_true hlt
  have hr := bt_range s (blanks s i)
  have HD := Lib.hid (fun w => ((show digitB (bt s (blanks s i)) = false by rw [← digit_bt hlt]; exact hdg) ▸ edigit_any (bt s (blanks s i)) w hr.1 hr.2 : Calls Tryz.prog 102 #[.int .u8 (bt s (blanks s i))] w fun e w' => e = .returned (.bool false) ∧ w = w'))
  have hb34 : (bt s (blanks s i) == 34) = false := by simpa [isAt, hlt] using hqu
  have HWE := Lib.hid hwe
  clear h hm hpm hdg hqu hpa hlet hr hwe hne
  generalize wordAt s i = t at *
  generalize wordAtEnd s i = e1 at *
  generalize blanks s i = q at *
  have hwr : IntKind.i64.wrap (q + (t.size : Int)) = q + (t.size : Int) := by rw [IntKind.wrap_i64]; omega
  subst ht
  have hwr2 : IntKind.i64.wrap (q + 4) = q + 4 := hwr
  go_enter Tryz.func178, Tryz.ntmps178
  go_upto_region 16 with (first
    | (go_at_call 46; refine HA.out.mono ?_; rintro e w' ⟨rfl, rfl⟩)
    | (go_at_call 57; refine HW.out.mono ?_; rintro e w' ⟨rfl, n, rfl⟩)
    | (go_at_call 102; refine (HD.out _).mono ?_; rintro e w' ⟨rfl, rfl⟩)
    | (go_at_call 93; refine (HM.out _).mono ?_; rintro e w' ⟨rfl, m, rfl⟩))
  refine abs_world (F := fun W => Box s i pl 0 g w.heap.size w W) ⟨pat_drewN hB.out.1 _, hB.out.2.1.drewN _, hB.out.2.2⟩ (fun W hW => ?_)
  have HBW := Lib.hid hW
  clear gc gcf hW
  have gc := cell_blk HBW.out.1
  have gcf := frozen_blk HBW.out.1
  have gb := cell_blk HBW.out.2.2
  have gbf := frozen_blk HBW.out.2.2
  have HB1 := Lib.hid (HBW.out.at (j := q + 4) hgne)
  go_wp2_with fail
  refine abs_post (F := fun W => W.heap[w.heap.size]? = some (.cells #[.string thisS, .string eS, .int .i64 0, .bool false, .int .i64 0, .string eS, .slice none 0 0, .slice none 0 0, .slice none 0 0] 52 (0, 0)) ∧ PAt s (q + 4) pl 0 g W ∧ Keeps [g] w W) (HB1.out.lay hgne (Nat.le_refl _) _ _ _ _ _ _ _ _ _) (fun W hW => ?_)
  have cr := cell_blk hW.1
  exact bodyPost_ret (v := (XT.mk thisS eS VT.zero []).agg (.slice none 0 0) (.slice none 0 0) (.slice none 0 0)) (by simp [results, Tryz.results178, go_sem, cr]; exact ⟨rfl, rfl, rfl, rfl, rfl, rfl⟩) rfl (psays_ok s pl g w rfl (leaf_xrep _ _ _ _ _ _ _ _) (by have e2 : e1 = q + 4 := HWE.out; rw [e2]; exact hW.2.1) hW.2.2)
set_option maxRecDepth 20000 in
set_option maxHeartbeats 1000000 in
theorem eone_true (h : PAt s i pl 0 g w) (h0 : 0 ≤ i) (h1 : i ≤ s.size) (hs : s.size ≤ 1000000) (ht : wordAt s i = trueS) :
    Calls Tryz.prog 178 #[.pointer (some ⟨g, 0, none⟩)] w (PSays s (.ok (litT (boolV true)) (wordAtEnd s i)) pl g w) := by
  have hne : wordAt s i ≠ eS := by rw [ht]; decide
  have hlet := word_letter hne
  obtain ⟨hdg, hqu, hpa⟩ := letter_not hlet
  have hm : markAt s i ⟨#[40]⟩ < 0 := by
    by_cases hm : 0 ≤ markAt s i ⟨#[40]⟩
    · have hb := mark_byte h0 hm
      rw [show ((40 : UInt8).toNat : Int) = 40 from rfl] at hb
      rw [hpa] at hb; cases hb
    · omega
  obtain ⟨hwe, hws⟩ := word_end h0 hne
  have hglt := hk_lt h
  have hB := Lib.hid (box_new h)
  have hgne : w.heap.size ≠ g := by omega
  have HA := Lib.hid (eahead_any s i pl 0 g _ hB.out.1 h0 hs)
  have HW := Lib.hid (eword_any s i pl 0 g _ hB.out.1 h0 h1 hs)
  have hb0 := blanks_ge0 s i h0
  have gc := cell_blk hB.out.1
  have gcf := frozen_blk hB.out.1
  have hbt := bt_at s (blanks s i)
  have hpm : pmark s i ⟨#[40]⟩ = markAt s i ⟨#[40]⟩ := pmark_nl (by decide +kernel)
  have HM := Lib.hid (fun n => emark_no s ⟨#[40]⟩ i pl g ((w.alloc (.cells zero9 52)).drewN n) (pat_drewN hB.out.1 n) h0 h1 hs (by decide) (by rw [hpm]; exact hm))
  have hlt : blanks s i < s.size := letterAt_lt hlet
  have hd : decide (blanks s i < (s.size : Int)) = true := decide_eq_true hlt
  have hr := bt_range s (blanks s i)
  have HD := Lib.hid (fun w => ((show digitB (bt s (blanks s i)) = false by rw [← digit_bt hlt]; exact hdg) ▸ edigit_any (bt s (blanks s i)) w hr.1 hr.2 : Calls Tryz.prog 102 #[.int .u8 (bt s (blanks s i))] w fun e w' => e = .returned (.bool false) ∧ w = w'))
  have hb34 : (bt s (blanks s i) == 34) = false := by simpa [isAt, hlt] using hqu
  have HWE := Lib.hid hwe
  clear h hm hpm hdg hqu hpa hlet hr hwe hne
  generalize wordAt s i = t at *
  generalize wordAtEnd s i = e1 at *
  generalize blanks s i = q at *
  have hwr : IntKind.i64.wrap (q + (t.size : Int)) = q + (t.size : Int) := by rw [IntKind.wrap_i64]; omega
  subst ht
  have hwr2 : IntKind.i64.wrap (q + 4) = q + 4 := hwr
  go_enter Tryz.func178, Tryz.ntmps178
  go_upto_region 16 with (first
    | (go_at_call 46; refine HA.out.mono ?_; rintro e w' ⟨rfl, rfl⟩)
    | (go_at_call 57; refine HW.out.mono ?_; rintro e w' ⟨rfl, n, rfl⟩)
    | (go_at_call 102; refine (HD.out _).mono ?_; rintro e w' ⟨rfl, rfl⟩)
    | (go_at_call 93; refine (HM.out _).mono ?_; rintro e w' ⟨rfl, m, rfl⟩))
  refine abs_world (F := fun W => Box s i pl 0 g w.heap.size w W) ⟨pat_drewN hB.out.1 _, hB.out.2.1.drewN _, hB.out.2.2⟩ (fun W hW => ?_)
  have HBW := Lib.hid hW
  clear gc gcf hW
  have gc := cell_blk HBW.out.1
  have gcf := frozen_blk HBW.out.1
  have gb := cell_blk HBW.out.2.2
  have gbf := frozen_blk HBW.out.2.2
  have HB1 := Lib.hid (HBW.out.at (j := q + 4) hgne)
  go_wp2_with fail
  refine (vtruth_any _ _).mono ?_
  rintro e w2 ⟨rfl, hk2⟩
  have HB2 := Lib.hid (HB1.out.go hk2)
  clear hk2
  go_wp2_with fail
  refine (eliteral_any _ _ _ _ _ _ _ _ _ _ _).mono ?_
  rintro e w3 ⟨rfl, hk3⟩
  have HB3 := Lib.hid (HB2.out.go hk3)
  have gb3 := cell_blk HB3.out.2.2
  have gbf3 := frozen_blk HB3.out.2.2
  clear hk3
  go_wp2
  refine abs_post (F := fun W => W.heap[w.heap.size]? = some (.cells #[.string litS, .string eS, .int .i64 1, .bool true, .int .i64 0, .string eS, .slice none 0 0, .slice none 0 0, .slice none 0 0] 52 (0, 0)) ∧ PAt s (q + 4) pl 0 g W ∧ Keeps [g] w W) (HB3.out.lay hgne (Nat.le_refl _) _ _ _ _ _ _ _ _ _) (fun W hW => ?_)
  have cr := cell_blk hW.1
  exact bodyPost_ret (v := (litT (boolV true)).agg (.slice none 0 0) (.slice none 0 0) (.slice none 0 0)) (by simp [results, Tryz.results178, go_sem, cr]; exact ⟨rfl, rfl, rfl, rfl, rfl, rfl⟩) rfl (psays_ok s pl g w rfl (leaf_xrep _ _ _ _ _ _ _ _) (by have e2 : e1 = q + 4 := HWE.out; rw [e2]; exact hW.2.1) hW.2.2)
set_option maxRecDepth 20000 in
set_option maxHeartbeats 1000000 in
theorem eone_false (h : PAt s i pl 0 g w) (h0 : 0 ≤ i) (h1 : i ≤ s.size) (hs : s.size ≤ 1000000) (ht : wordAt s i = falseS) :
    Calls Tryz.prog 178 #[.pointer (some ⟨g, 0, none⟩)] w (PSays s (.ok (litT (boolV false)) (wordAtEnd s i)) pl g w) := by
  have hne : wordAt s i ≠ eS := by rw [ht]; decide
  have hlet := word_letter hne
  obtain ⟨hdg, hqu, hpa⟩ := letter_not hlet
  have hm : markAt s i ⟨#[40]⟩ < 0 := by
    by_cases hm : 0 ≤ markAt s i ⟨#[40]⟩
    · have hb := mark_byte h0 hm
      rw [show ((40 : UInt8).toNat : Int) = 40 from rfl] at hb
      rw [hpa] at hb; cases hb
    · omega
  obtain ⟨hwe, hws⟩ := word_end h0 hne
  have hglt := hk_lt h
  have hB := Lib.hid (box_new h)
  have hgne : w.heap.size ≠ g := by omega
  have HA := Lib.hid (eahead_any s i pl 0 g _ hB.out.1 h0 hs)
  have HW := Lib.hid (eword_any s i pl 0 g _ hB.out.1 h0 h1 hs)
  have hb0 := blanks_ge0 s i h0
  have gc := cell_blk hB.out.1
  have gcf := frozen_blk hB.out.1
  have hbt := bt_at s (blanks s i)
  have hpm : pmark s i ⟨#[40]⟩ = markAt s i ⟨#[40]⟩ := pmark_nl (by decide +kernel)
  have HM := Lib.hid (fun n => emark_no s ⟨#[40]⟩ i pl g ((w.alloc (.cells zero9 52)).drewN n) (pat_drewN hB.out.1 n) h0 h1 hs (by decide) (by rw [hpm]; exact hm))
  have hlt : blanks s i < s.size := letterAt_lt hlet
  have hd : decide (blanks s i < (s.size : Int)) = true := decide_eq_true hlt
  have hr := bt_range s (blanks s i)
  have HD := Lib.hid (fun w => ((show digitB (bt s (blanks s i)) = false by rw [← digit_bt hlt]; exact hdg) ▸ edigit_any (bt s (blanks s i)) w hr.1 hr.2 : Calls Tryz.prog 102 #[.int .u8 (bt s (blanks s i))] w fun e w' => e = .returned (.bool false) ∧ w = w'))
  have hb34 : (bt s (blanks s i) == 34) = false := by simpa [isAt, hlt] using hqu
  have HWE := Lib.hid hwe
  clear h hm hpm hdg hqu hpa hlet hr hwe hne
  generalize wordAt s i = t at *
  generalize wordAtEnd s i = e1 at *
  generalize blanks s i = q at *
  have hwr : IntKind.i64.wrap (q + (t.size : Int)) = q + (t.size : Int) := by rw [IntKind.wrap_i64]; omega
  subst ht
  have hwr2 : IntKind.i64.wrap (q + 5) = q + 5 := hwr
  go_enter Tryz.func178, Tryz.ntmps178
  go_upto_region 16 with (first
    | (go_at_call 46; refine HA.out.mono ?_; rintro e w' ⟨rfl, rfl⟩)
    | (go_at_call 57; refine HW.out.mono ?_; rintro e w' ⟨rfl, n, rfl⟩)
    | (go_at_call 102; refine (HD.out _).mono ?_; rintro e w' ⟨rfl, rfl⟩)
    | (go_at_call 93; refine (HM.out _).mono ?_; rintro e w' ⟨rfl, m, rfl⟩))
  refine abs_world (F := fun W => Box s i pl 0 g w.heap.size w W) ⟨pat_drewN hB.out.1 _, hB.out.2.1.drewN _, hB.out.2.2⟩ (fun W hW => ?_)
  have HBW := Lib.hid hW
  clear gc gcf hW
  have gc := cell_blk HBW.out.1
  have gcf := frozen_blk HBW.out.1
  have gb := cell_blk HBW.out.2.2
  have gbf := frozen_blk HBW.out.2.2
  have HB1 := Lib.hid (HBW.out.at (j := q + 5) hgne)
  go_wp2_with fail
  refine (vtruth_any _ _).mono ?_
  rintro e w2 ⟨rfl, hk2⟩
  have HB2 := Lib.hid (HB1.out.go hk2)
  clear hk2
  go_wp2_with fail
  refine (eliteral_any _ _ _ _ _ _ _ _ _ _ _).mono ?_
  rintro e w3 ⟨rfl, hk3⟩
  have HB3 := Lib.hid (HB2.out.go hk3)
  have gb3 := cell_blk HB3.out.2.2
  have gbf3 := frozen_blk HB3.out.2.2
  clear hk3
  go_wp2
  refine abs_post (F := fun W => W.heap[w.heap.size]? = some (.cells #[.string litS, .string eS, .int .i64 1, .bool false, .int .i64 0, .string eS, .slice none 0 0, .slice none 0 0, .slice none 0 0] 52 (0, 0)) ∧ PAt s (q + 5) pl 0 g W ∧ Keeps [g] w W) (HB3.out.lay hgne (Nat.le_refl _) _ _ _ _ _ _ _ _ _) (fun W hW => ?_)
  have cr := cell_blk hW.1
  exact bodyPost_ret (v := (litT (boolV false)).agg (.slice none 0 0) (.slice none 0 0) (.slice none 0 0)) (by simp [results, Tryz.results178, go_sem, cr]; exact ⟨rfl, rfl, rfl, rfl, rfl, rfl⟩) rfl (psays_ok s pl g w rfl (leaf_xrep _ _ _ _ _ _ _ _) (by have e2 : e1 = q + 5 := HWE.out; rw [e2]; exact hW.2.1) hW.2.2)
set_option maxRecDepth 20000 in
set_option maxHeartbeats 1000000 in
theorem eone_null (h : PAt s i pl 0 g w) (h0 : 0 ≤ i) (h1 : i ≤ s.size) (hs : s.size ≤ 1000000) (ht : wordAt s i = nullS) :
    Calls Tryz.prog 178 #[.pointer (some ⟨g, 0, none⟩)] w (PSays s (.ok (litT VT.zero) (wordAtEnd s i)) pl g w) := by
  have hne : wordAt s i ≠ eS := by rw [ht]; decide
  have hlet := word_letter hne
  obtain ⟨hdg, hqu, hpa⟩ := letter_not hlet
  have hm : markAt s i ⟨#[40]⟩ < 0 := by
    by_cases hm : 0 ≤ markAt s i ⟨#[40]⟩
    · have hb := mark_byte h0 hm
      rw [show ((40 : UInt8).toNat : Int) = 40 from rfl] at hb
      rw [hpa] at hb; cases hb
    · omega
  obtain ⟨hwe, hws⟩ := word_end h0 hne
  have hglt := hk_lt h
  have hB := Lib.hid (box_new h)
  have hgne : w.heap.size ≠ g := by omega
  have HA := Lib.hid (eahead_any s i pl 0 g _ hB.out.1 h0 hs)
  have HW := Lib.hid (eword_any s i pl 0 g _ hB.out.1 h0 h1 hs)
  have hb0 := blanks_ge0 s i h0
  have gc := cell_blk hB.out.1
  have gcf := frozen_blk hB.out.1
  have hbt := bt_at s (blanks s i)
  have hpm : pmark s i ⟨#[40]⟩ = markAt s i ⟨#[40]⟩ := pmark_nl (by decide +kernel)
  have HM := Lib.hid (fun n => emark_no s ⟨#[40]⟩ i pl g ((w.alloc (.cells zero9 52)).drewN n) (pat_drewN hB.out.1 n) h0 h1 hs (by decide) (by rw [hpm]; exact hm))
  have hlt : blanks s i < s.size := letterAt_lt hlet
  have hd : decide (blanks s i < (s.size : Int)) = true := decide_eq_true hlt
  have hr := bt_range s (blanks s i)
  have HD := Lib.hid (fun w => ((show digitB (bt s (blanks s i)) = false by rw [← digit_bt hlt]; exact hdg) ▸ edigit_any (bt s (blanks s i)) w hr.1 hr.2 : Calls Tryz.prog 102 #[.int .u8 (bt s (blanks s i))] w fun e w' => e = .returned (.bool false) ∧ w = w'))
  have hb34 : (bt s (blanks s i) == 34) = false := by simpa [isAt, hlt] using hqu
  have HWE := Lib.hid hwe
  clear h hm hpm hdg hqu hpa hlet hr hwe hne
  generalize wordAt s i = t at *
  generalize wordAtEnd s i = e1 at *
  generalize blanks s i = q at *
  have hwr : IntKind.i64.wrap (q + (t.size : Int)) = q + (t.size : Int) := by rw [IntKind.wrap_i64]; omega
  subst ht
  have hwr2 : IntKind.i64.wrap (q + 4) = q + 4 := hwr
  go_enter Tryz.func178, Tryz.ntmps178
  go_upto_region 16 with (first
    | (go_at_call 46; refine HA.out.mono ?_; rintro e w' ⟨rfl, rfl⟩)
    | (go_at_call 57; refine HW.out.mono ?_; rintro e w' ⟨rfl, n, rfl⟩)
    | (go_at_call 102; refine (HD.out _).mono ?_; rintro e w' ⟨rfl, rfl⟩)
    | (go_at_call 93; refine (HM.out _).mono ?_; rintro e w' ⟨rfl, m, rfl⟩))
  refine abs_world (F := fun W => Box s i pl 0 g w.heap.size w W) ⟨pat_drewN hB.out.1 _, hB.out.2.1.drewN _, hB.out.2.2⟩ (fun W hW => ?_)
  have HBW := Lib.hid hW
  clear gc gcf hW
  have gc := cell_blk HBW.out.1
  have gcf := frozen_blk HBW.out.1
  have gb := cell_blk HBW.out.2.2
  have gbf := frozen_blk HBW.out.2.2
  have HB1 := Lib.hid (HBW.out.at (j := q + 4) hgne)
  go_wp2_with fail
  refine (eliteral_any _ _ _ _ _ _ _ _ _ _ _).mono ?_
  rintro e w3 ⟨rfl, hk3⟩
  have HB3 := Lib.hid (HB1.out.go hk3)
  have gb3 := cell_blk HB3.out.2.2
  have gbf3 := frozen_blk HB3.out.2.2
  clear hk3
  go_wp2
  refine abs_post (F := fun W => W.heap[w.heap.size]? = some (.cells #[.string litS, .string eS, .int .i64 0, .bool false, .int .i64 0, .string eS, .slice none 0 0, .slice none 0 0, .slice none 0 0] 52 (0, 0)) ∧ PAt s (q + 4) pl 0 g W ∧ Keeps [g] w W) (HB3.out.lay hgne (Nat.le_refl _) _ _ _ _ _ _ _ _ _) (fun W hW => ?_)
  have cr := cell_blk hW.1
  exact bodyPost_ret (v := (litT VT.zero).agg (.slice none 0 0) (.slice none 0 0) (.slice none 0 0)) (by simp [results, Tryz.results178, go_sem, cr]; exact ⟨rfl, rfl, rfl, rfl, rfl, rfl⟩) rfl (psays_ok s pl g w rfl (leaf_xrep _ _ _ _ _ _ _ _) (by have e2 : e1 = q + 4 := HWE.out; rw [e2]; exact hW.2.1) hW.2.2)
set_option maxRecDepth 20000 in
set_option maxHeartbeats 1000000 in
theorem eone_call (h : PAt s i pl 0 g w) (h0 : 0 ≤ i) (h1 : i ≤ s.size) (hs : s.size ≤ 1000000) (r : Res) (ha : 0 < argsN (wordAt s i))
    (HC0 : ∀ W, PAt s (wordAtEnd s i) pl 0 g W → Keeps [g] w W → Calls Tryz.prog 186 #[.pointer (some ⟨g, 0, none⟩), .string (wordAt s i), .int .i64 (argsN (wordAt s i))] W (PSays s r pl g W)) :
    Calls Tryz.prog 178 #[.pointer (some ⟨g, 0, none⟩)] w (PSays s r pl g w) := by
  have hz := argsN_ne ha
  have hne : wordAt s i ≠ eS := hz.1
  have hlet := word_letter hne
  obtain ⟨hdg, hqu, hpa⟩ := letter_not hlet
  have hm : markAt s i ⟨#[40]⟩ < 0 := by
    by_cases hm : 0 ≤ markAt s i ⟨#[40]⟩
    · have hb := mark_byte h0 hm
      rw [show ((40 : UInt8).toNat : Int) = 40 from rfl] at hb
      rw [hpa] at hb; cases hb
    · omega
  obtain ⟨hwe, hws⟩ := word_end h0 hne
  have hglt := hk_lt h
  have hB := Lib.hid (box_new h)
  have hgne : w.heap.size ≠ g := by omega
  have HA := Lib.hid (eahead_any s i pl 0 g _ hB.out.1 h0 hs)
  have HW := Lib.hid (eword_any s i pl 0 g _ hB.out.1 h0 h1 hs)
  have hb0 := blanks_ge0 s i h0
  have gc := cell_blk hB.out.1
  have gcf := frozen_blk hB.out.1
  have hbt := bt_at s (blanks s i)
  have hpm : pmark s i ⟨#[40]⟩ = markAt s i ⟨#[40]⟩ := pmark_nl (by decide +kernel)
  have HM := Lib.hid (fun n => emark_no s ⟨#[40]⟩ i pl g ((w.alloc (.cells zero9 52)).drewN n) (pat_drewN hB.out.1 n) h0 h1 hs (by decide) (by rw [hpm]; exact hm))
  have hlt : blanks s i < s.size := letterAt_lt hlet
  have hd : decide (blanks s i < (s.size : Int)) = true := decide_eq_true hlt
  have hr := bt_range s (blanks s i)
  have HD := Lib.hid (fun w => ((show digitB (bt s (blanks s i)) = false by rw [← digit_bt hlt]; exact hdg) ▸ edigit_any (bt s (blanks s i)) w hr.1 hr.2 : Calls Tryz.prog 102 #[.int .u8 (bt s (blanks s i))] w fun e w' => e = .returned (.bool false) ∧ w = w'))
  have hb34 : (bt s (blanks s i) == 34) = false := by simpa [isAt, hlt] using hqu
  have HWE := Lib.hid hwe
  have hz0 := wo_nil hne
  have HAR := Lib.hid (earity_any (wordAt s i))
  have ha0 : (0 : Int) < argsN (wordAt s i) := by omega
  have HCX := Lib.hid HC0
  clear h hm hpm hdg hqu hpa hlet hr hwe hne ha HC0
  generalize wordAt s i = t at *
  generalize wordAtEnd s i = e1 at *
  generalize blanks s i = q at *
  have hwr : IntKind.i64.wrap (q + (t.size : Int)) = q + (t.size : Int) := by rw [IntKind.wrap_i64]; omega
  have z1 := tl_ne (l := [111, 114]) hz.2.1
  have z2 := tl_ne (l := [97, 110, 100]) hz.2.2.1
  have z3 := tl_ne (l := [110, 111, 116]) hz.2.2.2.1
  have z4 := tl_ne (l := [116, 114, 117, 101]) hz.2.2.2.2.1
  have z5 := tl_ne (l := [102, 97, 108, 115, 101]) hz.2.2.2.2.2.1
  have z6 := tl_ne (l := [110, 117, 108, 108]) hz.2.2.2.2.2.2.1
  have z7 := tl_ne (l := [116, 104, 105, 115]) hz.2.2.2.2.2.2.2
  clear hz
  go_enter Tryz.func178, Tryz.ntmps178
  go_upto_region 16 with (first
    | (go_at_call 46; refine HA.out.mono ?_; rintro e w' ⟨rfl, rfl⟩)
    | (go_at_call 57; refine HW.out.mono ?_; rintro e w' ⟨rfl, n, rfl⟩)
    | (go_at_call 102; refine (HD.out _).mono ?_; rintro e w' ⟨rfl, rfl⟩)
    | (go_at_call 93; refine (HM.out _).mono ?_; rintro e w' ⟨rfl, m, rfl⟩))
  refine abs_world (F := fun W => Box s i pl 0 g w.heap.size w W) ⟨pat_drewN hB.out.1 _, hB.out.2.1.drewN _, hB.out.2.2⟩ (fun W hW => ?_)
  have HBW := Lib.hid hW
  clear gc gcf hW
  have gc := cell_blk HBW.out.1
  have gcf := frozen_blk HBW.out.1
  have gb := cell_blk HBW.out.2.2
  have gbf := frozen_blk HBW.out.2.2
  have HB1 := Lib.hid (HBW.out.at (j := q + t.size) hgne)
  go_wp2_with (go_at_call 52; refine (HAR.out _).mono ?_; rintro e w' ⟨rfl, rfl⟩)
  refine (HCX.out _ (by rw [HWE.out]; exact HB1.out.1) (by exact HB1.out.2.1)).mono ?_
  rintro e w1 hx
  obtain ⟨T, vi, vk, va, rfl, hrep, hk1, hm⟩ := psays_at hx
  obtain ⟨a1, c1, a2, c2, a3, c3, rfl, rfl, rfl⟩ := xrep_shape hrep
  have HB2 : Hid (w1.heap[w.heap.size]? = some (.cells zero9 52 (0, 0))) := Lib.hid (hk1.heap HB1.out.2.2 (by simpa using hgne))
  have HX := Lib.hid (lay_says (b := w.heap.size) (w := w) HB1.out.2.1 (Nat.le_refl _) (hk_lt HB1.out.2.2) hgne hrep hk1 hm)
  have gb3 := cell_blk HB2.out
  have gbf3 := frozen_blk HB2.out
  clear hx hrep hk1 hm
  go_wp2
  refine abs_post (F := fun W => W.heap[w.heap.size]? = some (.cells (T.nine (.slice a1 T.lit.its.length c1) (.slice a2 T.lit.ks.length c2) (.slice a3 T.args.length c3)) 52 (0, 0)) ∧ T.Rep W (w.heap.size ≤ ·) (.slice a1 T.lit.its.length c1) (.slice a2 T.lit.ks.length c2) (.slice a3 T.args.length c3) ∧ Keeps [g] w W ∧ At s r pl g T W) ⟨blk_sets9 HB2.out _ _ _ _ _ _ _ _ _, HX.out _ _ _ _ _ _ _ _ _⟩ (fun W hW => ?_)
  have cr := cell_blk hW.1
  exact bodyPost_ret (v := T.agg (.slice a1 T.lit.its.length c1) (.slice a2 T.lit.ks.length c2) (.slice a3 T.args.length c3)) (by simp [results, Tryz.results178, go_sem, cr]) rfl (at_psays rfl hW.2.1 hW.2.2.1 hW.2.2.2)
end
end Go.Proofs.YtdlkdecigpaaaaaGreatDoor
namespace Go.Proofs.YtdlkdecigpaaaaaGreatDoor
set_option linter.unusedVariables false
set_option linter.unusedSimpArgs false
open Go.RowKit

/-- A call in whatever world of which these facts hold. -/
theorem abs_calls {P : Program} {f : FuncId} {args : Array Value} {Q : Ending → World → Prop} {W : World} (F : World → Prop) (hF : F W) (h : ∀ W', F W' → Calls P f args W' Q) : Calls P f args W Q := h W hF
section
variable (s : ByteArray) (i pl : Int) (g : Nat) (w : World) (r r3 : Res)
set_option maxRecDepth 20000 in
set_option maxHeartbeats 1000000 in
theorem eone_in (h : PAt s i pl 0 g w) (h0 : 0 ≤ i) (h1 : i ≤ s.size) (hs : s.size ≤ 1000000) (hm : 0 ≤ markAt s i ⟨#[40]⟩) (hr3 : Par s (.lev 0) (markAt s i ⟨#[40]⟩) r3)
    (he3 : ∀ p c, r3 = .err p c → r = .err p c ∧ c ≠ 0) (ho3 : ∀ U p, r3 = .ok U p → (markAt s p ⟨#[41]⟩ < 0 ∧ r = .err (blanks s p) 1) ∨ (0 ≤ markAt s p ⟨#[41]⟩ ∧ r = .ok U (markAt s p ⟨#[41]⟩)))
    (HO : ∀ (i' : Int) (r' : Res) (W : World), i < i' → i' ≤ s.size → Par s (.lev 0) i' r' → PAt s i' pl 0 g W → Keeps [g] w W → Calls Tryz.prog 45 #[.pointer (some ⟨g, 0, none⟩)] W (PSays s r' pl g W)) :
    Calls Tryz.prog 178 #[.pointer (some ⟨g, 0, none⟩)] w (PSays s r pl g w) := by
  have hby := mark_byte h0 hm
  rw [show ((40 : UInt8).toNat : Int) = 40 from rfl] at hby
  have hlt : blanks s i < s.size := isAt_lt hby
  have hb40 : bt s (blanks s i) = 40 := by simp only [isAt, Bool.and_eq_true, beq_iff_eq] at hby; exact hby.2
  have hmp := mark_pos hm (by decide)
  have hglt := hk_lt h
  have hB := Lib.hid (box_new h)
  have hgne : w.heap.size ≠ g := by omega
  have HA := Lib.hid (eahead_any s i pl 0 g _ hB.out.1 h0 hs)
  have HW := Lib.hid (eword_any s i pl 0 g _ hB.out.1 h0 h1 hs)
  have hb0 := blanks_ge0 s i h0
  have gc := cell_blk hB.out.1
  have gcf := frozen_blk hB.out.1
  have hbt := bt_at s (blanks s i)
  have hpm : pmark s i ⟨#[40]⟩ = markAt s i ⟨#[40]⟩ := pmark_nl (by decide +kernel)
  have hM := fun n => emark_yes s ⟨#[40]⟩ i pl g ((w.alloc (.cells zero9 52)).drewN n) (pat_drewN hB.out.1 n) h0 h1 hs (by decide) (by decide) (by rw [hpm]; exact hm)
  rw [hpm] at hM
  have HM := Lib.hid hM
  have hd : decide (blanks s i < (s.size : Int)) = true := decide_eq_true hlt
  have HD := Lib.hid (fun w => (edigit_any 40 w (by omega) (by omega) : Calls Tryz.prog 102 #[.int .u8 40] w fun e w' => e = .returned (.bool false) ∧ w = w'))
  rw [hb40] at hbt
  have HR3 := Lib.hid hr3
  have HE3 := Lib.hid he3
  have HO3 := Lib.hid ho3
  have HOX := Lib.hid HO
  clear h hm hpm hM hby hb40 hr3 he3 ho3 HO
  generalize wordAt s i = t at *
  generalize markAt s i ⟨#[40]⟩ = e1 at *
  generalize blanks s i = q at *
  go_enter Tryz.func178, Tryz.ntmps178
  go_wp2_with (first
    | (go_at_call 46; refine HA.out.mono ?_; rintro e w' ⟨rfl, rfl⟩)
    | (go_at_call 57; refine HW.out.mono ?_; rintro e w' ⟨rfl, n, rfl⟩)
    | (go_at_call 102; refine (HD.out _).mono ?_; rintro e w' ⟨rfl, rfl⟩)
    | (go_at_call 93; refine (HM.out _).mono ?_; rintro e w3 ⟨rfl, hp3, hk3⟩; have H3 := Lib.hid (Box.to (b := w.heap.size) (w := w) (w1 := (w.alloc (.cells zero9 52)).drewN _) ⟨pat_drewN hB.out.1 _, hB.out.2.1.drewN _, hB.out.2.2⟩ hgne hk3 hp3); clear hp3 hk3))
  refine (HOX.out e1 r3 w3 hmp.1 hmp.2 HR3.out H3.out.1 H3.out.2.1).mono ?_
  rintro e2 w4 hx
  obtain ⟨T, vi, vk, va, rfl, hrep, hk1, hm1⟩ := psays_at hx
  obtain ⟨a1, c1, a2, c2, a3, c3, rfl, rfl, rfl⟩ := xrep_shape hrep
  have HV := Lib.hid (varx_new (w := w) H3.out.2.2 H3.out.2.1 hglt hrep hk1 hm1)
  have hwz : w.heap.size < w4.heap.size := Nat.lt_of_lt_of_le (hk_lt H3.out.2.2) hk1.size
  clear hx hrep hk1 hm1 gc gcf
  go_wp2_with fail
  refine abs_calls (F := fun W => VarX s r3 pl g w4.heap.size T (.slice a1 T.lit.its.length c1) (.slice a2 T.lit.ks.length c2) (.slice a3 T.args.length c3) w W) HV.out (fun W6 HW6 => ?_)
  have H6 := Lib.hid HW6
  clear HW6 HV
  cases r3 with
  | err p' c' =>
    obtain ⟨hre, hc'⟩ := HE3.out p' c' rfl
    have HRE := Lib.hid hre
    obtain ⟨a, ha0, ha1, hpa⟩ : ∃ a : Int, 0 ≤ a ∧ a ≤ s.size ∧ PAt s a p' c' g W6 := H6.out.at_
    refine (eneed_fail s a p' g W6 ⟨#[41]⟩ c' hpa ha0 hs hc').mono ?_
    rintro e' w' ⟨rfl, rfl⟩
    have gb3 := cell_blk H6.out.blk
    have gb4 := cell_blk H6.out.box
    have gbf4 := frozen_blk H6.out.box
    have HE := Lib.hid (H6.out.ret hglt)
    clear hpa hre hc'
    go_wp2_with fail
    refine abs_post (F := fun W => ToldX s (.err p' c') pl g w.heap.size T (.slice a1 T.lit.its.length c1) (.slice a2 T.lit.ks.length c2) (.slice a3 T.args.length c3) w W) HE.out (fun W hW => ?_)
    have cr := cell_blk hW.blk
    exact bodyPost_ret (v := T.agg (.slice a1 T.lit.its.length c1) (.slice a2 T.lit.ks.length c2) (.slice a3 T.args.length c3)) (by simp [results, Tryz.results178, go_sem, cr]) rfl (HRE.out ▸ at_psays rfl hW.rep hW.keeps hW.at_)
  | ok U p' =>
    obtain ⟨hT, hpa⟩ : T = U ∧ PAt s p' pl 0 g W6 := H6.out.at_
    subst hT
    have hpq := par_pos HR3.out (by omega) hmp.2
    have hpp1 : e1 < p' := hpq.2
    have hpp2 : p' ≤ s.size := hpq.1.2
    have hpm : pmark s p' ⟨#[41]⟩ = markAt s p' ⟨#[41]⟩ := pmark_nl (by decide +kernel)
    clear hpq
    rcases HO3.out T p' rfl with ⟨hno, hre⟩ | ⟨hy, hre⟩
    · have HRE := Lib.hid hre
      refine (eneed_no s p' pl g W6 ⟨#[41]⟩ hpa (by omega) hpp2 hs (by decide) (by rw [hpm]; exact hno)).mono ?_
      rintro e' w7 ⟨rfl, hp7, hk7⟩
      have H7 := Lib.hid (H6.out.go hk7 (show At s (.err (blanks s p') 1) pl g T w7 from (show ∃ a : Int, 0 ≤ a ∧ a ≤ s.size ∧ PAt s a (blanks s p') 1 g w7 from ⟨p', by omega, hpp2, hp7⟩)) hglt hwz)
      have gb3 := cell_blk H7.out.blk
      have gb4 := cell_blk H7.out.box
      have gbf4 := frozen_blk H7.out.box
      have HE := Lib.hid (H7.out.ret hglt)
      clear hpa hre hp7 hk7 hno
      go_wp2_with fail
      refine abs_post (F := fun W => ToldX s (.err (blanks s p') 1) pl g w.heap.size T (.slice a1 T.lit.its.length c1) (.slice a2 T.lit.ks.length c2) (.slice a3 T.args.length c3) w W) HE.out (fun W hW => ?_)
      have cr := cell_blk hW.blk
      exact bodyPost_ret (v := T.agg (.slice a1 T.lit.its.length c1) (.slice a2 T.lit.ks.length c2) (.slice a3 T.args.length c3)) (by simp [results, Tryz.results178, go_sem, cr]) rfl (HRE.out ▸ at_psays rfl hW.rep hW.keeps hW.at_)
    · have HRE := Lib.hid hre
      have hY := eneed_yes s p' pl g W6 ⟨#[41]⟩ hpa (by omega) hpp2 hs (by decide) (by decide) (by rw [hpm]; exact hy)
      rw [hpm] at hY
      refine hY.mono ?_
      rintro e' w7 ⟨rfl, hp7, hk7⟩
      have H7 := Lib.hid (H6.out.go hk7 (show At s (.ok T (markAt s p' ⟨#[41]⟩)) pl g T w7 from ⟨rfl, hp7⟩) hglt hwz)
      have gb3 := cell_blk H7.out.blk
      have gb4 := cell_blk H7.out.box
      have gbf4 := frozen_blk H7.out.box
      have HE := Lib.hid (H7.out.ret hglt)
      clear hpa hre hp7 hk7 hy hY
      go_wp2_with fail
      refine abs_post (F := fun W => ToldX s (.ok T (markAt s p' ⟨#[41]⟩)) pl g w.heap.size T (.slice a1 T.lit.its.length c1) (.slice a2 T.lit.ks.length c2) (.slice a3 T.args.length c3) w W) HE.out (fun W hW => ?_)
      have cr := cell_blk hW.blk
      exact bodyPost_ret (v := T.agg (.slice a1 T.lit.its.length c1) (.slice a2 T.lit.ks.length c2) (.slice a3 T.args.length c3)) (by simp [results, Tryz.results178, go_sem, cr]) rfl (HRE.out ▸ at_psays rfl hW.rep hW.keeps hW.at_)
end
end Go.Proofs.YtdlkdecigpaaaaaGreatDoor
