/- Put together: The parser's int; What the parser's int and text answer; The parser's one: a text; The parser's one: an int; an answer handed on. -/
import Derived.Test.YtdlkdecigpaaaaaGreatDoorMg25
namespace Go.Proofs.YtdlkdecigpaaaaaGreatDoor
set_option linter.unusedVariables false
set_option linter.unusedSimpArgs false
open Go.RowKit

/-- What a parser's part answers: a tree, in memory of its own, and where the parser is. -/
def PSays (s : ByteArray) (r : Res) (pl : Int) (g : Nat) (w : World) (e : Ending) (w' : World) : Prop :=
  ∃ (T : XT) (vi vk va : Value), e = .returned (T.agg vi vk va) ∧ T.Rep w' (w.heap.size ≤ ·) vi vk va ∧ Keeps [g] w w' ∧
    match r with | .ok U p => T = U ∧ PAt s p pl 0 g w' | .err p c => ∃ a : Int, 0 ≤ a ∧ a ≤ s.size ∧ PAt s a p c g w'
abbrev zero9 : Array Value := #[.string eS, .string eS, .int .i64 0, .bool false, .int .i64 0, .string eS, .slice none 0 0, .slice none 0 0, .slice none 0 0]
/-- Block b bears a tree's zero; the parser is somewhere. -/
def Box (s : ByteArray) (a pl c : Int) (g b : Nat) (w0 w : World) : Prop := PAt s a pl c g w ∧ Keeps [g] w0 w ∧ w.heap[b]? = some (.cells zero9 52 (0, 0))
section
variable {s : ByteArray} {i pl c : Int} {g : Nat} {w : World}
theorem box_new (h : PAt s i pl c g w) : Box s i pl c g w.heap.size w (w.alloc (.cells zero9 52)) := ⟨pat_alloc h _, (Keeps.refl _ _).alloc _, new_blk _ _⟩
theorem Box.go {b : Nat} {w1 w2 : World} (h : Box s i pl c g b w w1) (k : Keeps [] w1 w2) : Box s i pl c g b w w2 :=
  ⟨pat_keeps h.1 k (by simp), h.2.1.trans (k.mono (by simp)), k.same h.2.2⟩
theorem Box.to {b : Nat} {w1 w2 : World} {j p2 c2 : Int} (h : Box s i pl c g b w w1) (hb : b ≠ g) (k : Keeps [g] w1 w2) (hp : PAt s j p2 c2 g w2) : Box s j p2 c2 g b w w2 :=
  ⟨hp, h.2.1.trans k, k.heap h.2.2 (by simpa using hb)⟩
theorem Box.at {b : Nat} {w1 : World} {j : Int} (h : Box s i pl c g b w w1) (hb : b ≠ g) : Box s j pl c g b w (w1.setCell ⟨g, 1, none⟩ (.int .i64 j)) :=
  h.to hb ((Keeps.refl _ _).set (.inl (by simp)) _) (pat_at h.1)
end
abbrev sets9 (W : World) (b : Nat) (v0 v1 v2 v3 v4 v5 v6 v7 v8 : Value) : World :=
  ((((((((W.setCell ⟨b, 0, none⟩ v0).setCell ⟨b, 1, none⟩ v1).setCell ⟨b, 2, none⟩ v2).setCell ⟨b, 3, none⟩ v3).setCell ⟨b, 4, none⟩ v4).setCell ⟨b, 5, none⟩ v5).setCell ⟨b, 6, none⟩ v6).setCell ⟨b, 7, none⟩ v7).setCell ⟨b, 8, none⟩ v8
theorem blk_sets9 {W : World} {b : Nat} {t : TypeId} {c0 c1 c2 c3 c4 c5 c6 c7 c8 : Value} (h : W.heap[b]? = some (.cells #[c0, c1, c2, c3, c4, c5, c6, c7, c8] t (0, 0))) (v0 v1 v2 v3 v4 v5 v6 v7 v8 : Value) :
    (sets9 W b v0 v1 v2 v3 v4 v5 v6 v7 v8).heap[b]? = some (.cells #[v0, v1, v2, v3, v4, v5, v6, v7, v8] t (0, 0)) := by
  have h0 := set_to (cs' := #[v0, c1, c2, c3, c4, c5, c6, c7, c8]) h 0 v0 rfl
  have h1 := set_to (cs' := #[v0, v1, c2, c3, c4, c5, c6, c7, c8]) h0 1 v1 rfl
  have h2 := set_to (cs' := #[v0, v1, v2, c3, c4, c5, c6, c7, c8]) h1 2 v2 rfl
  have h3 := set_to (cs' := #[v0, v1, v2, v3, c4, c5, c6, c7, c8]) h2 3 v3 rfl
  have h4 := set_to (cs' := #[v0, v1, v2, v3, v4, c5, c6, c7, c8]) h3 4 v4 rfl
  have h5 := set_to (cs' := #[v0, v1, v2, v3, v4, v5, c6, c7, c8]) h4 5 v5 rfl
  have h6 := set_to (cs' := #[v0, v1, v2, v3, v4, v5, v6, c7, c8]) h5 6 v6 rfl
  have h7 := set_to (cs' := #[v0, v1, v2, v3, v4, v5, v6, v7, c8]) h6 7 v7 rfl
  have h8 := set_to (cs' := #[v0, v1, v2, v3, v4, v5, v6, v7, v8]) h7 8 v8 rfl
  exact h8
theorem keeps_sets9 (W : World) (b : Nat) (v0 v1 v2 v3 v4 v5 v6 v7 v8 : Value) : Keeps [b] W (sets9 W b v0 v1 v2 v3 v4 v5 v6 v7 v8) :=
  (((((((((Keeps.refl _ _).set (.inl (by simp)) _).set (.inl (by simp)) _).set (.inl (by simp)) _).set (.inl (by simp)) _).set (.inl (by simp)) _).set (.inl (by simp)) _).set (.inl (by simp)) _).set (.inl (by simp)) _).set (.inl (by simp)) _
/-- A tree laid into its box. -/
theorem Box.lay {s : ByteArray} {i pl c : Int} {g b : Nat} {w w1 : World} (h : Box s i pl c g b w w1) (hb : b ≠ g) (hw : w.heap.size ≤ b) (v0 v1 v2 v3 v4 v5 v6 v7 v8 : Value) :
    (sets9 w1 b v0 v1 v2 v3 v4 v5 v6 v7 v8).heap[b]? = some (.cells #[v0, v1, v2, v3, v4, v5, v6, v7, v8] 52 (0, 0)) ∧ PAt s i pl c g (sets9 w1 b v0 v1 v2 v3 v4 v5 v6 v7 v8) ∧ Keeps [g] w (sets9 w1 b v0 v1 v2 v3 v4 v5 v6 v7 v8) :=
  ⟨blk_sets9 h.2.2 _ _ _ _ _ _ _ _ _, pat_keeps h.1 (keeps_sets9 _ _ _ _ _ _ _ _ _ _ _) (by simpa using fun e => hb e.symm), h.2.1.step (keeps_sets9 _ _ _ _ _ _ _ _ _ _ _) (fun k hk hk2 => by simp at hk; omega)⟩
theorem abs_post {P : Program} {f : Func} {Q : Ending → World → Prop} {x : Exit} {a : Act} {W : World} (F : World → Prop) (hF : F W) (h : ∀ W', F W' → bodyPost P f Q x a W') : bodyPost P f Q x a W := h W hF
section NUM
variable (s : ByteArray) (i pl q : Int) (g : Nat) (w : World)
set_option maxRecDepth 20000 in
set_option maxHeartbeats 8000000 in
theorem enumber_ok (h : PAt s i pl 0 g w) (hv : VarOk w) (h0 : 0 ≤ q) (hs : s.size ≤ 1000000) (hd : digitAt s q = true)
    (h1 : ¬ (bt s q = 48 ∧ q + 1 < digitsEnd s q)) (h2 : parseCode (cutS s q (digitsEnd s q)) = 0) (h3 : goesAt s (digitsEnd s q) = false) :
    Calls Tryz.prog 181 #[.pointer (some ⟨g, 0, none⟩), .int .i64 q] w fun e w' => e = .returned ((litT (nrV (parseVal (cutS s q (digitsEnd s q))))).agg (.slice none 0 0) (.slice none 0 0) (.slice none 0 0)) ∧ PAt s (digitsEnd s q) pl 0 g w' ∧ Keeps [g] w w' := by
  have hglt := hk_lt h
  have hB := Lib.hid (box_new h)
  have hgne : w.heap.size ≠ g := by omega
  obtain ⟨hp1, hp2⟩ := digits_pos h0 hd
  have hE := fun (W : World) (hW : PAt s i pl 0 g W) => eend_any 102 (enters_of Tryz.func102 (by kernel_rfl) rfl) digitB digitAt edigit_any (fun s i h => digit_bt h) (fun s i h => digitAt_lt h) s q i pl 0 g W hW h0 hs
  have HDE : Hid (digitsEnd s q = upTo (digitAt s) s.size q) := Lib.hid rfl
  have HE := Lib.hid (hE _ hB.out.1)
  rw [← HDE.out] at HE
  have hcs : (cutS s q (digitsEnd s q)).size ≤ 1000000 := by rw [ByteArray.size_extract]; omega
  have HW := Lib.hid (wparse_any (cutS s q (digitsEnd s q)) _ hcs (hv.keeps ((Keeps.refl [] w).alloc (.cells zero9 52)) (by simp)))
  have gc := cell_blk hB.out.1
  have hbt := bt_at s q
  have hbq : q < s.size := digitAt_lt hd
  generalize parseVal (cutS s q (digitsEnd s q)) = pv at *
  have hbe := bt_at s (digitsEnd s q)
  have HGO := Lib.hid h3
  rw [h2] at HW
  generalize digitsEnd s q = e1 at *
  clear h hv hE h2 h3 hd hcs
  cases c48 : (bt s q == 48)
  · clear h1
    by_cases ce : e1 < s.size
    · skip
      have hrg := bt_range s e1
      have HG := Lib.hid (fun w => ((show goesB (bt s e1) = false by rw [← goes_bt ce]; exact HGO.out) ▸ egoes_any (bt s e1) w hrg.1 hrg.2 : Calls Tryz.prog 82 #[.int .u8 (bt s e1)] w fun e w' => e = .returned (.bool false) ∧ w = w'))
      go_enter Tryz.func181, Tryz.ntmps181
      go_wp2_with (first
        | (go_at_call 81; refine HE.out.mono ?_; rintro e w' ⟨rfl, rfl⟩)
        | (go_at_call 187; refine HW.out.mono ?_; rintro e w1 ⟨rfl, hb1⟩; have HB1 := Lib.hid (hB.out.go (Keeps.below hb1)); have gc1 := cell_blk HB1.out.1; have gf1 := frozen_blk HB1.out.1; clear hb1)
        | (go_at_call 82; refine (HG.out _).mono ?_; rintro e w' ⟨rfl, rfl⟩))
      refine (vnumber_any _ _).mono ?_
      rintro e w2 ⟨rfl, hk2⟩
      have HB2 := Lib.hid ((HB1.out.at (j := e1) hgne).go hk2)
      clear hk2
      go_wp2_with fail
      refine (eliteral_any _ _ _ _ _ _ _ _ _ _ _).mono ?_
      rintro e w3 ⟨rfl, hk3⟩
      have HB3 := Lib.hid (HB2.out.go hk3)
      have gb3 := cell_blk HB3.out.2.2
      have gbf3 := frozen_blk HB3.out.2.2
      clear hk3
      go_wp2
      refine abs_post (F := fun W => W.heap[w.heap.size]? = some (.cells #[.string litS, .string eS, .int .i64 2, .bool false, .int .i64 pv, .string eS, .slice none 0 0, .slice none 0 0, .slice none 0 0] 52 (0, 0)) ∧ PAt s e1 pl 0 g W ∧ Keeps [g] w W) (HB3.out.lay hgne (Nat.le_refl _) _ _ _ _ _ _ _ _ _) (fun W hW => ?_)
      have cr := cell_blk hW.1
      exact bodyPost_ret (v := (litT (nrV pv)).agg (.slice none 0 0) (.slice none 0 0) (.slice none 0 0)) (by simp [results, Tryz.results181, go_sem, cr]; exact ⟨rfl, rfl, rfl, rfl, rfl, rfl⟩) rfl ⟨rfl, hW.2⟩
    · skip
      go_enter Tryz.func181, Tryz.ntmps181
      go_wp2_with (first
        | (go_at_call 81; refine HE.out.mono ?_; rintro e w' ⟨rfl, rfl⟩)
        | (go_at_call 187; refine HW.out.mono ?_; rintro e w1 ⟨rfl, hb1⟩; have HB1 := Lib.hid (hB.out.go (Keeps.below hb1)); have gc1 := cell_blk HB1.out.1; have gf1 := frozen_blk HB1.out.1; clear hb1))
      refine (vnumber_any _ _).mono ?_
      rintro e w2 ⟨rfl, hk2⟩
      have HB2 := Lib.hid ((HB1.out.at (j := e1) hgne).go hk2)
      clear hk2
      go_wp2_with fail
      refine (eliteral_any _ _ _ _ _ _ _ _ _ _ _).mono ?_
      rintro e w3 ⟨rfl, hk3⟩
      have HB3 := Lib.hid (HB2.out.go hk3)
      have gb3 := cell_blk HB3.out.2.2
      have gbf3 := frozen_blk HB3.out.2.2
      clear hk3
      go_wp2
      refine abs_post (F := fun W => W.heap[w.heap.size]? = some (.cells #[.string litS, .string eS, .int .i64 2, .bool false, .int .i64 pv, .string eS, .slice none 0 0, .slice none 0 0, .slice none 0 0] 52 (0, 0)) ∧ PAt s e1 pl 0 g W ∧ Keeps [g] w W) (HB3.out.lay hgne (Nat.le_refl _) _ _ _ _ _ _ _ _ _) (fun W hW => ?_)
      have cr := cell_blk hW.1
      exact bodyPost_ret (v := (litT (nrV pv)).agg (.slice none 0 0) (.slice none 0 0) (.slice none 0 0)) (by simp [results, Tryz.results181, go_sem, cr]; exact ⟨rfl, rfl, rfl, rfl, rfl, rfl⟩) rfl ⟨rfl, hW.2⟩
  · have hnl : ¬ q + 1 < e1 := fun hc => h1 ⟨by simpa using c48, hc⟩
    have hwq : IntKind.i64.wrap (q + 1) = q + 1 := by rw [IntKind.wrap_i64]; omega
    clear h1
    by_cases ce : e1 < s.size
    · skip
      have hrg := bt_range s e1
      have HG := Lib.hid (fun w => ((show goesB (bt s e1) = false by rw [← goes_bt ce]; exact HGO.out) ▸ egoes_any (bt s e1) w hrg.1 hrg.2 : Calls Tryz.prog 82 #[.int .u8 (bt s e1)] w fun e w' => e = .returned (.bool false) ∧ w = w'))
      go_enter Tryz.func181, Tryz.ntmps181
      go_wp2_with (first
        | (go_at_call 81; refine HE.out.mono ?_; rintro e w' ⟨rfl, rfl⟩)
        | (go_at_call 187; refine HW.out.mono ?_; rintro e w1 ⟨rfl, hb1⟩; have HB1 := Lib.hid (hB.out.go (Keeps.below hb1)); have gc1 := cell_blk HB1.out.1; have gf1 := frozen_blk HB1.out.1; clear hb1)
        | (go_at_call 82; refine (HG.out _).mono ?_; rintro e w' ⟨rfl, rfl⟩))
      refine (vnumber_any _ _).mono ?_
      rintro e w2 ⟨rfl, hk2⟩
      have HB2 := Lib.hid ((HB1.out.at (j := e1) hgne).go hk2)
      clear hk2
      go_wp2_with fail
      refine (eliteral_any _ _ _ _ _ _ _ _ _ _ _).mono ?_
      rintro e w3 ⟨rfl, hk3⟩
      have HB3 := Lib.hid (HB2.out.go hk3)
      have gb3 := cell_blk HB3.out.2.2
      have gbf3 := frozen_blk HB3.out.2.2
      clear hk3
      go_wp2
      refine abs_post (F := fun W => W.heap[w.heap.size]? = some (.cells #[.string litS, .string eS, .int .i64 2, .bool false, .int .i64 pv, .string eS, .slice none 0 0, .slice none 0 0, .slice none 0 0] 52 (0, 0)) ∧ PAt s e1 pl 0 g W ∧ Keeps [g] w W) (HB3.out.lay hgne (Nat.le_refl _) _ _ _ _ _ _ _ _ _) (fun W hW => ?_)
      have cr := cell_blk hW.1
      exact bodyPost_ret (v := (litT (nrV pv)).agg (.slice none 0 0) (.slice none 0 0) (.slice none 0 0)) (by simp [results, Tryz.results181, go_sem, cr]; exact ⟨rfl, rfl, rfl, rfl, rfl, rfl⟩) rfl ⟨rfl, hW.2⟩
    · skip
      go_enter Tryz.func181, Tryz.ntmps181
      go_wp2_with (first
        | (go_at_call 81; refine HE.out.mono ?_; rintro e w' ⟨rfl, rfl⟩)
        | (go_at_call 187; refine HW.out.mono ?_; rintro e w1 ⟨rfl, hb1⟩; have HB1 := Lib.hid (hB.out.go (Keeps.below hb1)); have gc1 := cell_blk HB1.out.1; have gf1 := frozen_blk HB1.out.1; clear hb1))
      refine (vnumber_any _ _).mono ?_
      rintro e w2 ⟨rfl, hk2⟩
      have HB2 := Lib.hid ((HB1.out.at (j := e1) hgne).go hk2)
      clear hk2
      go_wp2_with fail
      refine (eliteral_any _ _ _ _ _ _ _ _ _ _ _).mono ?_
      rintro e w3 ⟨rfl, hk3⟩
      have HB3 := Lib.hid (HB2.out.go hk3)
      have gb3 := cell_blk HB3.out.2.2
      have gbf3 := frozen_blk HB3.out.2.2
      clear hk3
      go_wp2
      refine abs_post (F := fun W => W.heap[w.heap.size]? = some (.cells #[.string litS, .string eS, .int .i64 2, .bool false, .int .i64 pv, .string eS, .slice none 0 0, .slice none 0 0, .slice none 0 0] 52 (0, 0)) ∧ PAt s e1 pl 0 g W ∧ Keeps [g] w W) (HB3.out.lay hgne (Nat.le_refl _) _ _ _ _ _ _ _ _ _) (fun W hW => ?_)
      have cr := cell_blk hW.1
      exact bodyPost_ret (v := (litT (nrV pv)).agg (.slice none 0 0) (.slice none 0 0) (.slice none 0 0)) (by simp [results, Tryz.results181, go_sem, cr]; exact ⟨rfl, rfl, rfl, rfl, rfl, rfl⟩) rfl ⟨rfl, hW.2⟩
set_option maxRecDepth 20000 in
set_option maxHeartbeats 8000000 in
theorem enumber_goes (h : PAt s i pl 0 g w) (hv : VarOk w) (h0 : 0 ≤ q) (hs : s.size ≤ 1000000) (hd : digitAt s q = true)
    (h1 : ¬ (bt s q = 48 ∧ q + 1 < digitsEnd s q)) (h2 : parseCode (cutS s q (digitsEnd s q)) = 0) (h3 : goesAt s (digitsEnd s q) = true) :
    Calls Tryz.prog 181 #[.pointer (some ⟨g, 0, none⟩), .int .i64 q] w fun e w' => e = .returned ((litT (nrV (parseVal (cutS s q (digitsEnd s q))))).agg (.slice none 0 0) (.slice none 0 0) (.slice none 0 0)) ∧ PAt s (digitsEnd s q) (digitsEnd s q) 1 g w' ∧ Keeps [g] w w' := by
  have hglt := hk_lt h
  have hB := Lib.hid (box_new h)
  have hgne : w.heap.size ≠ g := by omega
  obtain ⟨hp1, hp2⟩ := digits_pos h0 hd
  have hE := fun (W : World) (hW : PAt s i pl 0 g W) => eend_any 102 (enters_of Tryz.func102 (by kernel_rfl) rfl) digitB digitAt edigit_any (fun s i h => digit_bt h) (fun s i h => digitAt_lt h) s q i pl 0 g W hW h0 hs
  have HDE : Hid (digitsEnd s q = upTo (digitAt s) s.size q) := Lib.hid rfl
  have HE := Lib.hid (hE _ hB.out.1)
  rw [← HDE.out] at HE
  have hcs : (cutS s q (digitsEnd s q)).size ≤ 1000000 := by rw [ByteArray.size_extract]; omega
  have HW := Lib.hid (wparse_any (cutS s q (digitsEnd s q)) _ hcs (hv.keeps ((Keeps.refl [] w).alloc (.cells zero9 52)) (by simp)))
  have gc := cell_blk hB.out.1
  have hbt := bt_at s q
  have hbq : q < s.size := digitAt_lt hd
  generalize parseVal (cutS s q (digitsEnd s q)) = pv at *
  have hbe := bt_at s (digitsEnd s q)
  have HGO := Lib.hid h3
  have ce := goesAt_lt h3
  rw [h2] at HW
  generalize digitsEnd s q = e1 at *
  clear h hv hE h2 h3 hd hcs
  cases c48 : (bt s q == 48)
  · clear h1
    have hrg := bt_range s e1
    have HG := Lib.hid (fun w => ((show goesB (bt s e1) = true by rw [← goes_bt ce]; exact HGO.out) ▸ egoes_any (bt s e1) w hrg.1 hrg.2 : Calls Tryz.prog 82 #[.int .u8 (bt s e1)] w fun e w' => e = .returned (.bool true) ∧ w = w'))
    go_enter Tryz.func181, Tryz.ntmps181
    go_wp2_with (first
      | (go_at_call 81; refine HE.out.mono ?_; rintro e w' ⟨rfl, rfl⟩)
      | (go_at_call 187; refine HW.out.mono ?_; rintro e w1 ⟨rfl, hb1⟩; have HB1 := Lib.hid (hB.out.go (Keeps.below hb1)); have gc1 := cell_blk HB1.out.1; have gf1 := frozen_blk HB1.out.1; clear hb1)
      | (go_at_call 82; refine (HG.out _).mono ?_; rintro e w' ⟨rfl, rfl⟩))
    refine (fail_yes s i pl e1 1 g _ HB1.out.1).mono ?_
    rintro e w4 ⟨rfl, hp4, hk4⟩
    have HB4 := Lib.hid (HB1.out.to hgne hk4 hp4)
    have gc4 := cell_blk HB4.out.1
    have gf4 := frozen_blk HB4.out.1
    clear hp4 hk4
    go_wp2_with fail
    refine (vnumber_any _ _).mono ?_
    rintro e w2 ⟨rfl, hk2⟩
    have HB2 := Lib.hid ((HB4.out.at (j := e1) hgne).go hk2)
    clear hk2
    go_wp2_with fail
    refine (eliteral_any _ _ _ _ _ _ _ _ _ _ _).mono ?_
    rintro e w3 ⟨rfl, hk3⟩
    have HB3 := Lib.hid (HB2.out.go hk3)
    have gb3 := cell_blk HB3.out.2.2
    have gbf3 := frozen_blk HB3.out.2.2
    clear hk3
    go_wp2
    refine abs_post (F := fun W => W.heap[w.heap.size]? = some (.cells #[.string litS, .string eS, .int .i64 2, .bool false, .int .i64 pv, .string eS, .slice none 0 0, .slice none 0 0, .slice none 0 0] 52 (0, 0)) ∧ PAt s e1 e1 1 g W ∧ Keeps [g] w W) (HB3.out.lay hgne (Nat.le_refl _) _ _ _ _ _ _ _ _ _) (fun W hW => ?_)
    have cr := cell_blk hW.1
    exact bodyPost_ret (v := (litT (nrV pv)).agg (.slice none 0 0) (.slice none 0 0) (.slice none 0 0)) (by simp [results, Tryz.results181, go_sem, cr]; exact ⟨rfl, rfl, rfl, rfl, rfl, rfl⟩) rfl ⟨rfl, hW.2⟩
  · have hnl : ¬ q + 1 < e1 := fun hc => h1 ⟨by simpa using c48, hc⟩
    have hwq : IntKind.i64.wrap (q + 1) = q + 1 := by rw [IntKind.wrap_i64]; omega
    clear h1
    have hrg := bt_range s e1
    have HG := Lib.hid (fun w => ((show goesB (bt s e1) = true by rw [← goes_bt ce]; exact HGO.out) ▸ egoes_any (bt s e1) w hrg.1 hrg.2 : Calls Tryz.prog 82 #[.int .u8 (bt s e1)] w fun e w' => e = .returned (.bool true) ∧ w = w'))
    go_enter Tryz.func181, Tryz.ntmps181
    go_wp2_with (first
      | (go_at_call 81; refine HE.out.mono ?_; rintro e w' ⟨rfl, rfl⟩)
      | (go_at_call 187; refine HW.out.mono ?_; rintro e w1 ⟨rfl, hb1⟩; have HB1 := Lib.hid (hB.out.go (Keeps.below hb1)); have gc1 := cell_blk HB1.out.1; have gf1 := frozen_blk HB1.out.1; clear hb1)
      | (go_at_call 82; refine (HG.out _).mono ?_; rintro e w' ⟨rfl, rfl⟩))
    refine (fail_yes s i pl e1 1 g _ HB1.out.1).mono ?_
    rintro e w4 ⟨rfl, hp4, hk4⟩
    have HB4 := Lib.hid (HB1.out.to hgne hk4 hp4)
    have gc4 := cell_blk HB4.out.1
    have gf4 := frozen_blk HB4.out.1
    clear hp4 hk4
    go_wp2_with fail
    refine (vnumber_any _ _).mono ?_
    rintro e w2 ⟨rfl, hk2⟩
    have HB2 := Lib.hid ((HB4.out.at (j := e1) hgne).go hk2)
    clear hk2
    go_wp2_with fail
    refine (eliteral_any _ _ _ _ _ _ _ _ _ _ _).mono ?_
    rintro e w3 ⟨rfl, hk3⟩
    have HB3 := Lib.hid (HB2.out.go hk3)
    have gb3 := cell_blk HB3.out.2.2
    have gbf3 := frozen_blk HB3.out.2.2
    clear hk3
    go_wp2
    refine abs_post (F := fun W => W.heap[w.heap.size]? = some (.cells #[.string litS, .string eS, .int .i64 2, .bool false, .int .i64 pv, .string eS, .slice none 0 0, .slice none 0 0, .slice none 0 0] 52 (0, 0)) ∧ PAt s e1 e1 1 g W ∧ Keeps [g] w W) (HB3.out.lay hgne (Nat.le_refl _) _ _ _ _ _ _ _ _ _) (fun W hW => ?_)
    have cr := cell_blk hW.1
    exact bodyPost_ret (v := (litT (nrV pv)).agg (.slice none 0 0) (.slice none 0 0) (.slice none 0 0)) (by simp [results, Tryz.results181, go_sem, cr]; exact ⟨rfl, rfl, rfl, rfl, rfl, rfl⟩) rfl ⟨rfl, hW.2⟩
set_option maxRecDepth 20000 in
set_option maxHeartbeats 8000000 in
theorem enumber_code (h : PAt s i pl 0 g w) (hv : VarOk w) (h0 : 0 ≤ q) (hs : s.size ≤ 1000000) (hd : digitAt s q = true)
    (h1 : ¬ (bt s q = 48 ∧ q + 1 < digitsEnd s q)) (h2 : parseCode (cutS s q (digitsEnd s q)) ≠ 0) :
    Calls Tryz.prog 181 #[.pointer (some ⟨g, 0, none⟩), .int .i64 q] w fun e w' => e = .returned ((litT (nrV (parseVal (cutS s q (digitsEnd s q))))).agg (.slice none 0 0) (.slice none 0 0) (.slice none 0 0)) ∧ PAt s (digitsEnd s q) q (parseCode (cutS s q (digitsEnd s q))) g w' ∧ Keeps [g] w w' := by
  have hglt := hk_lt h
  have hB := Lib.hid (box_new h)
  have hgne : w.heap.size ≠ g := by omega
  obtain ⟨hp1, hp2⟩ := digits_pos h0 hd
  have hE := fun (W : World) (hW : PAt s i pl 0 g W) => eend_any 102 (enters_of Tryz.func102 (by kernel_rfl) rfl) digitB digitAt edigit_any (fun s i h => digit_bt h) (fun s i h => digitAt_lt h) s q i pl 0 g W hW h0 hs
  have HDE : Hid (digitsEnd s q = upTo (digitAt s) s.size q) := Lib.hid rfl
  have HE := Lib.hid (hE _ hB.out.1)
  rw [← HDE.out] at HE
  have hcs : (cutS s q (digitsEnd s q)).size ≤ 1000000 := by rw [ByteArray.size_extract]; omega
  have HW := Lib.hid (wparse_any (cutS s q (digitsEnd s q)) _ hcs (hv.keeps ((Keeps.refl [] w).alloc (.cells zero9 52)) (by simp)))
  have gc := cell_blk hB.out.1
  have hbt := bt_at s q
  have hbq : q < s.size := digitAt_lt hd
  generalize parseVal (cutS s q (digitsEnd s q)) = pv at *
  have hbe := bt_at s (digitsEnd s q)
  have hcb : (parseCode (cutS s q (digitsEnd s q)) != 0) = true := by simpa using h2
  generalize parseCode (cutS s q (digitsEnd s q)) = pc at *
  generalize digitsEnd s q = e1 at *
  clear h hv hE h2 hd hcs
  cases c48 : (bt s q == 48)
  · clear h1
    go_enter Tryz.func181, Tryz.ntmps181
    go_wp2_with (first
      | (go_at_call 81; refine HE.out.mono ?_; rintro e w' ⟨rfl, rfl⟩)
      | (go_at_call 187; refine HW.out.mono ?_; rintro e w1 ⟨rfl, hb1⟩; have HB1 := Lib.hid (hB.out.go (Keeps.below hb1)); have gc1 := cell_blk HB1.out.1; have gf1 := frozen_blk HB1.out.1; clear hb1))
    refine (fail_yes s i pl q pc g _ HB1.out.1).mono ?_
    rintro e w4 ⟨rfl, hp4, hk4⟩
    have HB4 := Lib.hid (HB1.out.to hgne hk4 hp4)
    have gc4 := cell_blk HB4.out.1
    have gf4 := frozen_blk HB4.out.1
    clear hp4 hk4
    go_wp2_with fail
    refine (vnumber_any _ _).mono ?_
    rintro e w2 ⟨rfl, hk2⟩
    have HB2 := Lib.hid ((HB4.out.at (j := e1) hgne).go hk2)
    clear hk2
    go_wp2_with fail
    refine (eliteral_any _ _ _ _ _ _ _ _ _ _ _).mono ?_
    rintro e w3 ⟨rfl, hk3⟩
    have HB3 := Lib.hid (HB2.out.go hk3)
    have gb3 := cell_blk HB3.out.2.2
    have gbf3 := frozen_blk HB3.out.2.2
    clear hk3
    go_wp2
    refine abs_post (F := fun W => W.heap[w.heap.size]? = some (.cells #[.string litS, .string eS, .int .i64 2, .bool false, .int .i64 pv, .string eS, .slice none 0 0, .slice none 0 0, .slice none 0 0] 52 (0, 0)) ∧ PAt s e1 q pc g W ∧ Keeps [g] w W) (HB3.out.lay hgne (Nat.le_refl _) _ _ _ _ _ _ _ _ _) (fun W hW => ?_)
    have cr := cell_blk hW.1
    exact bodyPost_ret (v := (litT (nrV pv)).agg (.slice none 0 0) (.slice none 0 0) (.slice none 0 0)) (by simp [results, Tryz.results181, go_sem, cr]; exact ⟨rfl, rfl, rfl, rfl, rfl, rfl⟩) rfl ⟨rfl, hW.2⟩
  · have hnl : ¬ q + 1 < e1 := fun hc => h1 ⟨by simpa using c48, hc⟩
    have hwq : IntKind.i64.wrap (q + 1) = q + 1 := by rw [IntKind.wrap_i64]; omega
    clear h1
    go_enter Tryz.func181, Tryz.ntmps181
    go_wp2_with (first
      | (go_at_call 81; refine HE.out.mono ?_; rintro e w' ⟨rfl, rfl⟩)
      | (go_at_call 187; refine HW.out.mono ?_; rintro e w1 ⟨rfl, hb1⟩; have HB1 := Lib.hid (hB.out.go (Keeps.below hb1)); have gc1 := cell_blk HB1.out.1; have gf1 := frozen_blk HB1.out.1; clear hb1))
    refine (fail_yes s i pl q pc g _ HB1.out.1).mono ?_
    rintro e w4 ⟨rfl, hp4, hk4⟩
    have HB4 := Lib.hid (HB1.out.to hgne hk4 hp4)
    have gc4 := cell_blk HB4.out.1
    have gf4 := frozen_blk HB4.out.1
    clear hp4 hk4
    go_wp2_with fail
    refine (vnumber_any _ _).mono ?_
    rintro e w2 ⟨rfl, hk2⟩
    have HB2 := Lib.hid ((HB4.out.at (j := e1) hgne).go hk2)
    clear hk2
    go_wp2_with fail
    refine (eliteral_any _ _ _ _ _ _ _ _ _ _ _).mono ?_
    rintro e w3 ⟨rfl, hk3⟩
    have HB3 := Lib.hid (HB2.out.go hk3)
    have gb3 := cell_blk HB3.out.2.2
    have gbf3 := frozen_blk HB3.out.2.2
    clear hk3
    go_wp2
    refine abs_post (F := fun W => W.heap[w.heap.size]? = some (.cells #[.string litS, .string eS, .int .i64 2, .bool false, .int .i64 pv, .string eS, .slice none 0 0, .slice none 0 0, .slice none 0 0] 52 (0, 0)) ∧ PAt s e1 q pc g W ∧ Keeps [g] w W) (HB3.out.lay hgne (Nat.le_refl _) _ _ _ _ _ _ _ _ _) (fun W hW => ?_)
    have cr := cell_blk hW.1
    exact bodyPost_ret (v := (litT (nrV pv)).agg (.slice none 0 0) (.slice none 0 0) (.slice none 0 0)) (by simp [results, Tryz.results181, go_sem, cr]; exact ⟨rfl, rfl, rfl, rfl, rfl, rfl⟩) rfl ⟨rfl, hW.2⟩
set_option maxRecDepth 20000 in
set_option maxHeartbeats 8000000 in
theorem enumber_zero (h : PAt s i pl 0 g w) (hv : VarOk w) (h0 : 0 ≤ q) (hs : s.size ≤ 1000000) (hd : digitAt s q = true)
    (h1 : bt s q = 48) (h2 : q + 1 < digitsEnd s q) :
    Calls Tryz.prog 181 #[.pointer (some ⟨g, 0, none⟩), .int .i64 q] w fun e w' => e = .returned ((litT (nrV (parseVal (cutS s q (digitsEnd s q))))).agg (.slice none 0 0) (.slice none 0 0) (.slice none 0 0)) ∧ PAt s (digitsEnd s q) (q + 1) 1 g w' ∧ Keeps [g] w w' := by
  have hglt := hk_lt h
  have hB := Lib.hid (box_new h)
  have hgne : w.heap.size ≠ g := by omega
  obtain ⟨hp1, hp2⟩ := digits_pos h0 hd
  have hE := fun (W : World) (hW : PAt s i pl 0 g W) => eend_any 102 (enters_of Tryz.func102 (by kernel_rfl) rfl) digitB digitAt edigit_any (fun s i h => digit_bt h) (fun s i h => digitAt_lt h) s q i pl 0 g W hW h0 hs
  have HDE : Hid (digitsEnd s q = upTo (digitAt s) s.size q) := Lib.hid rfl
  have HE := Lib.hid (hE _ hB.out.1)
  rw [← HDE.out] at HE
  have hcs : (cutS s q (digitsEnd s q)).size ≤ 1000000 := by rw [ByteArray.size_extract]; omega
  have HW := Lib.hid (wparse_any (cutS s q (digitsEnd s q)) _ hcs (hv.keeps ((Keeps.refl [] w).alloc (.cells zero9 52)) (by simp)))
  have gc := cell_blk hB.out.1
  have hbt := bt_at s q
  have hbq : q < s.size := digitAt_lt hd
  generalize parseVal (cutS s q (digitsEnd s q)) = pv at *
  have hbe := bt_at s (digitsEnd s q)
  have c48 : (bt s q == 48) = true := by simpa using h1
  have hwq : IntKind.i64.wrap (q + 1) = q + 1 := by rw [IntKind.wrap_i64]; omega
  generalize parseCode (cutS s q (digitsEnd s q)) = pc at *
  generalize digitsEnd s q = e1 at *
  clear h hv hE h1 hd hcs
  go_enter Tryz.func181, Tryz.ntmps181
  go_wp2_with (first
    | (go_at_call 81; refine HE.out.mono ?_; rintro e w' ⟨rfl, rfl⟩)
    | (go_at_call 187; refine HW.out.mono ?_; rintro e w1 ⟨rfl, hb1⟩; have HB1 := Lib.hid (hB.out.go (Keeps.below hb1)); have gc1 := cell_blk HB1.out.1; have gf1 := frozen_blk HB1.out.1; clear hb1))
  refine (fail_yes s i pl (q + 1) 1 g _ HB1.out.1).mono ?_
  rintro e w4 ⟨rfl, hp4, hk4⟩
  have HB4 := Lib.hid (HB1.out.to hgne hk4 hp4)
  have gc4 := cell_blk HB4.out.1
  have gf4 := frozen_blk HB4.out.1
  clear hp4 hk4
  go_wp2_with fail
  refine (vnumber_any _ _).mono ?_
  rintro e w2 ⟨rfl, hk2⟩
  have HB2 := Lib.hid ((HB4.out.at (j := e1) hgne).go hk2)
  clear hk2
  go_wp2_with fail
  refine (eliteral_any _ _ _ _ _ _ _ _ _ _ _).mono ?_
  rintro e w3 ⟨rfl, hk3⟩
  have HB3 := Lib.hid (HB2.out.go hk3)
  have gb3 := cell_blk HB3.out.2.2
  have gbf3 := frozen_blk HB3.out.2.2
  clear hk3
  go_wp2
  refine abs_post (F := fun W => W.heap[w.heap.size]? = some (.cells #[.string litS, .string eS, .int .i64 2, .bool false, .int .i64 pv, .string eS, .slice none 0 0, .slice none 0 0, .slice none 0 0] 52 (0, 0)) ∧ PAt s e1 (q + 1) 1 g W ∧ Keeps [g] w W) (HB3.out.lay hgne (Nat.le_refl _) _ _ _ _ _ _ _ _ _) (fun W hW => ?_)
  have cr := cell_blk hW.1
  exact bodyPost_ret (v := (litT (nrV pv)).agg (.slice none 0 0) (.slice none 0 0) (.slice none 0 0)) (by simp [results, Tryz.results181, go_sem, cr]; exact ⟨rfl, rfl, rfl, rfl, rfl, rfl⟩) rfl ⟨rfl, hW.2⟩
end NUM
end Go.Proofs.YtdlkdecigpaaaaaGreatDoor
namespace Go.Proofs.YtdlkdecigpaaaaaGreatDoor
set_option linter.unusedVariables false
set_option linter.unusedSimpArgs false
open Go.RowKit

section
variable (s : ByteArray) (i pl q : Int) (g : Nat) (w : World)
theorem psays_ok {T : XT} {p : Int} {e : Ending} {w' : World} {vi vk va : Value} (he : e = .returned (T.agg vi vk va)) (hr : T.Rep w' (w.heap.size ≤ ·) vi vk va) (hp : PAt s p pl 0 g w') (hk : Keeps [g] w w') : PSays s (.ok T p) pl g w e w' :=
  ⟨T, vi, vk, va, he, hr, hk, rfl, hp⟩
theorem psays_err {T : XT} {a p c : Int} {e : Ending} {w' : World} {vi vk va : Value} (he : e = .returned (T.agg vi vk va)) (hr : T.Rep w' (w.heap.size ≤ ·) vi vk va) (h0 : 0 ≤ a) (h1 : a ≤ s.size) (hp : PAt s a p c g w') (hk : Keeps [g] w w') : PSays s (.err p c) pl g w e w' :=
  ⟨T, vi, vk, va, he, hr, hk, (show ∃ a : Int, 0 ≤ a ∧ a ≤ s.size ∧ PAt s a p c g w' from ⟨a, h0, h1, hp⟩)⟩
theorem enumber_any (h : PAt s i pl 0 g w) (hv : VarOk w) (h0 : 0 ≤ q) (hs : s.size ≤ 1000000) (hd : digitAt s q = true) :
    Calls Tryz.prog 181 #[.pointer (some ⟨g, 0, none⟩), .int .i64 q] w (PSays s (numR s q) pl g w) := by
  obtain ⟨hp1, hp2⟩ := digits_pos h0 hd
  unfold numR
  by_cases h1 : bt s q = 48 ∧ q + 1 < digitsEnd s q
  · rw [if_pos h1]
    exact (enumber_zero s i pl q g w h hv h0 hs hd h1.1 h1.2).mono fun e w' hx => psays_err s pl g w hx.1 (leaf_xrep _ _ _ _ _ _ _ _) (by omega) hp2 hx.2.1 hx.2.2
  · rw [if_neg h1]
    by_cases h2 : parseCode (cutS s q (digitsEnd s q)) ≠ 0
    · rw [if_pos h2]
      exact (enumber_code s i pl q g w h hv h0 hs hd h1 h2).mono fun e w' hx => psays_err s pl g w hx.1 (leaf_xrep _ _ _ _ _ _ _ _) (by omega) hp2 hx.2.1 hx.2.2
    · rw [if_neg h2]
      have h2 : parseCode (cutS s q (digitsEnd s q)) = 0 := Decidable.not_not.1 h2
      cases h3 : goesAt s (digitsEnd s q)
      · rw [if_neg (by simp)]
        exact (enumber_ok s i pl q g w h hv h0 hs hd h1 h2 h3).mono fun e w' hx => psays_ok s pl g w hx.1 (leaf_xrep _ _ _ _ _ _ _ _) hx.2.1 hx.2.2
      · rw [if_pos rfl]
        exact (enumber_goes s i pl q g w h hv h0 hs hd h1 h2 h3).mono fun e w' hx => psays_err s pl g w hx.1 (leaf_xrep _ _ _ _ _ _ _ _) (by omega) hp2 hx.2.1 hx.2.2
end
end Go.Proofs.YtdlkdecigpaaaaaGreatDoor
namespace Go.Proofs.YtdlkdecigpaaaaaGreatDoor
set_option linter.unusedVariables false
set_option linter.unusedSimpArgs false
open Go.RowKit

section
variable (s : ByteArray) (i pl : Int) (g : Nat) (w : World)
set_option maxRecDepth 20000 in
set_option maxHeartbeats 8000000 in
theorem eone_text (h : PAt s i pl 0 g w) (hv : VarOk w) (hg2 : 5 < g) (h0 : 0 ≤ i) (h1 : i ≤ s.size) (hs : s.size ≤ 1000000) (hq : isAt s (blanks s i) 34 = true) :
    Calls Tryz.prog 178 #[.pointer (some ⟨g, 0, none⟩)] w (PSays s (textR s (blanks s i)) pl g w) := by
  have hglt := hk_lt h
  have hB := Lib.hid (box_new h)
  have hgne : w.heap.size ≠ g := by omega
  have HA := Lib.hid (eahead_any s i pl 0 g _ hB.out.1 h0 hs)
  have HW := Lib.hid (eword_any s i pl 0 g _ hB.out.1 h0 h1 hs)
  have hva : VarOk (w.alloc (.cells zero9 52)) := hv.keeps ((Keeps.refl [] w).alloc _) (by simp)
  have HT := Lib.hid (fun n => etext_any s i pl g _ (pat_drewN hB.out.1 n) (hva.keeps ((Keeps.refl [] _).drewN n) (by simp)) hg2 h0 h1 hs hq)
  have gc := cell_blk hB.out.1
  have hlt := isAt_lt hq
  have hbt := bt_at s (blanks s i)
  have hb34 : bt s (blanks s i) = 34 := by
    simp only [isAt, Bool.and_eq_true, beq_iff_eq] at hq
    exact hq.2
  have HD := Lib.hid (fun w => (edigit_any 34 w (by omega) (by omega) : Calls Tryz.prog 102 #[.int .u8 34] w fun e w' => e = .returned (.bool false) ∧ w = w'))
  rw [hb34] at hbt
  have hb0 := blanks_ge0 s i h0
  have HR : Hid (textR s (blanks s i) = if (strF s (blanks s i)).2.2 = 0 then .ok (litT (textV (strF s (blanks s i)).1.text)) (strF s (blanks s i)).1.stop else .err (strF s (blanks s i)).2.1 (strF s (blanks s i)).2.2) := Lib.hid rfl
  generalize textR s (blanks s i) = r at *
  generalize strF s (blanks s i) = x at *
  generalize wordAt s i = t at *
  generalize blanks s i = q at *
  clear h hv hva hb34 hq
  go_enter Tryz.func178, Tryz.ntmps178
  go_wp2_with (first
    | (go_at_call 46; refine HA.out.mono ?_; rintro e w' ⟨rfl, rfl⟩)
    | (go_at_call 57; refine HW.out.mono ?_; rintro e w' ⟨rfl, n, rfl⟩)
    | (go_at_call 102; refine (HD.out _).mono ?_; rintro e w' ⟨rfl, rfl⟩))
  refine (HT.out _).mono ?_
  rintro e w1 hx
  by_cases hc : x.2.2 = 0
  · obtain ⟨rfl, hp1, hk1⟩ := hx.1 hc
    have HR2 := Lib.hid (HR.out.trans (if_pos hc))
    have HB1 := Lib.hid (Box.to (b := w.heap.size) (w := w) ⟨pat_drewN hB.out.1 _, hB.out.2.1.drewN _, hB.out.2.2⟩ hgne hk1 hp1)
    clear hx hp1 hk1 hc HR
    go_wp2_with fail
    refine (vtext_any _ _).mono ?_
    rintro e w2 ⟨rfl, hk2⟩
    have HB2 := Lib.hid (HB1.out.go hk2)
    clear hk2
    go_wp2_with fail
    refine (eliteral_any _ _ _ _ _ _ _ _ _ _ _).mono ?_
    rintro e w3 ⟨rfl, hk3⟩
    have HB3 := Lib.hid (HB2.out.go hk3)
    have gb3 := cell_blk HB3.out.2.2
    have gbf3 := frozen_blk HB3.out.2.2
    clear hk3
    go_wp2
    refine abs_post (F := fun W => W.heap[w.heap.size]? = some (.cells #[.string litS, .string eS, .int .i64 3, .bool false, .int .i64 0, .string x.1.text, .slice none 0 0, .slice none 0 0, .slice none 0 0] 52 (0, 0)) ∧ PAt s x.1.stop pl 0 g W ∧ Keeps [g] w W) (HB3.out.lay hgne (Nat.le_refl _) _ _ _ _ _ _ _ _ _) (fun W hW => ?_)
    have cr := cell_blk hW.1
    exact bodyPost_ret (v := (litT (textV x.1.text)).agg (.slice none 0 0) (.slice none 0 0) (.slice none 0 0)) (by simp [results, Tryz.results178, go_sem, cr]; exact ⟨rfl, rfl, rfl, rfl, rfl, rfl⟩) rfl (HR2.out ▸ psays_ok s pl g w rfl (leaf_xrep _ _ _ _ _ _ _ _) hW.2.1 hW.2.2)
  · obtain ⟨rfl, hp1, hk1⟩ := hx.2 hc
    have HR2 := Lib.hid (HR.out.trans (if_neg hc))
    have HB1 := Lib.hid (Box.to (b := w.heap.size) (w := w) ⟨pat_drewN hB.out.1 _, hB.out.2.1.drewN _, hB.out.2.2⟩ hgne hk1 hp1)
    clear hx hp1 hk1 hc HR
    go_wp2_with fail
    refine (vtext_any _ _).mono ?_
    rintro e w2 ⟨rfl, hk2⟩
    have HB2 := Lib.hid (HB1.out.go hk2)
    clear hk2
    go_wp2_with fail
    refine (eliteral_any _ _ _ _ _ _ _ _ _ _ _).mono ?_
    rintro e w3 ⟨rfl, hk3⟩
    have HB3 := Lib.hid (HB2.out.go hk3)
    have gb3 := cell_blk HB3.out.2.2
    have gbf3 := frozen_blk HB3.out.2.2
    clear hk3
    go_wp2
    refine abs_post (F := fun W => W.heap[w.heap.size]? = some (.cells #[.string litS, .string eS, .int .i64 3, .bool false, .int .i64 0, .string eS, .slice none 0 0, .slice none 0 0, .slice none 0 0] 52 (0, 0)) ∧ PAt s i x.2.1 x.2.2 g W ∧ Keeps [g] w W) (HB3.out.lay hgne (Nat.le_refl _) _ _ _ _ _ _ _ _ _) (fun W hW => ?_)
    have cr := cell_blk hW.1
    exact bodyPost_ret (v := (litT (textV eS)).agg (.slice none 0 0) (.slice none 0 0) (.slice none 0 0)) (by simp [results, Tryz.results178, go_sem, cr]; exact ⟨rfl, rfl, rfl, rfl, rfl, rfl⟩) rfl (HR2.out ▸ psays_err s pl g w rfl (leaf_xrep _ _ _ _ _ _ _ _) h0 h1 hW.2.1 hW.2.2)
end
end Go.Proofs.YtdlkdecigpaaaaaGreatDoor
namespace Go.Proofs.YtdlkdecigpaaaaaGreatDoor
set_option linter.unusedVariables false
set_option linter.unusedSimpArgs false
open Go.RowKit

section
variable {s : ByteArray} {pl : Int} {g b : Nat} {w W w1 : World} {T : XT} {vi vk va : Value}
/-- Where the parser is behind an answer. -/
def At (s : ByteArray) (r : Res) (pl : Int) (g : Nat) (T : XT) (w' : World) : Prop :=
  match r with | .ok U p => T = U ∧ PAt s p pl 0 g w' | .err p c => ∃ a : Int, 0 ≤ a ∧ a ≤ s.size ∧ PAt s a p c g w'
theorem At.keeps {r : Res} {S : List Nat} {w2 : World} (h : At s r pl g T w1) (k : Keeps S w1 w2) (hg : g ∉ S) : At s r pl g T w2 := by
  cases r with
  | ok U p => exact ⟨h.1, pat_keeps h.2 k hg⟩
  | err p c => obtain ⟨a, h0, h1, h2⟩ := h; exact (show ∃ a : Int, 0 ≤ a ∧ a ≤ s.size ∧ PAt s a p c g w2 from ⟨a, h0, h1, pat_keeps h2 k hg⟩)
theorem psays_at {r : Res} {e : Ending} (h : PSays s r pl g W e w1) : ∃ (T : XT) (vi vk va : Value), e = .returned (T.agg vi vk va) ∧ T.Rep w1 (W.heap.size ≤ ·) vi vk va ∧ Keeps [g] W w1 ∧ At s r pl g T w1 := h
theorem at_psays {r : Res} {e : Ending} (h0 : e = .returned (T.agg vi vk va)) (h1 : T.Rep w1 (W.heap.size ≤ ·) vi vk va) (h2 : Keeps [g] W w1) (h3 : At s r pl g T w1) : PSays s r pl g W e w1 := ⟨T, vi, vk, va, h0, h1, h2, h3⟩
theorem lay_says {r : Res} (hB : Keeps [g] w W) (hbw : w.heap.size ≤ b) (hbW : b < W.heap.size) (hgb : b ≠ g) (hr : T.Rep w1 (W.heap.size ≤ ·) vi vk va) (hk : Keeps [g] W w1) (hm : At s r pl g T w1) (v0 v1 v2 v3 v4 v5 v6 v7 v8 : Value) :
    T.Rep (sets9 w1 b v0 v1 v2 v3 v4 v5 v6 v7 v8) (w.heap.size ≤ ·) vi vk va ∧ Keeps [g] w (sets9 w1 b v0 v1 v2 v3 v4 v5 v6 v7 v8) ∧ At s r pl g T (sets9 w1 b v0 v1 v2 v3 v4 v5 v6 v7 v8) := by
  have k9 := keeps_sets9 w1 b v0 v1 v2 v3 v4 v5 v6 v7 v8
  have hsz := hB.size
  refine ⟨(hr.keep (kc_keeps k9 fun k hk2 => by simp; omega)).mono (fun k hk2 => Nat.le_trans hsz hk2), (hB.trans hk).step k9 (fun k hk2 hk3 => by simp at hk2; omega), hm.keeps k9 (by simpa using fun e => hgb e.symm)⟩
end
section
variable (s : ByteArray) (i pl : Int) (g : Nat) (w : World)
set_option maxRecDepth 20000 in
set_option maxHeartbeats 8000000 in
theorem eone_num (h : PAt s i pl 0 g w) (hv : VarOk w) (h0 : 0 ≤ i) (h1 : i ≤ s.size) (hs : s.size ≤ 1000000) (hq : digitAt s (blanks s i) = true) :
    Calls Tryz.prog 178 #[.pointer (some ⟨g, 0, none⟩)] w (PSays s (numR s (blanks s i)) pl g w) := by
  have hglt := hk_lt h
  have hB := Lib.hid (box_new h)
  have hgne : w.heap.size ≠ g := by omega
  have HA := Lib.hid (eahead_any s i pl 0 g _ hB.out.1 h0 hs)
  have HW := Lib.hid (eword_any s i pl 0 g _ hB.out.1 h0 h1 hs)
  have hva : VarOk (w.alloc (.cells zero9 52)) := hv.keeps ((Keeps.refl [] w).alloc _) (by simp)
  have hb0 := blanks_ge0 s i h0
  have HT := Lib.hid (fun n => enumber_any s i pl (blanks s i) g _ (pat_drewN hB.out.1 n) (hva.keeps ((Keeps.refl [] _).drewN n) (by simp)) hb0 hs hq)
  have gc := cell_blk hB.out.1
  have hlt := digitAt_lt hq
  have hbt := bt_at s (blanks s i)
  have hr := bt_range s (blanks s i)
  have HD := Lib.hid (fun w => ((show digitB (bt s (blanks s i)) = true by rw [← digit_bt hlt]; exact hq) ▸ edigit_any (bt s (blanks s i)) w hr.1 hr.2 : Calls Tryz.prog 102 #[.int .u8 (bt s (blanks s i))] w fun e w' => e = .returned (.bool true) ∧ w = w'))
  generalize numR s (blanks s i) = r at *
  generalize wordAt s i = t at *
  generalize blanks s i = q at *
  clear h hv hva hq
  go_enter Tryz.func178, Tryz.ntmps178
  go_wp2_with (first
    | (go_at_call 46; refine HA.out.mono ?_; rintro e w' ⟨rfl, rfl⟩)
    | (go_at_call 57; refine HW.out.mono ?_; rintro e w' ⟨rfl, n, rfl⟩)
    | (go_at_call 102; refine (HD.out _).mono ?_; rintro e w' ⟨rfl, rfl⟩))
  refine (HT.out _).mono ?_
  rintro e w1 hx
  obtain ⟨T, vi, vk, va, rfl, hrep, hk1, hm⟩ := psays_at hx
  obtain ⟨a1, c1, a2, c2, a3, c3, rfl, rfl, rfl⟩ := xrep_shape hrep
  have HB1 : Hid (w1.heap[w.heap.size]? = some (.cells zero9 52 (0, 0))) := Lib.hid (hk1.heap hB.out.2.2 (by simpa using hgne))
  have HX := Lib.hid (lay_says (b := w.heap.size) (w := w) (hB.out.2.1.drewN n) (Nat.le_refl _) (hk_lt hB.out.2.2) hgne hrep hk1 hm)
  have gb3 := cell_blk HB1.out
  have gbf3 := frozen_blk HB1.out
  clear hx hrep hk1 hm
  go_wp2
  refine abs_post (F := fun W => W.heap[w.heap.size]? = some (.cells #[.string T.op, .string T.nm, .int .i64 T.lit.k, .bool T.lit.b, .int .i64 T.lit.n, .string T.lit.s, .slice a1 T.lit.its.length c1, .slice a2 T.lit.ks.length c2, .slice a3 T.args.length c3] 52 (0, 0)) ∧ T.Rep W (w.heap.size ≤ ·) (.slice a1 T.lit.its.length c1) (.slice a2 T.lit.ks.length c2) (.slice a3 T.args.length c3) ∧ Keeps [g] w W ∧ At s r pl g T W) ⟨blk_sets9 HB1.out _ _ _ _ _ _ _ _ _, HX.out _ _ _ _ _ _ _ _ _⟩ (fun W hW => ?_)
  have cr := cell_blk hW.1
  exact bodyPost_ret (v := T.agg (.slice a1 T.lit.its.length c1) (.slice a2 T.lit.ks.length c2) (.slice a3 T.args.length c3)) (by simp [results, Tryz.results178, go_sem, cr]) rfl (at_psays rfl hW.2.1 hW.2.2.1 hW.2.2.2)
end
end Go.Proofs.YtdlkdecigpaaaaaGreatDoor
