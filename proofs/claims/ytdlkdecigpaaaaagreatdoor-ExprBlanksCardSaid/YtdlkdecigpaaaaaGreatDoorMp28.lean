/- Put together: The levels that are chains; The parser's key, whatever stands there; what is taken of an expression; The walk of a part: one, and what is taken of it; A call's parts: the row that is gathered. -/
import Derived.Test.YtdlkdecigpaaaaaGreatDoorMp27
import Derived.Test.YtdlkdecigpaaaaaGreatDoorMp4
namespace Go.Proofs.YtdlkdecigpaaaaaGreatDoor
set_option linter.unusedVariables false
set_option linter.unusedSimpArgs false
open Go.RowKit

theorem box_list {s : ByteArray} {i pl c : Int} {g : Nat} {w : World} (h : PAt s i pl c g w) (cs : Array Value) : PAt s i pl c g ((w.alloc (.cells zero9 52)).alloc (.cells cs 9)) ∧ Keeps [g] w ((w.alloc (.cells zero9 52)).alloc (.cells cs 9)) ∧
    ((w.alloc (.cells zero9 52)).alloc (.cells cs 9)).heap[w.heap.size]? = some (.cells zero9 52 (0, 0)) ∧ ((w.alloc (.cells zero9 52)).alloc (.cells cs 9)).heap[w.heap.size + 1]? = some (.cells cs 9 (0, 0)) :=
  ⟨pat_alloc (pat_alloc h _) _, ((Keeps.refl _ _).alloc _).alloc _, hk_alloc (new_blk _ _) _, new_blk1 _ _ _⟩
section
variable (s : ByteArray) (i pl : Int) (g : Nat) (w : World)
set_option maxRecDepth 20000 in
set_option maxHeartbeats 1000000 in
theorem eor_of (r : Res) (h : PAt s i pl 0 g w) (HS : ∀ (W : World) (vL : Value), PAt s i pl 0 g W → Keeps [g] w W → Sl W (w.heap.size ≤ ·) 1 vL (signsL 0).length ((signsL 0).map Value.string) →
      Calls Tryz.prog 73 #[.pointer (some ⟨g, 0, none⟩), .func (.func 74) #[] #[], .int .i64 2048, vL] W (PSays s r pl g W)) :
    Calls Tryz.prog 45 #[.pointer (some ⟨g, 0, none⟩)] w (PSays s r pl g w) := by
  have hglt := hk_lt h
  have hB := Lib.hid (box_list h #[.string ⟨#[111, 114]⟩])
  have hgne : w.heap.size ≠ g := by omega
  have HC := Lib.hid (HS _ _ hB.out.1 hB.out.2.1 (Sl.of_blk (S := (w.heap.size ≤ ·)) (size := 1) (n := 1) hB.out.2.2.2 (Nat.le_succ _) rfl))
  clear h HS
  go_enter Tryz.func45, Tryz.ntmps45
  go_wp2_with fail
  refine HC.out.mono ?_
  rintro e w1 hx
  obtain ⟨T, vi, vk, va, rfl, hrep, hk1, hm⟩ := psays_at hx
  obtain ⟨a1, c1, a2, c2, a3, c3, rfl, rfl, rfl⟩ := xrep_shape hrep
  have HB1 : Hid (w1.heap[w.heap.size]? = some (.cells zero9 52 (0, 0))) := Lib.hid (hk1.heap hB.out.2.2.1 (by simpa using hgne))
  have HX := Lib.hid (lay_says (b := w.heap.size) (w := w) hB.out.2.1 (Nat.le_refl _) (hk_lt hB.out.2.2.1) hgne hrep hk1 hm)
  have gb3 := cell_blk HB1.out
  have gbf3 := frozen_blk HB1.out
  clear hx hrep hk1 hm
  go_wp2
  refine abs_post (F := fun W => W.heap[w.heap.size]? = some (.cells (T.nine (.slice a1 T.lit.its.length c1) (.slice a2 T.lit.ks.length c2) (.slice a3 T.args.length c3)) 52 (0, 0)) ∧ T.Rep W (w.heap.size ≤ ·) (.slice a1 T.lit.its.length c1) (.slice a2 T.lit.ks.length c2) (.slice a3 T.args.length c3) ∧ Keeps [g] w W ∧ At s r pl g T W) ⟨blk_sets9 HB1.out _ _ _ _ _ _ _ _ _, HX.out _ _ _ _ _ _ _ _ _⟩ (fun W hW => ?_)
  have cr := cell_blk hW.1
  exact bodyPost_ret (v := T.agg (.slice a1 T.lit.its.length c1) (.slice a2 T.lit.ks.length c2) (.slice a3 T.args.length c3)) (by simp [results, Tryz.results45, go_sem, cr]) rfl (at_psays rfl hW.2.1 hW.2.2.1 hW.2.2.2)
set_option maxRecDepth 20000 in
set_option maxHeartbeats 1000000 in
theorem eand_of (r : Res) (h : PAt s i pl 0 g w) (HS : ∀ (W : World) (vL : Value), PAt s i pl 0 g W → Keeps [g] w W → Sl W (w.heap.size ≤ ·) 1 vL (signsL 1).length ((signsL 1).map Value.string) →
      Calls Tryz.prog 73 #[.pointer (some ⟨g, 0, none⟩), .func (.func 94) #[] #[], .int .i64 2048, vL] W (PSays s r pl g W)) :
    Calls Tryz.prog 74 #[.pointer (some ⟨g, 0, none⟩)] w (PSays s r pl g w) := by
  have hglt := hk_lt h
  have hB := Lib.hid (box_list h #[.string ⟨#[97, 110, 100]⟩])
  have hgne : w.heap.size ≠ g := by omega
  have HC := Lib.hid (HS _ _ hB.out.1 hB.out.2.1 (Sl.of_blk (S := (w.heap.size ≤ ·)) (size := 1) (n := 1) hB.out.2.2.2 (Nat.le_succ _) rfl))
  clear h HS
  go_enter Tryz.func74, Tryz.ntmps74
  go_wp2_with fail
  refine HC.out.mono ?_
  rintro e w1 hx
  obtain ⟨T, vi, vk, va, rfl, hrep, hk1, hm⟩ := psays_at hx
  obtain ⟨a1, c1, a2, c2, a3, c3, rfl, rfl, rfl⟩ := xrep_shape hrep
  have HB1 : Hid (w1.heap[w.heap.size]? = some (.cells zero9 52 (0, 0))) := Lib.hid (hk1.heap hB.out.2.2.1 (by simpa using hgne))
  have HX := Lib.hid (lay_says (b := w.heap.size) (w := w) hB.out.2.1 (Nat.le_refl _) (hk_lt hB.out.2.2.1) hgne hrep hk1 hm)
  have gb3 := cell_blk HB1.out
  have gbf3 := frozen_blk HB1.out
  clear hx hrep hk1 hm
  go_wp2
  refine abs_post (F := fun W => W.heap[w.heap.size]? = some (.cells (T.nine (.slice a1 T.lit.its.length c1) (.slice a2 T.lit.ks.length c2) (.slice a3 T.args.length c3)) 52 (0, 0)) ∧ T.Rep W (w.heap.size ≤ ·) (.slice a1 T.lit.its.length c1) (.slice a2 T.lit.ks.length c2) (.slice a3 T.args.length c3) ∧ Keeps [g] w W ∧ At s r pl g T W) ⟨blk_sets9 HB1.out _ _ _ _ _ _ _ _ _, HX.out _ _ _ _ _ _ _ _ _⟩ (fun W hW => ?_)
  have cr := cell_blk hW.1
  exact bodyPost_ret (v := T.agg (.slice a1 T.lit.its.length c1) (.slice a2 T.lit.ks.length c2) (.slice a3 T.args.length c3)) (by simp [results, Tryz.results74, go_sem, cr]) rfl (at_psays rfl hW.2.1 hW.2.2.1 hW.2.2.2)
set_option maxRecDepth 20000 in
set_option maxHeartbeats 1000000 in
theorem erel_of (r : Res) (h : PAt s i pl 0 g w) (HS : ∀ (W : World) (vL : Value), PAt s i pl 0 g W → Keeps [g] w W → Sl W (w.heap.size ≤ ·) 1 vL (signsL 3).length ((signsL 3).map Value.string) →
      Calls Tryz.prog 73 #[.pointer (some ⟨g, 0, none⟩), .func (.func 153) #[] #[], .int .i64 1, vL] W (PSays s r pl g W)) :
    Calls Tryz.prog 133 #[.pointer (some ⟨g, 0, none⟩)] w (PSays s r pl g w) := by
  have hglt := hk_lt h
  have hB := Lib.hid (box_list h #[.string ⟨#[61, 61]⟩, .string ⟨#[33, 61]⟩, .string ⟨#[60, 61]⟩, .string ⟨#[62, 61]⟩, .string ⟨#[60]⟩, .string ⟨#[62]⟩])
  have hgne : w.heap.size ≠ g := by omega
  have HC := Lib.hid (HS _ _ hB.out.1 hB.out.2.1 (Sl.of_blk (S := (w.heap.size ≤ ·)) (size := 1) (n := 6) hB.out.2.2.2 (Nat.le_succ _) rfl))
  clear h HS
  go_enter Tryz.func133, Tryz.ntmps133
  go_wp2_with fail
  refine HC.out.mono ?_
  rintro e w1 hx
  obtain ⟨T, vi, vk, va, rfl, hrep, hk1, hm⟩ := psays_at hx
  obtain ⟨a1, c1, a2, c2, a3, c3, rfl, rfl, rfl⟩ := xrep_shape hrep
  have HB1 : Hid (w1.heap[w.heap.size]? = some (.cells zero9 52 (0, 0))) := Lib.hid (hk1.heap hB.out.2.2.1 (by simpa using hgne))
  have HX := Lib.hid (lay_says (b := w.heap.size) (w := w) hB.out.2.1 (Nat.le_refl _) (hk_lt hB.out.2.2.1) hgne hrep hk1 hm)
  have gb3 := cell_blk HB1.out
  have gbf3 := frozen_blk HB1.out
  clear hx hrep hk1 hm
  go_wp2
  refine abs_post (F := fun W => W.heap[w.heap.size]? = some (.cells (T.nine (.slice a1 T.lit.its.length c1) (.slice a2 T.lit.ks.length c2) (.slice a3 T.args.length c3)) 52 (0, 0)) ∧ T.Rep W (w.heap.size ≤ ·) (.slice a1 T.lit.its.length c1) (.slice a2 T.lit.ks.length c2) (.slice a3 T.args.length c3) ∧ Keeps [g] w W ∧ At s r pl g T W) ⟨blk_sets9 HB1.out _ _ _ _ _ _ _ _ _, HX.out _ _ _ _ _ _ _ _ _⟩ (fun W hW => ?_)
  have cr := cell_blk hW.1
  exact bodyPost_ret (v := T.agg (.slice a1 T.lit.its.length c1) (.slice a2 T.lit.ks.length c2) (.slice a3 T.args.length c3)) (by simp [results, Tryz.results133, go_sem, cr]) rfl (at_psays rfl hW.2.1 hW.2.2.1 hW.2.2.2)
set_option maxRecDepth 20000 in
set_option maxHeartbeats 1000000 in
theorem esum_of (r : Res) (h : PAt s i pl 0 g w) (HS : ∀ (W : World) (vL : Value), PAt s i pl 0 g W → Keeps [g] w W → Sl W (w.heap.size ≤ ·) 1 vL (signsL 4).length ((signsL 4).map Value.string) →
      Calls Tryz.prog 73 #[.pointer (some ⟨g, 0, none⟩), .func (.func 162) #[] #[], .int .i64 16384, vL] W (PSays s r pl g W)) :
    Calls Tryz.prog 153 #[.pointer (some ⟨g, 0, none⟩)] w (PSays s r pl g w) := by
  have hglt := hk_lt h
  have hB := Lib.hid (box_list h #[.string ⟨#[43]⟩, .string ⟨#[45]⟩])
  have hgne : w.heap.size ≠ g := by omega
  have HC := Lib.hid (HS _ _ hB.out.1 hB.out.2.1 (Sl.of_blk (S := (w.heap.size ≤ ·)) (size := 1) (n := 2) hB.out.2.2.2 (Nat.le_succ _) rfl))
  clear h HS
  go_enter Tryz.func153, Tryz.ntmps153
  go_wp2_with fail
  refine HC.out.mono ?_
  rintro e w1 hx
  obtain ⟨T, vi, vk, va, rfl, hrep, hk1, hm⟩ := psays_at hx
  obtain ⟨a1, c1, a2, c2, a3, c3, rfl, rfl, rfl⟩ := xrep_shape hrep
  have HB1 : Hid (w1.heap[w.heap.size]? = some (.cells zero9 52 (0, 0))) := Lib.hid (hk1.heap hB.out.2.2.1 (by simpa using hgne))
  have HX := Lib.hid (lay_says (b := w.heap.size) (w := w) hB.out.2.1 (Nat.le_refl _) (hk_lt hB.out.2.2.1) hgne hrep hk1 hm)
  have gb3 := cell_blk HB1.out
  have gbf3 := frozen_blk HB1.out
  clear hx hrep hk1 hm
  go_wp2
  refine abs_post (F := fun W => W.heap[w.heap.size]? = some (.cells (T.nine (.slice a1 T.lit.its.length c1) (.slice a2 T.lit.ks.length c2) (.slice a3 T.args.length c3)) 52 (0, 0)) ∧ T.Rep W (w.heap.size ≤ ·) (.slice a1 T.lit.its.length c1) (.slice a2 T.lit.ks.length c2) (.slice a3 T.args.length c3) ∧ Keeps [g] w W ∧ At s r pl g T W) ⟨blk_sets9 HB1.out _ _ _ _ _ _ _ _ _, HX.out _ _ _ _ _ _ _ _ _⟩ (fun W hW => ?_)
  have cr := cell_blk hW.1
  exact bodyPost_ret (v := T.agg (.slice a1 T.lit.its.length c1) (.slice a2 T.lit.ks.length c2) (.slice a3 T.args.length c3)) (by simp [results, Tryz.results153, go_sem, cr]) rfl (at_psays rfl hW.2.1 hW.2.2.1 hW.2.2.2)
set_option maxRecDepth 20000 in
set_option maxHeartbeats 1000000 in
theorem eprod_of (r : Res) (h : PAt s i pl 0 g w) (HS : ∀ (W : World) (vL : Value), PAt s i pl 0 g W → Keeps [g] w W → Sl W (w.heap.size ≤ ·) 1 vL (signsL 5).length ((signsL 5).map Value.string) →
      Calls Tryz.prog 73 #[.pointer (some ⟨g, 0, none⟩), .func (.func 170) #[] #[], .int .i64 16384, vL] W (PSays s r pl g W)) :
    Calls Tryz.prog 162 #[.pointer (some ⟨g, 0, none⟩)] w (PSays s r pl g w) := by
  have hglt := hk_lt h
  have hB := Lib.hid (box_list h #[.string ⟨#[42]⟩, .string ⟨#[47]⟩, .string ⟨#[37]⟩])
  have hgne : w.heap.size ≠ g := by omega
  have HC := Lib.hid (HS _ _ hB.out.1 hB.out.2.1 (Sl.of_blk (S := (w.heap.size ≤ ·)) (size := 1) (n := 3) hB.out.2.2.2 (Nat.le_succ _) rfl))
  clear h HS
  go_enter Tryz.func162, Tryz.ntmps162
  go_wp2_with fail
  refine HC.out.mono ?_
  rintro e w1 hx
  obtain ⟨T, vi, vk, va, rfl, hrep, hk1, hm⟩ := psays_at hx
  obtain ⟨a1, c1, a2, c2, a3, c3, rfl, rfl, rfl⟩ := xrep_shape hrep
  have HB1 : Hid (w1.heap[w.heap.size]? = some (.cells zero9 52 (0, 0))) := Lib.hid (hk1.heap hB.out.2.2.1 (by simpa using hgne))
  have HX := Lib.hid (lay_says (b := w.heap.size) (w := w) hB.out.2.1 (Nat.le_refl _) (hk_lt hB.out.2.2.1) hgne hrep hk1 hm)
  have gb3 := cell_blk HB1.out
  have gbf3 := frozen_blk HB1.out
  clear hx hrep hk1 hm
  go_wp2
  refine abs_post (F := fun W => W.heap[w.heap.size]? = some (.cells (T.nine (.slice a1 T.lit.its.length c1) (.slice a2 T.lit.ks.length c2) (.slice a3 T.args.length c3)) 52 (0, 0)) ∧ T.Rep W (w.heap.size ≤ ·) (.slice a1 T.lit.its.length c1) (.slice a2 T.lit.ks.length c2) (.slice a3 T.args.length c3) ∧ Keeps [g] w W ∧ At s r pl g T W) ⟨blk_sets9 HB1.out _ _ _ _ _ _ _ _ _, HX.out _ _ _ _ _ _ _ _ _⟩ (fun W hW => ?_)
  have cr := cell_blk hW.1
  exact bodyPost_ret (v := T.agg (.slice a1 T.lit.its.length c1) (.slice a2 T.lit.ks.length c2) (.slice a3 T.args.length c3)) (by simp [results, Tryz.results162, go_sem, cr]) rfl (at_psays rfl hW.2.1 hW.2.2.1 hW.2.2.2)
end
end Go.Proofs.YtdlkdecigpaaaaaGreatDoor
namespace Go.Proofs.YtdlkdecigpaaaaaGreatDoor
set_option linter.unusedVariables false
set_option linter.unusedSimpArgs false
open Go.RowKit

abbrev getT (nm : ByteArray) (T : XT) : XT := .mk getS nm VT.zero [T]
/-- What a key's reading is: the name, and where it ends, as what is taken of T; or what is wrong. -/
def KeyOk (s : ByteArray) (i : Int) (T : XT) (nm : ByteArray) (r2 : Res) : Prop :=
  (wordAt s i ≠ eS ∧ nm = wordAt s i ∧ r2 = .ok (getT nm T) (wordAtEnd s i)) ∨
  (wordAt s i = eS ∧ isAt s (blanks s i) 34 = false ∧ nm = eS ∧ r2 = .err (blanks s i) 1) ∨
  (wordAt s i = eS ∧ isAt s (blanks s i) 34 = true ∧ (strF s (blanks s i)).2.2 = 0 ∧ nm = (strF s (blanks s i)).1.text ∧ r2 = .ok (getT nm T) (strF s (blanks s i)).1.stop) ∨
  (wordAt s i = eS ∧ isAt s (blanks s i) 34 = true ∧ (strF s (blanks s i)).2.2 ≠ 0 ∧ nm = eS ∧ r2 = .err (strF s (blanks s i)).2.1 (strF s (blanks s i)).2.2)
def KSays (s : ByteArray) (r2 : Res) (pl : Int) (g : Nat) (T : XT) (nm : ByteArray) (w : World) (e : Ending) (w' : World) : Prop :=
  e = .returned (.string nm) ∧ Keeps [g] w w' ∧ At s r2 pl g (getT nm T) w'
section
variable (s : ByteArray) (i pl : Int) (g : Nat) (w : World) (T : XT)
set_option maxRecDepth 20000 in
set_option maxHeartbeats 1000000 in
theorem ekey_text (nm : ByteArray) (r2 : Res) (h : PAt s i pl 0 g w) (h0 : 0 ≤ i) (h1 : i ≤ s.size) (hs : s.size ≤ 1000000) (hw : wordAt s i = eS) (HT : ∀ n, Calls Tryz.prog 184 #[.pointer (some ⟨g, 0, none⟩)] (w.drewN n) (KSays s r2 pl g T nm (w.drewN n))) :
    Calls Tryz.prog 179 #[.pointer (some ⟨g, 0, none⟩)] w (KSays s r2 pl g T nm w) := by
  have hW := eword_any s i pl 0 g w h h0 h1 hs
  rw [hw] at hW
  have HW := Lib.hid hW
  have HX := Lib.hid HT
  clear h hw hW HT
  go_enter Tryz.func179, Tryz.ntmps179
  go_wp2_with (first
    | (go_at_call 57; refine HW.out.mono ?_; rintro e w' ⟨rfl, n, rfl⟩)
    | (go_at_call 184; refine (HX.out _).mono ?_; rintro e w' ⟨rfl, hk, ha⟩; have H2 := Lib.hid (And.intro hk ha); clear hk ha))
  go_ret
  exact ⟨rfl, ((Keeps.refl _ _).drewN _).trans H2.out.1, H2.out.2⟩
theorem ekey_any (nm : ByteArray) (r2 : Res) (h : PAt s i pl 0 g w) (hv : VarOk w) (hg2 : 5 < g) (h0 : 0 ≤ i) (h1 : i ≤ s.size) (hs : s.size ≤ 1000000) (hk : KeyOk s i T nm r2) :
    Calls Tryz.prog 179 #[.pointer (some ⟨g, 0, none⟩)] w (KSays s r2 pl g T nm w) := by
  rcases hk with ⟨hw, rfl, rfl⟩ | ⟨hw, hq, rfl, rfl⟩ | ⟨hw, hq, hc, rfl, rfl⟩ | ⟨hw, hq, hc, rfl, rfl⟩
  · exact (ekey_word s i pl g w h h0 h1 hs hw).mono fun e w' ⟨a, b, c⟩ => ⟨a, c, rfl, b⟩
  · exact ekey_text s i pl g w T _ _ h h0 h1 hs hw fun n => (etext_form s i pl g (w.drewN n) (pat_drewN h n) h0 h1 hs hq).mono fun e w' ⟨a, b, c⟩ => ⟨a, c, (show ∃ a : Int, 0 ≤ a ∧ a ≤ s.size ∧ PAt s a _ _ g w' from ⟨i, h0, h1, b⟩)⟩
  · exact ekey_text s i pl g w T _ _ h h0 h1 hs hw fun n => (etext_any s i pl g (w.drewN n) (pat_drewN h n) (hv.keeps ((Keeps.refl [] _).drewN n) (by simp)) hg2 h0 h1 hs hq).mono fun e w' hx => by
      obtain ⟨a, b, c⟩ := hx.1 hc
      exact ⟨a, c, rfl, b⟩
  · exact ekey_text s i pl g w T _ _ h h0 h1 hs hw fun n => (etext_any s i pl g (w.drewN n) (pat_drewN h n) (hv.keeps ((Keeps.refl [] _).drewN n) (by simp)) hg2 h0 h1 hs hq).mono fun e w' hx => by
      obtain ⟨a, b, c⟩ := hx.2 hc
      exact ⟨a, c, (show ∃ a : Int, 0 ≤ a ∧ a ≤ s.size ∧ PAt s a _ _ g w' from ⟨i, h0, h1, b⟩)⟩
end
/-- What follows what was taken. -/
def PtNext (s : ByteArray) (r : Res) (e : Int) (r2 : Res) : Prop := (∃ p c, r2 = .err p c ∧ r = .err p c ∧ c ≠ 0) ∨ ∃ T p, r2 = .ok T p ∧ Par s (.parts T) p r ∧ e < p ∧ p ≤ s.size
section
variable {s : ByteArray} {i : Int} {T : XT} {r : Res}
theorem parts_dot (h : Par s (.parts T) i r) (hm : 0 ≤ markAt s i ⟨#[46]⟩) : ∃ nm r2, KeyOk s (markAt s i ⟨#[46]⟩) T nm r2 ∧ PtNext s r (markAt s i ⟨#[46]⟩) r2 := by
  have hp := mark_pos hm (by decide)
  have hmv := mark_val hm
  cases h with
  | parts_end h1 _ => exact absurd hm (by omega)
  | get_word _ hw hr => have := word_pos hm hw; exact ⟨_, _, .inl ⟨hw, rfl, rfl⟩, .inr ⟨_, _, rfl, hr, this.1, this.2⟩⟩
  | get_form _ hw hq => exact ⟨_, _, .inr (.inl ⟨hw, hq, rfl, rfl⟩), .inl ⟨_, _, rfl, rfl, by decide⟩⟩
  | get_err _ hw he hq hc => subst he; exact ⟨_, _, .inr (.inr (.inr ⟨hw, hq, hc, rfl, rfl⟩)), .inl ⟨_, _, rfl, rfl, hc⟩⟩
  | get_text _ hw he hq hc hr =>
    subst he
    have hb := blanks_ge s (markAt s i ⟨#[46]⟩)
    have := str_pos (by omega) hc
    exact ⟨_, _, .inr (.inr (.inl ⟨hw, hq, hc, rfl, rfl⟩)), .inr ⟨_, _, rfl, hr, by omega, this.2⟩⟩
  | at_err h1 _ _ => exact absurd hm (by omega)
  | at_form h1 _ _ _ => exact absurd hm (by omega)
  | at_on h1 _ _ _ _ => exact absurd hm (by omega)
theorem parts_sq (h : Par s (.parts T) i r) (hd : markAt s i ⟨#[46]⟩ < 0) (hm : 0 ≤ markAt s i ⟨#[91]⟩) : ∃ r3, Par s (.lev 0) (markAt s i ⟨#[91]⟩) r3 ∧ (∀ p c, r3 = .err p c → r = .err p c ∧ c ≠ 0) ∧
    ∀ U p, r3 = .ok U p → (markAt s p ⟨#[93]⟩ < 0 ∧ r = .err (blanks s p) 1) ∨ (0 ≤ markAt s p ⟨#[93]⟩ ∧ Par s (.parts (binT atS T U)) (markAt s p ⟨#[93]⟩) r) := by
  cases h with
  | parts_end _ h2 => exact absurd hm (by omega)
  | get_word h1 _ _ => exact absurd hd (by omega)
  | get_form h1 _ _ => exact absurd hd (by omega)
  | get_err h1 _ _ _ _ => exact absurd hd (by omega)
  | get_text h1 _ _ _ _ _ => exact absurd hd (by omega)
  | at_err _ _ hr => exact ⟨_, hr, fun p c e => (by cases e; exact ⟨rfl, par_code hr⟩), fun U p e => (by cases e)⟩
  | at_form _ _ hr hk => exact ⟨_, hr, fun p c e => (by cases e), fun U p e => (by cases e; exact .inl ⟨hk, rfl⟩)⟩
  | at_on _ _ hr hk hp => exact ⟨_, hr, fun p c e => (by cases e), fun U p e => (by cases e; exact .inr ⟨hk, hp⟩)⟩
theorem parts_no (h : Par s (.parts T) i r) (hd : markAt s i ⟨#[46]⟩ < 0) (hm : markAt s i ⟨#[91]⟩ < 0) : r = .ok T i := by
  cases h with
  | parts_end _ _ => rfl
  | get_word h1 _ _ => exact absurd hd (by omega)
  | get_form h1 _ _ => exact absurd hd (by omega)
  | get_err h1 _ _ _ _ => exact absurd hd (by omega)
  | get_text h1 _ _ _ _ _ => exact absurd hd (by omega)
  | at_err _ h2 _ => exact absurd hm (by omega)
  | at_form _ h2 _ _ => exact absurd hm (by omega)
  | at_on _ h2 _ _ _ => exact absurd hm (by omega)
/-- A part's state: it is done with an error; or it goes on, with fewer bytes to come than that number. -/
def PtSt (s : ByteArray) (r : Res) (i : Int) (k : Nat) (r1 : Res) : Prop := (∃ p c, r1 = .err p c ∧ r = .err p c ∧ c ≠ 0) ∨ ∃ T p, r1 = .ok T p ∧ Par s (.parts T) p r ∧ i < p ∧ p ≤ s.size ∧ s.size - p.toNat < k
theorem ptst_of {e : Int} {r2 : Res} (h : PtNext s r e r2) (h0 : 0 ≤ e) (hi : i ≤ e) : PtSt s r i (s.size - e.toNat) r2 := by
  rcases h with ⟨p, c, h1, h2, h3⟩ | ⟨T, p, h1, h2, h3, h4⟩
  · exact .inl ⟨p, c, h1, h2, h3⟩
  · exact .inr ⟨T, p, h1, h2, by omega, h4, by omega⟩
theorem part_first (h : Par s .part i r) (h0 : 0 ≤ i) (h1 : i ≤ s.size) : ∃ r1, Par s .one i r1 ∧ PtSt s r i (s.size + 1) r1 := by
  cases h with
  | part_err h => exact ⟨_, h, .inl ⟨_, _, rfl, rfl, par_code h⟩⟩
  | part_ok h k => have hp := par_pos h h0 h1; exact ⟨_, h, .inr ⟨_, _, rfl, k, hp.2, hp.1.2, by omega⟩⟩
end
section
variable {s : ByteArray} {r : Res} {pl : Int} {g b m : Nat} {t : TypeId} {T : XT} {vi vk va : Value} {w W : World}
/-- One that is laid into the variable: its part lies in block m. -/
theorem varx_one (op nm : ByteArray) {cs : Array Value} (hblk : W.heap[b]? = some (.cells cs 52 (0, 0))) (hcs : cs.size = 9) (hm : W.heap[m]? = some (.cells (T.nine vi vk va) t (0, 0))) (hrep : T.Rep W (fun k => w.heap.size < k ∧ k ≠ b) vi vk va) (hmS : w.heap.size < m ∧ m ≠ b) (hb : w.heap.size < b) (hg : g < w.heap.size)
    (hk : Keeps [g] w W) (hbox : W.heap[w.heap.size]? = some (.cells zero9 52 (0, 0))) (hat : At s r pl g (.mk op nm VT.zero [T]) W) :
    VarX s r pl g b (.mk op nm VT.zero [T]) (.slice none 0 0) (.slice none 0 0) (.slice (some ⟨m, 0, none⟩) 1 1) w (sets9 W b (.string op) (.string nm) (.int .i64 0) (.bool false) (.int .i64 0) (.string eS) (.slice none 0 0) (.slice none 0 0) (.slice (some ⟨m, 0, none⟩) 1 1)) := by
  have k9 := keeps_sets9 W b (.string op) (.string nm) (.int .i64 0) (.bool false) (.int .i64 0) (.string eS) (.slice none 0 0) (.slice none 0 0) (.slice (some ⟨m, 0, none⟩) 1 1)
  have hsz := hk.size
  obtain ⟨l⟩ := cs
  obtain ⟨c0, c1, c2, c3, c4, c5, c6, c7, c8, rfl⟩ : ∃ c0 c1 c2 c3 c4 c5 c6 c7 c8, l = [c0, c1, c2, c3, c4, c5, c6, c7, c8] := by
    simp only [List.size_toArray] at hcs
    match l, hcs with
    | [c0, c1, c2, c3, c4, c5, c6, c7, c8], _ => exact ⟨_, _, _, _, _, _, _, _, _, rfl⟩
  refine ⟨blk_sets9 hblk _ _ _ _ _ _ _ _ _, (un_rep op nm hm hmS hrep).keep (kc_keeps k9 fun k hk => by simp; exact hk.2), hk.step k9 (fun k h1 h2 => by simp at h1; omega), k9.heap hbox (by simp; omega), hat.keeps k9 (by simp; omega)⟩
theorem kdrew {S : List Nat} {W' : World} (h : Keeps S W.drew W') : Keeps S W W' := ((Keeps.refl S W).drew).trans h
theorem VarX.blks {r1 : Res} {W5 : World} (h : VarX s r1 pl g b T vi vk va w W) (hk : Keeps [g] W W5) (hg : g < w.heap.size) (hb : w.heap.size < b) : W5.heap[b]? = some (.cells (T.nine vi vk va) 52 (0, 0)) ∧ T.Rep W5 (fun k => w.heap.size < k ∧ k ≠ b) vi vk va ∧ Keeps [g] w W5 ∧ W5.heap[w.heap.size]? = some (.cells zero9 52 (0, 0)) :=
  ⟨hk.heap h.blk (by simp; omega), h.rep.keep (kc_keeps hk fun k hk => by simp; omega), h.keeps.trans hk, hk.heap h.box (by simp; omega)⟩
/-- What is taken, laid into the variable: the key was read first. -/
theorem VarX.get1 {r1 r2 : Res} {W5 : World} (op nm : ByteArray) (h : VarX s r1 pl g b T vi vk va w W) (hk : Keeps [g] W W5) (hat : At s r2 pl g (.mk op nm VT.zero [T]) W5) (hg : g < w.heap.size) (hb : w.heap.size < b) :
    VarX s r2 pl g b (.mk op nm VT.zero [T]) (.slice none 0 0) (.slice none 0 0) (.slice (some ⟨W5.heap.size, 0, none⟩) 1 1) w ((sets9 W5 b (.string op) (.string nm) (.int .i64 0) (.bool false) (.int .i64 0) (.string eS) (.slice none 0 0) (.slice none 0 0) (.slice (some ⟨W5.heap.size, 0, none⟩) 1 1)).alloc (.cells (T.nine vi vk va) 52)) := by
  obtain ⟨h1, h2, h3, h4⟩ := h.blks hk hg hb
  have hbl := hk_lt h1
  rw [← sets9_alloc _ hbl]
  have ka : Keeps [] W5 (W5.alloc (.cells (T.nine vi vk va) 52)) := (Keeps.refl _ _).alloc _
  exact varx_one op nm (ka.same h1) rfl (new_blk _ _) (h2.keep (kc_keeps ka fun k _ => by simp)) ⟨by have := hk_lt h4; omega, by omega⟩ hb hg (h3.trans (ka.mono (by simp))) (ka.same h4) (hat.keeps ka (by simp))
/-- .. the part was laid first. -/
theorem VarX.get2 {r1 r2 : Res} {W5 : World} (op nm : ByteArray) (h : VarX s r1 pl g b T vi vk va w W) (hk : Keeps [g] (W.alloc (.cells (T.nine vi vk va) 52)) W5) (hat : At s r2 pl g (.mk op nm VT.zero [T]) W5) (hg : g < w.heap.size) (hb : w.heap.size < b) :
    VarX s r2 pl g b (.mk op nm VT.zero [T]) (.slice none 0 0) (.slice none 0 0) (.slice (some ⟨W.heap.size, 0, none⟩) 1 1) w (sets9 W5 b (.string op) (.string nm) (.int .i64 0) (.bool false) (.int .i64 0) (.string eS) (.slice none 0 0) (.slice none 0 0) (.slice (some ⟨W.heap.size, 0, none⟩) 1 1)) := by
  have ka : Keeps [g] W (W.alloc (.cells (T.nine vi vk va) 52)) := (Keeps.refl _ _).alloc _
  obtain ⟨h1, h2, h3, h4⟩ := h.blks (ka.trans hk) hg hb
  have hbl := hk_lt h.blk
  have hbx := hk_lt h.box
  exact varx_one op nm h1 rfl (hk.heap (new_blk _ _) (by simp; omega)) h2 ⟨by omega, by omega⟩ hb hg h3 h4 hat
/-- Two parts, laid into the variable. -/
theorem VarX.at2 {r1 r3 : Res} {W5 : World} {U : XT} {ui uk ua : Value} (op : ByteArray) (h : VarX s r1 pl g b T vi vk va w W) (hu : U.Rep W5 (W.heap.size ≤ ·) ui uk ua) (hk : Keeps [g] W W5) (hat : At s r3 pl g U W5) (hg : g < w.heap.size) (hb : w.heap.size < b) :
    VarX s (r3.bin op T) pl g b (binT op T U) (.slice none 0 0) (.slice none 0 0) (.slice (some ⟨W5.heap.size, 0, none⟩) 2 2) w
      ((sets9 W5 b (.string op) (.string eS) (.int .i64 0) (.bool false) (.int .i64 0) (.string eS) (.slice none 0 0) (.slice none 0 0) (.slice (some ⟨W5.heap.size, 0, none⟩) 2 2)).alloc (.cells (T.nine vi vk va ++ U.nine ui uk ua) 52)) := by
  obtain ⟨h1, h2, h3, h4⟩ := h.blks hk hg hb
  have hbl := hk_lt h1
  have hbl0 := hk_lt h.blk
  have hbx := hk_lt h4
  have hbx0 := hk_lt h.box
  have hsz := h3.size
  rw [← sets9_alloc _ hbl]
  have k9 := keeps_sets9 (W5.alloc (.cells (T.nine vi vk va ++ U.nine ui uk ua) 52)) b (.string op) (.string eS) (.int .i64 0) (.bool false) (.int .i64 0) (.string eS) (.slice none 0 0) (.slice none 0 0) (.slice (some ⟨W5.heap.size, 0, none⟩) 2 2)
  have ka : Keeps [] W5 (W5.alloc (.cells (T.nine vi vk va ++ U.nine ui uk ua) 52)) := (Keeps.refl _ _).alloc _
  have k8 := (ka.mono (S' := [b]) (by simp)).trans k9
  have hu := bin_rep op eS (S := fun k => w.heap.size < k ∧ k ≠ b) (new_blk W5 (.cells (T.nine vi vk va ++ U.nine ui uk ua) 52)) ⟨by omega, by omega⟩ (h2.keep (kc_keeps ka fun k _ => by simp)) ((hu.mono (S' := fun k => w.heap.size < k ∧ k ≠ b) (fun k hk => ⟨by omega, by omega⟩)).keep (kc_keeps ka fun k _ => by simp))
  refine ⟨blk_sets9 (ka.same h1) _ _ _ _ _ _ _ _ _, hu.keep (kc_keeps k9 fun k hk => by simp; exact hk.2), h3.step k8 (fun k h1 h2 => by simp at h1; omega), k8.heap h4 (by simp; omega), (At.bin (p := 0) hat T).keeps k8 (by simp; omega)⟩
end
end Go.Proofs.YtdlkdecigpaaaaaGreatDoor
namespace Go.Proofs.YtdlkdecigpaaaaaGreatDoor
set_option linter.unusedVariables false
set_option linter.unusedSimpArgs false
open Go.RowKit

section
variable (s : ByteArray) (i pl : Int) (g : Nat) (w : World) (r : Res)
set_option maxRecDepth 20000 in
set_option maxHeartbeats 1000000 in
theorem epart_of (h : PAt s i pl 0 g w) (hv : VarOk w) (hg2 : 5 < g) (h0 : 0 ≤ i) (h1 : i ≤ s.size) (hs : s.size ≤ 1000000) (hr : Par s .part i r)
    (H1 : ∀ (r' : Res) (W : World), Par s .one i r' → PAt s i pl 0 g W → Keeps [g] w W → Calls Tryz.prog 178 #[.pointer (some ⟨g, 0, none⟩)] W (PSays s r' pl g W))
    (HO : ∀ (i' : Int) (r' : Res) (W : World), i < i' → i' ≤ s.size → Par s (.lev 0) i' r' → PAt s i' pl 0 g W → Keeps [g] w W → Calls Tryz.prog 45 #[.pointer (some ⟨g, 0, none⟩)] W (PSays s r' pl g W)) :
    Calls Tryz.prog 175 #[.pointer (some ⟨g, 0, none⟩)] w (PSays s r pl g w) := by
  have hglt := hk_lt h
  have hB := Lib.hid (box_new h)
  have hgne : w.heap.size ≠ g := by omega
  obtain ⟨r0, hr0, hst⟩ := part_first hr h0 h1
  have HF := Lib.hid (H1 r0 _ hr0 hB.out.1 hB.out.2.1)
  have HOX := Lib.hid HO
  have HST := Lib.hid hst
  have HV0 := Lib.hid hv
  clear h H1 HO hr0 hst hr hv
  go_enter Tryz.func175, Tryz.ntmps175
  go_wp2_with fail
  refine HF.out.mono ?_
  rintro e1 w2 hx
  obtain ⟨T, vi, vk, va, rfl, hrep, hk1, hm1⟩ := psays_at hx
  obtain ⟨a1, c1, a2, c2, a3, c3, rfl, rfl, rfl⟩ := xrep_shape hrep
  have HV := Lib.hid (varx_new (w := w) hB.out.2.2 hB.out.2.1 hglt hrep hk1 hm1)
  have hwz : w.heap.size < w2.heap.size := Nat.lt_of_lt_of_le (hk_lt hB.out.2.2) hk1.size
  clear hx hrep hk1 hm1 HF
  go_wp2_with fail
  refine abs_world (F := fun W => VarX s r0 pl g w2.heap.size T (.slice a1 T.lit.its.length c1) (.slice a2 T.lit.ks.length c2) (.slice a3 T.args.length c3) w W) HV.out (fun W3 HW3 => ?_)
  have HV3 := Lib.hid HW3
  clear HW3 HV
  go_loopg [] (s.size + 1) (fun k W => ∃ (r1 : Res) (T' : XT) (vi vk va : Value), Hid (PtSt s r i k r1 ∧ VarX s r1 pl g w2.heap.size T' vi vk va w W))
  case atStart => exact ⟨r0, T, _, _, _, Lib.hid ⟨HST.out, HV3.out⟩⟩
  case round =>
    obtain ⟨r1, T', vi, vk, va, HQ⟩ := hrel
    obtain ⟨b1, d1, b2, d2, b3, d3, rfl, rfl, rfl⟩ := xrep_shape HQ.out.2.rep
    have gb3 := cell_blk HQ.out.2.blk
    have gbf3 := frozen_blk HQ.out.2.blk
    have gb4 := cell_blk HQ.out.2.box
    have gbf4 := frozen_blk HQ.out.2.box
    have hl3 := hk_lt HQ.out.2.blk
    have hl4 := hk_lt HQ.out.2.box
    rcases HQ.out.1 with ⟨p, c, rfl, rfl, hc⟩ | ⟨T0, p, rfl, hpar, hip, hp, hpk⟩
    · obtain ⟨a, ha0, ha1, hpa⟩ : ∃ a : Int, 0 ≤ a ∧ a ≤ s.size ∧ PAt s a p c g wr := HQ.out.2.at_
      have gp := cell_blk hpa
      have e1 : (c == 0) = false := by rw [beq_eq_false_iff_ne]; exact hc
      have HE := Lib.hid (HQ.out.2.ret hglt)
      clear hpa hc
      go_wp2_with fail
      refine abs_post (F := fun W => ToldX s (.err p c) pl g w.heap.size T' (.slice b1 T'.lit.its.length d1) (.slice b2 T'.lit.ks.length d2) (.slice b3 T'.args.length d3) w W) HE.out (fun W hW => ?_)
      have cr := cell_blk hW.blk
      exact bodyPost_ret (v := T'.agg (.slice b1 T'.lit.its.length d1) (.slice b2 T'.lit.ks.length d2) (.slice b3 T'.args.length d3)) (by simp [results, Tryz.results175, go_sem, cr]) rfl (at_psays rfl hW.rep hW.keeps hW.at_)
    · have hat : T' = T0 ∧ PAt s p pl 0 g wr := HQ.out.2.at_
      obtain ⟨rfl, hpa⟩ := hat
      have gp := cell_blk hpa
      have gpf := frozen_blk hpa
      have hp0 : 0 ≤ p := by omega
      by_cases hdot : 0 ≤ markAt s p ⟨#[46]⟩
      · obtain ⟨nm, r2, hk2, hn2⟩ := parts_dot hpar hdot
        have hpm : pmark s p ⟨#[46]⟩ = markAt s p ⟨#[46]⟩ := pmark_nl (by decide +kernel)
        have hpp := mark_pos hdot (by decide)
        have hY := emark_yes s ⟨#[46]⟩ p pl g wr hpa hp0 hp hs (by decide) (by decide) (by rw [hpm]; exact hdot)
        rw [hpm] at hY
        have HY := Lib.hid hY
        have HK2 := Lib.hid hk2
        have HN2 := Lib.hid (ptst_of (i := i) hn2 hdot (by omega))
        generalize markAt s p ⟨#[46]⟩ = e at *
        clear hY hk2 hn2 hpm hpa hpar hdot
        go_wp2_with (go_at_call 93; refine HY.out.mono ?_; rintro e' w3 ⟨rfl, hp3, hk3⟩; have H3 := Lib.hid (And.intro hp3 hk3); clear hp3 hk3)
        have HVe := Lib.hid (HQ.out.2.go H3.out.2 (show At s (.ok T' e) pl g T' w3 from ⟨rfl, H3.out.1⟩) hglt hwz)
        clear gb3 gbf3 gb4 gbf4 hl3 hl4 gp gpf
        have gb3 := cell_blk HVe.out.blk
        have gbf3 := frozen_blk HVe.out.blk
        have gb4 := cell_blk HVe.out.box
        have gbf4 := frozen_blk HVe.out.box
        have hl3 := hk_lt HVe.out.blk
        have hl4 := hk_lt HVe.out.box
        have hv3 := HV0.out.keeps HVe.out.keeps (by simpa using hg2)
        have HKEY := Lib.hid (fun (W : World) (ha : PAt s e pl 0 g W) (k : Keeps [] w3 W) => ekey_any s e pl g W T' nm r2 ha (hv3.keeps k (by simp)) hg2 (by omega) hpp.2 hs HK2.out)
        clear hv3
        go_region_with (go_at_call 179; refine (HKEY.out _ (by first | exact H3.out.1 | exact pat_alloc H3.out.1 _) (by first | exact (Keeps.refl _ _).drew | exact ((Keeps.refl _ _).alloc _).drew)).mono ?_; rintro e5 w5 ⟨rfl, hk5, ha5⟩; have hblk5 := hk5.heap (by first | exact HVe.out.blk | exact hk_alloc HVe.out.blk _) (by simp; omega); have gb5 := cell_blk hblk5; have gbf5 := frozen_blk hblk5; have hl5 := hk_lt hblk5; have H5 := Lib.hid (And.intro hk5 ha5); clear hblk5 hk5 ha5)
        all_goals (refine ‹∀ (a : Act) (w : World), _ → _› _ _ ?_)
        all_goals (try go_wp2_with fail)
        all_goals go_roundg (s.size - e.toNat)
        all_goals first
          | omega
          | with_reducible exact ⟨r2, getT nm T', _, _, _, Lib.hid ⟨HN2.out, HVe.out.get1 getS nm (kdrew H5.out.1) H5.out.2 hglt hwz⟩⟩
          | with_reducible exact ⟨r2, getT nm T', _, _, _, Lib.hid ⟨HN2.out, HVe.out.get2 getS nm (kdrew H5.out.1) H5.out.2 hglt hwz⟩⟩
      · have hpm : pmark s p ⟨#[46]⟩ = markAt s p ⟨#[46]⟩ := pmark_nl (by decide +kernel)
        have HM1 := Lib.hid (emark_no s ⟨#[46]⟩ p pl g wr hpa hp0 hp hs (by decide) (by rw [hpm]; omega))
        have hpm2 : pmark s p ⟨#[91]⟩ = markAt s p ⟨#[91]⟩ := pmark_nl (by decide +kernel)
        by_cases hsq : 0 ≤ markAt s p ⟨#[91]⟩
        · obtain ⟨r3, hr3, he3, ho3⟩ := parts_sq hpar (by omega) hsq
          have hpp := mark_pos hsq (by decide)
          have hY := fun n => emark_yes s ⟨#[91]⟩ p pl g (wr.drewN n) (pat_drewN hpa n) hp0 hp hs (by decide) (by decide) (by rw [hpm2]; exact hsq)
          rw [hpm2] at hY
          have HY := Lib.hid hY
          have HR3 := Lib.hid hr3
          have HE3 := Lib.hid he3
          have HO3 := Lib.hid ho3
          generalize markAt s p ⟨#[91]⟩ = e at *
          clear hY hr3 he3 ho3 hpm hpm2 hpa hpar hdot hsq
          go_wp2_with (first
            | (go_at_call 93; (with_reducible refine HM1.out.mono ?_); rintro e' w' ⟨rfl, n, rfl⟩)
            | (go_at_call 93; (with_reducible refine (HY.out _).mono ?_); rintro e' w3 ⟨rfl, hp3, hk3⟩; have H3 := Lib.hid (And.intro hp3 (((Keeps.refl [g] wr).drewN n).trans hk3)); clear hp3 hk3))
          have HVe := Lib.hid (HQ.out.2.go H3.out.2 (show At s (.ok T' e) pl g T' w3 from ⟨rfl, H3.out.1⟩) hglt hwz)
          clear gb3 gbf3 gb4 gbf4 hl3 hl4 gp gpf
          have gb3 := cell_blk HVe.out.blk
          have gbf3 := frozen_blk HVe.out.blk
          have hl3 := hk_lt HVe.out.blk
          have HOR := Lib.hid (fun (W : World) (ha : PAt s e pl 0 g W) (k : Keeps [] w3 W) => HOX.out e r3 W (by omega) hpp.2 HR3.out ha (HVe.out.keeps.trans (k.mono (by simp))))
          go_region_with (go_at_call 45; refine (HOR.out _ (by exact H3.out.1) (by exact (Keeps.refl _ _).drew)).mono ?_; rintro e5 w5 hx; obtain ⟨U, ui, uk, ua, rfl, hrep, hk5, hm5⟩ := psays_at hx; obtain ⟨x1, y1, x2, y2, x3, y3, rfl, rfl, rfl⟩ := xrep_shape hrep; have hblk5 := hk5.heap HVe.out.blk (by simp; omega); have gb5 := cell_blk hblk5; have gbf5 := frozen_blk hblk5; have hl5 := hk_lt hblk5; have H5 := Lib.hid (And.intro hrep (And.intro hk5 hm5)); clear hblk5 hk5 hm5 hrep hx)
          all_goals
            refine ‹∀ (a : Act) (w : World), _ → _› _ _ ?_
            have HB6 := Lib.hid (HVe.out.at2 atS H5.out.1 (kdrew H5.out.2.1) H5.out.2.2 hglt hwz)
            refine abs_world (F := fun W => VarX s (r3.bin atS T') pl g w2.heap.size (binT atS T' U) (.slice none 0 0) (.slice none 0 0) (.slice (some ⟨w5.heap.size, 0, none⟩) 2 2) w W) HB6.out (fun W6 HW6 => ?_)
            have H6 := Lib.hid HW6
            clear HW6 HB6 gb3 gbf3 hl3 gb5 gbf5 hl5
            cases r3 with
            | err p' c' =>
              obtain ⟨hre, hc'⟩ := HE3.out p' c' rfl
              have HRE := Lib.hid (And.intro hre hc')
              obtain ⟨a, ha0, ha1, hpa⟩ : ∃ a : Int, 0 ≤ a ∧ a ≤ s.size ∧ PAt s a p' c' g W6 := H6.out.at_
              have HNE := Lib.hid (eneed_fail s a p' g W6 ⟨#[93]⟩ c' hpa ha0 hs hc')
              clear hpa hre hc'
              go_wp2_with (go_at_call 180; refine HNE.out.mono ?_; rintro e' w' ⟨rfl, rfl⟩)
              go_roundg (s.size - e.toNat)
              case measure => omega
              case rel => exact ⟨.err p' c', binT atS T' U, _, _, _, Lib.hid ⟨.inl ⟨p', c', rfl, HRE.out.1, HRE.out.2⟩, H6.out⟩⟩
            | ok U' p' =>
              have hat6 : binT atS T' U = binT atS T' U' ∧ PAt s p' pl 0 g W6 := H6.out.at_
              obtain ⟨hT, hpa⟩ := hat6
              have HT := Lib.hid hT
              have hpq := par_pos HR3.out (by omega) hpp.2
              have hpp1 : e < p' := hpq.2
              have hpp2 : p' ≤ s.size := hpq.1.2
              have hpm : pmark s p' ⟨#[93]⟩ = markAt s p' ⟨#[93]⟩ := pmark_nl (by decide +kernel)
              rcases HO3.out U' p' rfl with ⟨hno, hre⟩ | ⟨hyes, hpar'⟩
              · have HNE := Lib.hid (eneed_no s p' pl g W6 ⟨#[93]⟩ hpa (by omega) hpp2 hs (by decide) (by rw [hpm]; exact hno))
                have HRE := Lib.hid hre
                clear hT hpa hpq hpm hre hno
                go_wp2_with (go_at_call 180; refine HNE.out.mono ?_; rintro e' w7 ⟨rfl, hp7, hk7⟩; have H7 := Lib.hid (And.intro hp7 hk7); clear hp7 hk7)
                go_roundg (s.size - e.toNat)
                case measure => omega
                case rel => exact ⟨.err (blanks s p') 1, binT atS T' U, _, _, _, Lib.hid ⟨.inl ⟨_, _, rfl, HRE.out, by decide⟩, H6.out.go H7.out.2 (show ∃ a : Int, 0 ≤ a ∧ a ≤ s.size ∧ PAt s a (blanks s p') 1 g w7 from ⟨p', by omega, hpp2, H7.out.1⟩) hglt hwz⟩⟩
              · have hq := mark_pos hyes (by decide)
                have hY := eneed_yes s p' pl g W6 ⟨#[93]⟩ hpa (by omega) hpp2 hs (by decide) (by decide) (by rw [hpm]; exact hyes)
                rw [hpm] at hY
                have HNE := Lib.hid hY
                have HPR := Lib.hid hpar'
                clear hT hpa hpq hpm hY hpar' hyes
                generalize markAt s p' ⟨#[93]⟩ = e2 at *
                go_wp2_with (go_at_call 180; refine HNE.out.mono ?_; rintro e' w7 ⟨rfl, hp7, hk7⟩; have H7 := Lib.hid (And.intro hp7 hk7); clear hp7 hk7)
                go_roundg (s.size - e.toNat)
                case measure => omega
                case rel => exact ⟨.ok (binT atS T' U') e2, binT atS T' U, _, _, _, Lib.hid ⟨.inr ⟨_, _, rfl, HPR.out, by omega, hq.2, by omega⟩, H6.out.go H7.out.2 (show At s (.ok (binT atS T' U') e2) pl g (binT atS T' U) w7 from ⟨HT.out, H7.out.1⟩) hglt hwz⟩⟩
        · have HRE := Lib.hid (parts_no hpar (by omega) (by omega))
          have HM2 := Lib.hid (fun n => emark_no s ⟨#[91]⟩ p pl g (wr.drewN n) (pat_drewN hpa n) hp0 hp hs (by decide) (by rw [hpm2]; omega))
          have HE := Lib.hid (fun n => (HQ.out.2.drewN n).ret hglt)
          clear hpa hpar hpm hpm2
          go_wp2_with (first
            | (go_at_call 93; (with_reducible refine HM1.out.mono ?_); rintro e' w' ⟨rfl, n, rfl⟩)
            | (go_at_call 93; (with_reducible refine (HM2.out _).mono ?_); rintro e' w' ⟨rfl, m, rfl⟩))
          refine abs_post (F := fun W => ToldX s (.ok T' p) pl g w.heap.size T' (.slice b1 T'.lit.its.length d1) (.slice b2 T'.lit.ks.length d2) (.slice b3 T'.args.length d3) w W) (HE.out _) (fun W hW => ?_)
          have cr := cell_blk hW.blk
          exact bodyPost_ret (v := T'.agg (.slice b1 T'.lit.its.length d1) (.slice b2 T'.lit.ks.length d2) (.slice b3 T'.args.length d3)) (by simp [results, Tryz.results175, go_sem, cr]) rfl (HRE.out ▸ at_psays rfl hW.rep hW.keeps hW.at_)
end
end Go.Proofs.YtdlkdecigpaaaaaGreatDoor
namespace Go.Proofs.YtdlkdecigpaaaaaGreatDoor
set_option linter.unusedVariables false
set_option linter.unusedSimpArgs false
open Go.RowKit

theorem elem_x : Elem Tryz.prog 50 52 (.agg zero9) 9 144 := ⟨Tryz.underlying50, by kernel_rfl, rfl, by decide⟩
theorem own_keeps9 {w w1 : World} {base : Nat} {e : TypeId} {size n g : Nat} {v : Value} {xs : List Value} (h : w.ownsRow base e size v n xs) (k : Keeps [g] w w1) (hg : g < base) : w1.ownsRow base e size v n xs := by
  obtain ⟨h1, h2 | ⟨b, cap, cur, e1, e2, e3, e4⟩⟩ := h
  · exact ⟨h1, .inl h2⟩
  · exact ⟨h1, .inr ⟨b, cap, cur, e1, e2, k.heap e3 (by simp; omega), e4⟩⟩
theorem own_slice_len {w : World} {base : Nat} {e : TypeId} {size n : Nat} {v : Value} {xs : List Value} (h : w.ownsRow base e size v n xs) : ∃ A cap, v = .slice A n cap ∧ n ≤ cap := by
  rcases h.2 with ⟨rfl, rfl⟩ | ⟨g, cap, cur, rfl, _, _, h4, _⟩
  · exact ⟨_, _, rfl, Nat.le_refl _⟩
  · exact ⟨_, _, rfl, h4⟩
abbrev argCells (nm : ByteArray) (va : Value) : Array Value := #[.string nm, .string eS, .int .i64 0, .bool false, .int .i64 0, .string eS, .slice none 0 0, .slice none 0 0, va]
/-- Block b bears a call; its parts so far are a row of the call's own. -/
structure ArgX (g b : Nat) (nm : ByteArray) (l : List XT) (va : Value) (xs : List Value) (w W : World) : Prop where
  blk : W.heap[b]? = some (.cells (argCells nm va) 52 (0, 0))
  own : W.ownsRow (b + 1) 52 9 va l.length xs
  rows : Rows (XT.Nine W (fun k => w.heap.size < k ∧ k ≠ b ∧ some k ≠ va.ownBlock)) l xs
  keeps : Keeps [g] w W
  box : W.heap[w.heap.size]? = some (.cells zero9 52 (0, 0))
section
variable {s : ByteArray} {r : Res} {pl : Int} {g b : Nat} {nm : ByteArray} {l : List XT} {va : Value} {xs : List Value} {w W W' : World}
theorem ArgX.go (h : ArgX g b nm l va xs w W) (k : Keeps [g] W W') (hg : g < w.heap.size) (hb : w.heap.size < b) : ArgX g b nm l va xs w W' :=
  ⟨k.heap h.blk (by simp; omega), own_keeps9 h.own k (by omega), nine_go (kc_keeps k fun k hk => by simp; omega) (fun _ _ _ _ h _ => h) h.rows, h.keeps.trans k, k.heap h.box (by simp; omega)⟩
theorem ArgX.var (h : ArgX g b nm l va xs w W) (hb : w.heap.size < b) (hat : At s r pl g (.mk nm eS VT.zero l) W) : VarX s r pl g b (.mk nm eS VT.zero l) (.slice none 0 0) (.slice none 0 0) va w W :=
  ⟨h.blk, node_xrep ((Sl.of_own h.own).mono fun k hk => ⟨by omega, by omega⟩) (nine_go (Kc.refl _ _) (fun _ _ _ _ h _ => ⟨h.1, h.2.1⟩) h.rows), h.keeps, h.box, hat⟩
theorem head_one9 {T : XT} {vi vk va : Value} (hi : vi.oneCell' = true) (hk : vk.oneCell' = true) (ha : va.oneCell' = true) : ∀ u ∈ T.head vi vk va, u.oneCell' = true := by
  intro u hu; simp only [XT.head, List.mem_cons, List.not_mem_nil, or_false] at hu
  rcases hu with rfl | rfl | rfl | rfl | rfl | rfl | rfl | rfl | rfl <;> first | rfl | assumption
theorem At.same {T : XT} (h : At s r pl g T W) (e : W'.heap[g]? = W.heap[g]?) : At s r pl g T W' := by
  cases r with
  | ok U p => exact ⟨h.1, e.trans h.2⟩
  | err p c => obtain ⟨a, h0, h1, h2⟩ := h; exact (show ∃ a : Int, 0 ≤ a ∧ a ≤ s.size ∧ PAt s a p c g W' from ⟨a, h0, h1, e.trans h2⟩)
theorem keeps_grown {S : List Nat} {row : Option Nat} (h : Keeps S w W) (k : W.grownBy W' row) (hr : ∀ q, row = some q → w.heap.size ≤ q) : Keeps S w W' :=
  ⟨k.os.trans h.os, k.tape.trans h.tape, k.output.trans h.output, Nat.le_trans h.size k.size, fun q hq hn => (k.block q (Nat.lt_of_lt_of_le hq h.size) (fun e => by have := hr q e.symm; omega)).trans (h.block q hq hn)⟩
/-- One part more: it was laid in a block of its own, and appended; the box then bears the new row. -/
theorem ArgX.app {W5 w6 : World} {U : XT} {ui uk ua va' : Value} {r3 : Res} (h : ArgX g b nm l va xs w W) (hg : g < w.heap.size) (hb : w.heap.size < b) (k5 : Keeps [g] W W5) (hu : U.Rep W5 (W.heap.size ≤ ·) ui uk ua) (hat : At s r3 pl g U W5)
    (ho : w6.ownsRow (b + 1) 52 9 va' (l.length + 1) (xs ++ U.head ui uk ua)) (hv : va'.ownBlock = va.ownBlock ∨ va'.ownBlock = some (W5.alloc (.cells (U.nine ui uk ua) 52)).heap.size) (hgr : (W5.alloc (.cells (U.nine ui uk ua) 52)).grownBy w6 va.ownBlock) :
    ArgX g b nm (l ++ [U]) va' (xs ++ U.head ui uk ua) w (w6.setCell ⟨b, 8, none⟩ va') ∧ At s r3 pl g U (w6.setCell ⟨b, 8, none⟩ va') ∧ w6.heap[b]? = some (.cells (argCells nm va) 52 (0, 0)) := by
  have h5 := h.go k5 hg hb
  have ka : Keeps [] W5 (W5.alloc (.cells (U.nine ui uk ua) 52)) := (Keeps.refl _ _).alloc _
  have hrow : ∀ k, va.ownBlock = some k → b + 1 ≤ k := fun k hk => by
    rcases h5.own.2 with ⟨rfl, _⟩ | ⟨q, cap, cur, rfl, q2, _⟩
    · simp [Value.ownBlock] at hk
    · simp [Value.ownBlock] at hk; omega
  have hg6 : ∀ k o, k ≤ b → (W5.alloc (.cells (U.nine ui uk ua) 52)).heap[k]? = some o → w6.heap[k]? = some o := fun k o hk ho => hk_grow ho hgr (fun e => by have := hrow k e.symm; omega)
  have hblk6 := hg6 b _ (Nat.le_refl _) (ka.same h5.blk)
  have hbl := hk_lt h.blk
  have hbx := hk_lt h5.box
  have hz5 := k5.size
  have hz := h5.keeps.size
  have kc6 : Kc (fun k => w.heap.size < k ∧ k ≠ b ∧ some k ≠ va.ownBlock) W5 (w6.setCell ⟨b, 8, none⟩ va') := ((kc_alloc (.cells (U.nine ui uk ua) 52)).trans (kc_grown hgr fun q hq hS => hS.2.2 hq.symm)).trans (kc_set (fun h => h.2.1 rfl) _)
  have hown5 : ∀ q, va.ownBlock = some q → q < W.heap.size := fun q hq => (h.own.lt q hq).2
  have hnew : ∀ k, w.heap.size < k ∧ k ≠ b ∧ some k ≠ va.ownBlock → k < W5.heap.size → w.heap.size < k ∧ k ≠ b ∧ some k ≠ va'.ownBlock := fun k hk hl => ⟨hk.1, hk.2.1, fun e => by
    rcases hv with hv | hv
    · rw [hv] at e; exact hk.2.2 e
    · rw [hv, World.size_alloc] at e; have := Option.some.inj e; omega⟩
  have e6 : (w6.setCell ⟨b, 8, none⟩ va').heap[g]? = W5.heap[g]? := by
    rw [Below.heap_setCell w6 ⟨b, 8, none⟩ va' g (by dsimp only; omega), hgr.block g (by rw [World.size_alloc]; omega) (fun e => by have := hrow g e.symm; omega), Below.heap_alloc _ _ _ (by omega)]
  refine ⟨⟨set_to hblk6 8 va' rfl, by simpa using own_keeps9 ho ((Keeps.refl [b] w6).set (.inl (by simp)) va') (Nat.lt_succ_self b), ?_, ?_, ?_⟩, hat.same e6, hblk6⟩
  · refine Rows.snoc ?_ ⟨ui, uk, ua, rfl, ?_⟩
    · exact nine_go (kc6.mono fun k hk => hk.1) (fun k _ _ _ hk _ => hnew k hk.1 hk.2) (nine_go (S' := fun k => (w.heap.size < k ∧ k ≠ b ∧ some k ≠ va.ownBlock) ∧ k < W5.heap.size) (Kc.refl _ _) (fun k _ _ _ hk hx => ⟨hk, hk_lt hx⟩) h5.rows)
    · refine XT.Rep.go (S := fun k => (w.heap.size < k ∧ k ≠ b ∧ some k ≠ va.ownBlock) ∧ k < W5.heap.size) (kc6.mono fun k hk => hk.1) (fun k _ _ _ hk _ => hnew k hk.1 hk.2) ?_
      exact hu.into fun k _ _ _ hk hx => ⟨⟨by omega, by omega, fun e => by have := hown5 k e.symm; omega⟩, hk_lt hx⟩
  · exact (keeps_grown (h5.keeps.alloc _) hgr (fun q hq => by have := hrow q hq; omega)).set (.inr (by dsimp only; omega)) _
  · rw [Below.heap_setCell w6 ⟨b, 8, none⟩ va' _ (by dsimp only; omega)]
    exact hg6 _ _ (by omega) (ka.same h5.box)
end
/-- What stands behind a call's part. -/
theorem call_cases {s nm : ByteArray} {l : List XT} {p : Int} {r : Res} (h : Par s (.call nm l) p r) : ∃ r3, Par s (.lev 0) p r3 ∧ (∀ p' c', r3 = .err p' c' → r = .err p' c' ∧ c' ≠ 0) ∧ ∀ U p', r3 = .ok U p' →
    (0 ≤ markAt s p' ⟨#[41]⟩ ∧ l.length + 1 < argsN nm ∧ r = .err (blanks s p') 12) ∨ (0 ≤ markAt s p' ⟨#[41]⟩ ∧ argsN nm ≤ l.length + 1 ∧ r = .ok (.mk nm eS VT.zero (l ++ [U])) (markAt s p' ⟨#[41]⟩)) ∨
    (markAt s p' ⟨#[41]⟩ < 0 ∧ markAt s p' ⟨#[44]⟩ < 0 ∧ r = .err (blanks s p') 1) ∨ (markAt s p' ⟨#[41]⟩ < 0 ∧ 0 ≤ markAt s p' ⟨#[44]⟩ ∧ l.length + 1 = argsN nm ∧ r = .err (blanks s p') 12) ∨
    (markAt s p' ⟨#[41]⟩ < 0 ∧ 0 ≤ markAt s p' ⟨#[44]⟩ ∧ l.length + 1 ≠ argsN nm ∧ Par s (.call nm (l ++ [U])) (markAt s p' ⟨#[44]⟩) r) := by
  cases h with
  | call_err h => exact ⟨_, h, fun p' c' e => (by cases e; exact ⟨rfl, par_code h⟩), fun U p' e => (by cases e)⟩
  | call_few h h1 h2 => exact ⟨_, h, fun p' c' e => (by cases e), fun U p' e => (by cases e; exact .inl ⟨h1, h2, rfl⟩)⟩
  | call_end h h1 h2 => exact ⟨_, h, fun p' c' e => (by cases e), fun U p' e => (by cases e; exact .inr (.inl ⟨h1, h2, rfl⟩))⟩
  | call_form h h1 h2 => exact ⟨_, h, fun p' c' e => (by cases e), fun U p' e => (by cases e; exact .inr (.inr (.inl ⟨h1, h2, rfl⟩)))⟩
  | call_many h h1 h2 h3 => exact ⟨_, h, fun p' c' e => (by cases e), fun U p' e => (by cases e; exact .inr (.inr (.inr (.inl ⟨h1, h2, h3, rfl⟩))))⟩
  | call_on h h1 h2 h3 h4 => exact ⟨_, h, fun p' c' e => (by cases e), fun U p' e => (by cases e; exact .inr (.inr (.inr (.inr ⟨h1, h2, h3, h4⟩))))⟩
theorem argsN_le (nm : ByteArray) : argsN nm ≤ 2 := by unfold argsN; split <;> (try split) <;> omega
end Go.Proofs.YtdlkdecigpaaaaaGreatDoor
