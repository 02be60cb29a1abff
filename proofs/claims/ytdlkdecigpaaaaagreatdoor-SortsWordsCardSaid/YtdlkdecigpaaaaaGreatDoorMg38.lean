/- Put together: The walk of signs ahead; What is put together from the left: two variables that bear trees; the states of a chain; The walk of a chain. -/
import Derived.Test.YtdlkdecigpaaaaaGreatDoorMg37
namespace Go.Proofs.YtdlkdecigpaaaaaGreatDoor
set_option linter.unusedVariables false
set_option linter.unusedSimpArgs false
open Go.RowKit

section
variable (s t op : ByteArray) (i pl e0 : Int) (g k : Nat) (w : World) (r : Res)
set_option maxRecDepth 20000 in
set_option maxHeartbeats 1000000 in
theorem esigned_of (K : Nat) (eg : ∀ args w, (callFunc K args).run Tryz.prog w = .ok (.enter K args) w) (h : PAt s i pl 0 g w) (h0 : 0 ≤ i) (h1 : i ≤ s.size) (hs : s.size ≤ 4000) (ht : 0 < t.size) (ht2 : t.size ≤ 1000000) (hm : Marks s t k i e0)
    (HN : ∀ W, PAt s e0 pl 0 g W → Keeps [g] w W → Calls Tryz.prog K #[.pointer (some ⟨g, 0, none⟩)] W (PSays s r pl g W)) :
    Calls Tryz.prog 132 #[.pointer (some ⟨g, 0, none⟩), .func (.func K) #[] #[], .string t, .string op] w (PSays s (upN op k r) pl g w) := by
  have hglt := hk_lt h
  have hB := Lib.hid (box_new h)
  have hgne : w.heap.size ≠ g := by omega
  have hke := marks_pos ht k hm h1
  have HMK := Lib.hid hm
  have HNX := Lib.hid HN
  clear h HN hm
  go_enter Tryz.func132, Tryz.ntmps132
  go_wp2
  go_loopw [9] (fun v W => ∃ (j m : Nat) (i1 : Int), v = .int .i64 j ∧ 0 ≤ i1 ∧ i1 ≤ s.size ∧ (j : Int) ≤ i1 ∧ j + m = k ∧ Hid (Marks s t m i1 e0 ∧ Box s i1 pl 0 g w.heap.size w W)) (fun v _ => k - (intOf v).toNat)
  case atStart => exact ⟨0, k, i, rfl, h0, h1, by omega, by omega, Lib.hid ⟨HMK.out, hB.out⟩⟩
  case round =>
    obtain ⟨j, m, i1, rfl, h0', h1', hj, hjk, HX⟩ := hrel
    cases m with
    | zero =>
      have HY := Lib.hid (emark_no s t i1 pl g wr HX.out.2.1 h0' h1' (by omega) ht HX.out.1.2)
      have he0 : e0 = i1 := HX.out.1.1
      have HCall := Lib.hid (fun n => HNX.out (wr.drewN n) (he0 ▸ pat_drewN HX.out.2.1 n) (HX.out.2.2.1.drewN n))
      obtain rfl : j = k := by omega
      clear he0 hke
      go_wp2_with (go_at_call 93; refine HY.out.mono ?_; rintro e w' ⟨rfl, n, rfl⟩)
      refine (HCall.out n).mono ?_
      rintro e1 w2 hx
      obtain ⟨T, vi, vk, va, rfl, hrep, hk1, hm1⟩ := psays_at hx
      obtain ⟨a1, c1, a2, c2, a3, c3, rfl, rfl, rfl⟩ := xrep_shape hrep
      have HV := Lib.hid (varx_new (w := w) (w0 := wr.drewN n) HX.out.2.2.2 (HX.out.2.2.1.drewN n) hglt hrep hk1 hm1)
      have hwz : w.heap.size < w2.heap.size := by have := hk_lt HX.out.2.2.2; have := hk1.size; exact Nat.lt_of_lt_of_le (by assumption) this
      clear hx hrep hk1 hm1 HCall HY
      go_wp2
      refine abs_world (F := fun W => VarX s r pl g w2.heap.size T (.slice a1 T.lit.its.length c1) (.slice a2 T.lit.ks.length c2) (.slice a3 T.args.length c3) w W) HV.out (fun W3 HW3 => ?_)
      have HV3 := Lib.hid HW3
      clear HW3 HV
      go_loopw [20] (fun v W => ∃ (q : Nat) (T' : XT) (vi vk va : Value), v = .int .i64 q ∧ q ≤ j ∧ Hid (VarX s (upN op q r) pl g w2.heap.size T' vi vk va w W)) (fun v _ => j - (intOf v).toNat)
      case atStart => exact ⟨0, T, _, _, _, rfl, Nat.zero_le _, HV3⟩
      case round =>
        obtain ⟨q, T', vi, vk, va, rfl, hq, HQ⟩ := hrel
        obtain ⟨b1, d1, b2, d2, b3, d3, rfl, rfl, rfl⟩ := xrep_shape HQ.out.rep
        have gb3 := cell_blk HQ.out.blk
        have gbf3 := frozen_blk HQ.out.blk
        have gb4 := cell_blk HQ.out.box
        have gbf4 := frozen_blk HQ.out.box
        have hl3 := hk_lt HQ.out.blk
        have hl4 := hk_lt HQ.out.box
        by_cases hlt : q < j
        · have HU := Lib.hid (HQ.out.un op hglt hwz)
          go_wp2
          go_roundw
          case rel => exact ⟨q + 1, unT op T', _, _, _, by go_num, by omega, HU⟩
          case measure => simp [intOf]; omega
        · obtain rfl : q = j := by omega
          have HE := Lib.hid (HQ.out.ret hglt)
          go_wp2
          refine abs_post (F := fun W => ToldX s (upN op q r) pl g w.heap.size T' (.slice b1 T'.lit.its.length d1) (.slice b2 T'.lit.ks.length d2) (.slice b3 T'.args.length d3) w W) HE.out (fun W hW => ?_)
          have cr := cell_blk hW.blk
          exact bodyPost_ret (v := T'.agg (.slice b1 T'.lit.its.length d1) (.slice b2 T'.lit.ks.length d2) (.slice b3 T'.args.length d3)) (by simp [results, Tryz.results132, go_sem, cr]) rfl (at_psays rfl hW.rep hW.keeps hW.at_)
    | succ m =>
      have HY := Lib.hid (emark_yes s t i1 pl g wr HX.out.2.1 h0' h1' (by omega) ht ht2 HX.out.1.1)
      have hp := pmark_pos HX.out.1.1 ht
      clear hke
      go_wp2_with (go_at_call 93; refine HY.out.mono ?_; rintro e w' ⟨rfl, hp1, hk1⟩; have HZ := Lib.hid (HX.out.2.to hgne hk1 hp1); clear hp1 hk1)
      go_roundw
      case rel => exact ⟨j + 1, m, pmark s i1 t, by go_num, by omega, by omega, by omega, by omega, Lib.hid ⟨HX.out.1.2, HZ.out⟩⟩
      case measure => simp [intOf]; omega
end
end Go.Proofs.YtdlkdecigpaaaaaGreatDoor
namespace Go.Proofs.YtdlkdecigpaaaaaGreatDoor
set_option linter.unusedVariables false
set_option linter.unusedSimpArgs false
open Go.RowKit

theorem cells_alloc {W : World} {b : Nat} {f : Nat → Option Value} (h : ∀ j, W.cell? ⟨b, j, none⟩ = f j) (hb : b < W.heap.size) (o : Obj) : ∀ j, (W.alloc o).drew.cell? ⟨b, j, none⟩ = f j := fun j => by
  have e : (W.alloc o).heap[b]? = W.heap[b]? := Below.heap_alloc W o b hb
  rw [← h j]; show (W.alloc o).cell? _ = _; simp only [World.cell?, e]
theorem cell_alloc {W : World} {b j : Nat} {v : Value} (h : W.cell? ⟨b, j, none⟩ = some v) (hb : b < W.heap.size) (o : Obj) : (W.alloc o).drew.cell? ⟨b, j, none⟩ = some v := by
  have e : (W.alloc o).heap[b]? = W.heap[b]? := Below.heap_alloc W o b hb
  rw [← h]; show (W.alloc o).cell? _ = _; simp only [World.cell?, e]
def Res.bin (op : ByteArray) (T : XT) : Res → Res
  | .ok U p => .ok (binT op T U) p
  | .err p c => .err p c
/-- Two variables bear trees. -/
structure VarXY (s : ByteArray) (r : Res) (pl : Int) (g b c : Nat) (T : XT) (vi vk va : Value) (U : XT) (ui uk ua : Value) (w W : World) : Prop where
  blk : W.heap[b]? = some (.cells (T.nine vi vk va) 52 (0, 0))
  blk2 : W.heap[c]? = some (.cells (U.nine ui uk ua) 52 (0, 0))
  rep : T.Rep W (fun k => w.heap.size < k ∧ k ≠ b) vi vk va
  rep2 : U.Rep W (fun k => w.heap.size < k ∧ k ≠ b) ui uk ua
  keeps : Keeps [g] w W
  box : W.heap[w.heap.size]? = some (.cells zero9 52 (0, 0))
  at_ : At s r pl g U W
section
variable {s : ByteArray} {r r' : Res} {pl pl' : Int} {g b : Nat} {T U : XT} {vi vk va ui uk ua : Value} {w W W' : World}
theorem VarX.go (h : VarX s r pl g b T vi vk va w W) (k : Keeps [g] W W') (hm : At s r' pl' g T W') (hg : g < w.heap.size) (hb : w.heap.size < b) : VarX s r' pl' g b T vi vk va w W' :=
  ⟨k.heap h.blk (by simp; omega), h.rep.keep (kc_keeps k fun k hk => by simp; omega), h.keeps.trans k, k.heap h.box (by simp; omega), hm⟩
theorem VarX.drewN (h : VarX s r pl g b T vi vk va w W) (n : Nat) : VarX s r pl g b T vi vk va w (W.drewN n) := by
  have k : Keeps [] W (W.drewN n) := (Keeps.refl _ _).drewN n
  exact ⟨h.blk, h.rep.keep (kc_drewN n), h.keeps.drewN n, h.box, h.at_.keeps k (by simp)⟩
theorem VarX.drew (h : VarX s r pl g b T vi vk va w W) : VarX s r pl g b T vi vk va w W.drew := by
  have k : Keeps [] W W.drew := (Keeps.refl _ _).drew
  exact ⟨h.blk, h.rep.keep kc_drew, h.keeps.drew, h.box, h.at_.keeps k (by simp)⟩
theorem varxy_new (h : VarX s r pl g b T vi vk va w W) (hg : g < w.heap.size) (hb : w.heap.size < b) (hu : U.Rep W' (W.heap.size ≤ ·) ui uk ua) (k : Keeps [g] W W') (hm : At s r' pl g U W') :
    VarXY s r' pl g b W'.heap.size T vi vk va U ui uk ua w (W'.alloc (.cells (U.nine ui uk ua) 52)) := by
  have ka : Keeps [] W' (W'.alloc (.cells (U.nine ui uk ua) 52)) := (Keeps.refl _ _).alloc _
  have hbl := hk_lt h.blk
  have hbx := hk_lt h.box
  have hsz := k.size
  exact ⟨ka.heap (k.heap h.blk (by simp; omega)) (by simp), new_blk _ _, (h.rep.keep (kc_keeps k fun k hk => by simp; omega)).keep (kc_keeps ka fun k _ => by simp),
    (hu.mono (fun k hk => ⟨by omega, by omega⟩)).keep (kc_keeps ka fun k _ => by simp), (h.keeps.trans k).step ka (fun k h1 h2 => by simp at h1), ka.heap (k.heap h.box (by simp; omega)) (by simp), hm.keeps ka (by simp)⟩
theorem At.bin {op : ByteArray} {p : Int} (h : At s r pl g U W) (T : XT) : At s (r.bin op T) pl g (binT op T U) W := by
  cases r with
  | ok V q => exact ⟨by rw [h.1], h.2⟩
  | err q c => exact h
theorem VarXY.bin {c : Nat} (h : VarXY s r pl g b c T vi vk va U ui uk ua w W) (op : ByteArray) (hg : g < w.heap.size) (hb : w.heap.size < b) :
    VarX s (r.bin op T) pl g b (binT op T U) (.slice none 0 0) (.slice none 0 0) (.slice (some ⟨W.heap.size, 0, none⟩) 2 2) w
      ((sets9 W b (.string op) (.string eS) (.int .i64 0) (.bool false) (.int .i64 0) (.string eS) (.slice none 0 0) (.slice none 0 0) (.slice (some ⟨W.heap.size, 0, none⟩) 2 2)).alloc (.cells (T.nine vi vk va ++ U.nine ui uk ua) 52)) := by
  have k9 := keeps_sets9 (W.alloc (.cells (T.nine vi vk va ++ U.nine ui uk ua) 52)) b (.string op) (.string eS) (.int .i64 0) (.bool false) (.int .i64 0) (.string eS) (.slice none 0 0) (.slice none 0 0) (.slice (some ⟨W.heap.size, 0, none⟩) 2 2)
  have hbl := hk_lt h.blk
  rw [← sets9_alloc _ hbl]
  have hsz := h.keeps.size
  have ka : Keeps [] W (W.alloc (.cells (T.nine vi vk va ++ U.nine ui uk ua) 52)) := (Keeps.refl _ _).alloc _
  have k8 := (ka.mono (S' := [b]) (by simp)).trans k9
  have hu := bin_rep op eS (S := fun k => w.heap.size < k ∧ k ≠ b) (new_blk W (.cells (T.nine vi vk va ++ U.nine ui uk ua) 52)) ⟨by have := hk_lt h.box; omega, by omega⟩ (h.rep.keep (kc_keeps ka fun k _ => by simp)) (h.rep2.keep (kc_keeps ka fun k _ => by simp))
  refine ⟨blk_sets9 (ka.same h.blk) _ _ _ _ _ _ _ _ _, hu.keep (kc_keeps k9 fun k hk => by simp; exact hk.2), h.keeps.step k8 (fun k h1 h2 => by simp at h1; omega), k8.heap h.box (by simp; omega), (At.bin (p := 0) h.at_ T).keeps k8 (by simp; omega)⟩
end
/-- A chain's state: it is done, with an error or for the rounds are out; or it goes on. -/
def ChSt (s : ByteArray) (n most : Nat) (r : Res) (i : Int) (j : Nat) (r1 : Res) : Prop :=
  (r1 = r ∧ ((∃ p c, r = .err p c ∧ c ≠ 0) ∨ j = most)) ∨ ∃ T p, r1 = .ok T p ∧ Par s (.more n T) p r ∧ i + 2 * j ≤ p ∧ p ≤ s.size ∧ (n = 3 → j = 0)
section
variable {s : ByteArray} {n most : Nat} {r : Res} {i : Int}
theorem par_code {g : G} {p c : Int} (h : Par s g i (.err p c)) : c ≠ 0 := par_pos h
theorem lev_split (hn : lv n) (h : Par s (.lev n) i r) : ∃ r1, Par s (.lev (n + 1)) i r1 ∧ (∀ p c, r1 = .err p c → r = .err p c) ∧ ∀ T p, r1 = .ok T p → Par s (.more n T) p r := by
  unfold lv at hn
  cases h with
  | lev_err _ h => exact ⟨_, h, fun p c e => (by cases e; rfl), fun T p e => (by cases e)⟩
  | lev_ok _ h k => exact ⟨_, h, fun p c e => (by cases e), fun T p e => (by cases e; exact k)⟩
  | not_on => omega
  | not_no => omega
  | neg_on => omega
  | neg_no => omega
theorem chst_first (hn : lv n) (h : Par s (.lev n) i r) (h0 : 0 ≤ i) (h1 : i ≤ s.size) : ∃ r1, Par s (.lev (n + 1)) i r1 ∧ ChSt s n most r i 0 r1 := by
  obtain ⟨r1, k1, k2, k3⟩ := lev_split hn h
  refine ⟨r1, k1, ?_⟩
  cases r1 with
  | err p c => exact .inl ⟨(k2 p c rfl).symm, .inl ⟨p, c, k2 p c rfl, par_code k1⟩⟩
  | ok T p => have hp := par_pos k1 h0 h1; exact .inr ⟨T, p, rfl, k3 T p rfl, by have := hp.2; simp; exact hp.1.1, hp.1.2, fun _ => rfl⟩
theorem more_cases {T : XT} {p : Int} (h : Par s (.more n T) p r) : (betw s p n = none ∧ r = .ok T p) ∨ ∃ op e r2, betw s p n = some (op, e) ∧ Par s (.lev (n + 1)) e r2 ∧
    ((∃ p' c', r2 = .err p' c' ∧ r = .err p' c') ∨ ∃ U p', r2 = .ok U p' ∧ (n = 3 ∧ r = .ok (binT op T U) p' ∨ n ≠ 3 ∧ Par s (.more n (binT op T U)) p' r)) := by
  cases h with
  | more_end h => exact .inl ⟨h, rfl⟩
  | more_err h k => exact .inr ⟨_, _, _, h, k, .inl ⟨_, _, rfl, rfl⟩⟩
  | more_one h k => exact .inr ⟨_, _, _, h, k, .inr ⟨_, _, rfl, .inl ⟨rfl, rfl⟩⟩⟩
  | more_on h1 h k l => exact .inr ⟨_, _, _, h, k, .inr ⟨_, _, rfl, .inr ⟨h1, l⟩⟩⟩
theorem chst_step {T : XT} {p e : Int} {op : ByteArray} {r2 : Res} {j : Nat} (hmost : n = 3 ∧ most = 1 ∨ n ≠ 3 ∧ 2048 ≤ most) (h0 : 0 ≤ i) (hj : i + 2 * j ≤ p) (hp : p ≤ s.size) (h3 : n = 3 → j = 0) (hb : betw s p n = some (op, e)) (hr : Par s (.lev (n + 1)) e r2)
    (h : (∃ p' c', r2 = .err p' c' ∧ r = .err p' c') ∨ ∃ U p', r2 = .ok U p' ∧ (n = 3 ∧ r = .ok (binT op T U) p' ∨ n ≠ 3 ∧ Par s (.more n (binT op T U)) p' r)) : ChSt s n most r i (j + 1) (r2.bin op T) := by
  have hbp := betw_pos (by omega) hb
  rcases h with ⟨p', c', rfl, rfl⟩ | ⟨U, p', rfl, ⟨rfl, rfl⟩ | ⟨hn, h⟩⟩
  · exact .inl ⟨rfl, .inl ⟨_, _, rfl, par_code hr⟩⟩
  · exact .inl ⟨rfl, .inr (by have := h3 rfl; omega)⟩
  · have h5 := par_pos hr (by omega) hbp.2
    exact .inr ⟨_, _, rfl, h, by have := h5.2; have h6 : e < p' := h5.2; omega, h5.1.2, fun h => absurd h hn⟩
end
end Go.Proofs.YtdlkdecigpaaaaaGreatDoor
namespace Go.Proofs.YtdlkdecigpaaaaaGreatDoor
set_option linter.unusedVariables false
set_option linter.unusedSimpArgs false
open Go.RowKit

section
variable (s : ByteArray) (i pl : Int) (g n most : Nat) (w : World) (r : Res) (S : Nat → Prop) (vL : Value)
set_option maxRecDepth 20000 in
set_option maxHeartbeats 1000000 in
theorem echain_of (K : Nat) (eg : ∀ args w, (callFunc K args).run Tryz.prog w = .ok (.enter K args) w) (hn : lv n) (hmost : n = 3 ∧ most = 1 ∨ n ≠ 3 ∧ 2048 ≤ most) (hmx : most ≤ 1000000) (h : PAt s i pl 0 g w) (h0 : 0 ≤ i) (h1 : i ≤ s.size) (hs : s.size ≤ 4000) (hr : Par s (.lev n) i r)
    (hL : Sl w S 1 vL (signsL n).length ((signsL n).map Value.string)) (hS : ∀ k, S k → k ≠ g)
    (HN : ∀ (i' : Int) (r' : Res) (W : World), i ≤ i' → i' ≤ s.size → Par s (.lev (n + 1)) i' r' → PAt s i' pl 0 g W → Keeps [g] w W → Calls Tryz.prog K #[.pointer (some ⟨g, 0, none⟩)] W (PSays s r' pl g W)) :
    Calls Tryz.prog 73 #[.pointer (some ⟨g, 0, none⟩), .func (.func K) #[] #[], .int .i64 most, vL] w (PSays s r pl g w) := by
  have hglt := hk_lt h
  have hB := Lib.hid (box_new h)
  have hgne : w.heap.size ≠ g := by omega
  have hLn : (signsL n).length ≤ 10 := by rcases hn with rfl | rfl | rfl | rfl | rfl <;> decide
  obtain ⟨aL, cL, rfl, _, _⟩ := hL.shape
  obtain ⟨r0, hr0, hst⟩ := chst_first (most := most) hn hr h0 h1
  have HL := Lib.hid (fun (W : World) (k : Keeps [g] w W) => hL.keep (kc_keeps k fun k hk => by simpa using hS k hk))
  have HF := Lib.hid (HN i r0 _ (Int.le_refl _) h1 hr0 hB.out.1 hB.out.2.1)
  have HNX := Lib.hid HN
  have HST := Lib.hid hst
  have HN0 := Lib.hid hn
  clear h hL hS HN hr0 hst hr hn
  go_enter Tryz.func73, Tryz.ntmps73
  go_wp2_with fail
  refine HF.out.mono ?_
  rintro e1 w2 hx
  obtain ⟨T, vi, vk, va, rfl, hrep, hk1, hm1⟩ := psays_at hx
  obtain ⟨a1, c1, a2, c2, a3, c3, rfl, rfl, rfl⟩ := xrep_shape hrep
  have HV := Lib.hid (varx_new (w := w) hB.out.2.2 hB.out.2.1 hglt hrep hk1 hm1)
  have hwz : w.heap.size < w2.heap.size := Nat.lt_of_lt_of_le (hk_lt hB.out.2.2) hk1.size
  clear hx hrep hk1 hm1 HF
  go_wp2_with fail
  refine abs_world (F := fun W => VarX s r0 pl g w2.heap.size T (.slice a1 T.lit.its.length c1) (.slice a2 T.lit.ks.length c2) (.slice a3 T.args.length c3) w W) HV.out (fun W3 HW3 => ?_)
  have HV3 := Lib.hid HW3
  clear HW3 HV
  go_loopw [16] (fun v W => ∃ (j : Nat) (r1 : Res) (T' : XT) (vi vk va : Value), v = .int .i64 j ∧ j ≤ most ∧ Hid (ChSt s n most r i j r1 ∧ VarX s r1 pl g w2.heap.size T' vi vk va w W)) (fun v _ => most - (intOf v).toNat)
  case atStart => exact ⟨0, r0, T, _, _, _, rfl, Nat.zero_le _, Lib.hid ⟨HST.out, HV3.out⟩⟩
  case round =>
    obtain ⟨j, r1, T', vi, vk, va, rfl, hj, HQ⟩ := hrel
    obtain ⟨b1, d1, b2, d2, b3, d3, rfl, rfl, rfl⟩ := xrep_shape HQ.out.2.rep
    have gb3 := cell_blk HQ.out.2.blk
    have gbf3 := frozen_blk HQ.out.2.blk
    have gb4 := cell_blk HQ.out.2.box
    have gbf4 := frozen_blk HQ.out.2.box
    have hl3 := hk_lt HQ.out.2.blk
    have hl4 := hk_lt HQ.out.2.box
    have HLr := Lib.hid (HL.out _ HQ.out.2.keeps)
    by_cases hlt : j < most
    · rcases HQ.out.1 with ⟨rfl, he⟩ | ⟨T0, p, rfl, hpar, hjp, hp, h3⟩
      · -- it is done
        obtain ⟨p, c, rfl, hc⟩ := he.resolve_right (by omega)
        obtain ⟨a, ha0, ha1, hpa⟩ : ∃ a : Int, 0 ≤ a ∧ a ≤ s.size ∧ PAt s a p c g wr := HQ.out.2.at_
        have HI := Lib.hid (index_fail s (signsL n) _ S a p c g wr HLr.out hpa ha0 (by omega) hc hLn)
        have HE := Lib.hid (HQ.out.2.ret hglt)
        clear hpa he
        go_wp2_with (go_at_call 92; refine HI.out.mono ?_; rintro e w' ⟨rfl, rfl⟩)
        refine abs_post (F := fun W => ToldX s (.err p c) pl g w.heap.size T' (.slice b1 T'.lit.its.length d1) (.slice b2 T'.lit.ks.length d2) (.slice b3 T'.args.length d3) w W) HE.out (fun W hW => ?_)
        have cr := cell_blk hW.blk
        exact bodyPost_ret (v := T'.agg (.slice b1 T'.lit.its.length d1) (.slice b2 T'.lit.ks.length d2) (.slice b3 T'.args.length d3)) (by simp [results, Tryz.results73, go_sem, cr]) rfl (at_psays rfl hW.rep hW.keeps hW.at_)
      · have hat : T' = T0 ∧ PAt s p pl 0 g wr := HQ.out.2.at_
        obtain ⟨rfl, hpa⟩ := hat
        have hip : i ≤ p := by omega
        rcases more_cases hpar with ⟨hb, hre⟩ | ⟨op, e, r2, hb, hr2, hst2⟩
        · have HI := Lib.hid (index_none s (signsL n) _ S p pl g wr HLr.out hpa (by omega) hp (by omega) hLn (fun t ht => (signs_size ht).1) (betw_none HN0.out (by omega) hb))
          have HE := Lib.hid (fun m => (HQ.out.2.drewN m).ret hglt)
          have HRE := Lib.hid hre
          clear hpa hpar hre hb h3
          go_wp2_with (go_at_call 92; refine HI.out.mono ?_; rintro e w' ⟨rfl, m, rfl⟩)
          refine abs_post (F := fun W => ToldX s (.ok T' p) pl g w.heap.size T' (.slice b1 T'.lit.its.length d1) (.slice b2 T'.lit.ks.length d2) (.slice b3 T'.args.length d3) w W) (HE.out _) (fun W hW => ?_)
          have cr := cell_blk hW.blk
          exact bodyPost_ret (v := T'.agg (.slice b1 T'.lit.its.length d1) (.slice b2 T'.lit.ks.length d2) (.slice b3 T'.args.length d3)) (by simp [results, Tryz.results73, go_sem, cr]) rfl (HRE.out ▸ at_psays rfl hW.rep hW.keeps hW.at_)
        · obtain ⟨q, hq, hop, hbef, hate, he0⟩ := betw_some HN0.out (by omega) hb
          have hbp := betw_pos (by omega : 0 ≤ p) hb
          have hI := index_some s (signsL n) _ S p pl g wr q hq HLr.out hpa (by omega) hp (by omega) hLn (fun t ht => ⟨(signs_size ht).1, by have := (signs_size ht).2; omega⟩) hbef (by rw [hate]; exact he0)
          rw [hate] at hI
          have HI := Lib.hid hI
          have HS2 := Lib.hid (chst_step hmost h0 hjp hp h3 hb hr2 hst2)
          have HR2 := Lib.hid hr2
          have HOP : Hid ((signsL n)[q] = op) := Lib.hid hop
          have he1 : e ≤ s.size := hbp.2
          have hie : i ≤ e := by omega
          clear hI hop hbef hate hb hr2 hst2 hpar hpa h3 hbp gb3 gbf3 gb4 gbf4 hl3 hl4
          go_wp2_with (go_at_call 92; refine HI.out.mono ?_; rintro e' w3 ⟨rfl, hp3, hk3⟩; have H3 := Lib.hid (And.intro hp3 hk3); clear hp3 hk3)
          have HVe := Lib.hid (HQ.out.2.go H3.out.2 (show At s (.ok T' e) pl g T' w3 from ⟨rfl, H3.out.1⟩) hglt hwz)
          refine (HNX.out e r2 w3 hie he1 HR2.out H3.out.1 HVe.out.keeps).mono ?_
          rintro e2 w4 hx
          obtain ⟨U, ui, uk, ua, rfl, hrep, hk4, hm4⟩ := psays_at hx
          obtain ⟨x1, y1, x2, y2, x3, y3, rfl, rfl, rfl⟩ := xrep_shape hrep
          have HXY := Lib.hid (varxy_new HVe.out hglt hwz hrep hk4 hm4)
          have hw4 : w2.heap.size < w4.heap.size := Nat.lt_of_lt_of_le (hk_lt HVe.out.blk) hk4.size
          clear hx hrep hk4 hm4
          go_wp2_with fail
          refine abs_world (F := fun W => VarXY s r2 pl g w2.heap.size w4.heap.size T' (.slice b1 T'.lit.its.length d1) (.slice b2 T'.lit.ks.length d2) (.slice b3 T'.args.length d3) U (.slice x1 U.lit.its.length y1) (.slice x2 U.lit.ks.length y2) (.slice x3 U.args.length y3) w W) HXY.out (fun W5 HW5 => ?_)
          have H5 := Lib.hid HW5
          clear HW5 HXY
          have gx := cell_blk H5.out.blk
          have gfx := frozen_blk H5.out.blk
          have gy := cell_blk H5.out.blk2
          have hlx := hk_lt H5.out.blk
          have hly := hk_lt H5.out.blk2
          obtain ⟨g', o', c', hv, _, _, hgl, hcells⟩ := (HL.out _ H5.out.keeps).at (by omega)
          cases hv
          have y0 := hcells q (.string op) (by rw [List.getElem?_map, List.getElem?_eq_getElem hq, HOP.out]; rfl)
          clear hcells
          have HB5 := Lib.hid (H5.out.bin op hglt hwz)
          go_region_law (fail)
          all_goals
            clear gx gfx gy hlx hly y0
            refine ‹∀ (a : Act) (w : World), _ → _› _ _ ?_
            go_wp2_with fail
            go_roundw
            case rel => exact ⟨j + 1, r2.bin op T', binT op T' U, _, _, _, by go_num, by omega, Lib.hid ⟨HS2.out, HB5.out.drew⟩⟩
            case measure => simp [intOf]; omega
    · rcases HQ.out.1 with ⟨rfl, he⟩ | ⟨T0, p, rfl, hpar, hjp, hp, h3⟩
      · have HE := Lib.hid (HQ.out.2.ret hglt)
        obtain rfl : j = most := by omega
        clear he
        go_wp2_with fail
        refine abs_post (F := fun W => ToldX s r1 pl g w.heap.size T' (.slice b1 T'.lit.its.length d1) (.slice b2 T'.lit.ks.length d2) (.slice b3 T'.args.length d3) w W) HE.out (fun W hW => ?_)
        have cr := cell_blk hW.blk
        exact bodyPost_ret (v := T'.agg (.slice b1 T'.lit.its.length d1) (.slice b2 T'.lit.ks.length d2) (.slice b3 T'.args.length d3)) (by simp [results, Tryz.results73, go_sem, cr]) rfl (at_psays rfl hW.rep hW.keeps hW.at_)
      · exfalso
        rcases hmost with ⟨rfl, rfl⟩ | ⟨h4, h5⟩
        · have := h3 rfl; omega
        · omega
end
end Go.Proofs.YtdlkdecigpaaaaaGreatDoor
