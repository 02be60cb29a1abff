/- Put together: What the document's parser answers: a tree, a place, a kind, as a value of eleven cells; The document's parser: what is wrong; a literal; a sign ahead; The document's parser: an int; The document's parser: the levels; The document's parser: a level, part by part. -/
import Derived.Test.YtdlkdecigpaaaaaGreatDoorMp31
import Derived.Test.YtdlkdecigpaaaaaGreatDoorMp28
import Derived.Test.YtdlkdecigpaaaaaGreatDoorMp13
import Derived.Test.YtdlkdecigpaaaaaGreatDoorMp30
namespace Go.Proofs.YtdlkdecigpaaaaaGreatDoor
set_option linter.unusedVariables false
set_option linter.unusedSimpArgs false
open Go.RowKit

abbrev zero11 : Array Value := #[.string eS, .string eS, .int .i64 0, .bool false, .int .i64 0, .string eS, .slice none 0 0, .slice none 0 0, .slice none 0 0, .int .i64 0, .int .i64 0]
abbrev XT.elf (T : XT) (vi vk va : Value) (p c : Int) : Array Value := #[.string T.op, .string T.nm, .int .i64 T.lit.k, .bool T.lit.b, .int .i64 T.lit.n, .string T.lit.s, vi, vk, va, .int .i64 p, .int .i64 c]
/-- What an answer's cells say. -/
def RAt : Res → XT → Int → Int → Prop
  | .ok U q, T, p, c => T = U ∧ p = q ∧ c = 0
  | .err q d, T, p, c => T = XT.zero ∧ p = q ∧ c = d
def RSays (r : Res) (w : World) (e : Ending) (w' : World) : Prop :=
  ∃ (T : XT) (vi vk va : Value) (p c : Int), e = .returned (.agg (T.elf vi vk va p c)) ∧ T.Rep w' (w.heap.size ≤ ·) vi vk va ∧ Keeps [] w w' ∧ RAt r T p c
abbrev sets11 (W : World) (b : Nat) (v0 v1 v2 v3 v4 v5 v6 v7 v8 v9 v10 : Value) : World :=
  ((sets9 W b v0 v1 v2 v3 v4 v5 v6 v7 v8).setCell ⟨b, 9, none⟩ v9).setCell ⟨b, 10, none⟩ v10
theorem blk_sets11 {W : World} {b : Nat} {t : TypeId} {c0 c1 c2 c3 c4 c5 c6 c7 c8 c9 c10 : Value} (h : W.heap[b]? = some (.cells #[c0, c1, c2, c3, c4, c5, c6, c7, c8, c9, c10] t (0, 0))) (v0 v1 v2 v3 v4 v5 v6 v7 v8 v9 v10 : Value) :
    (sets11 W b v0 v1 v2 v3 v4 v5 v6 v7 v8 v9 v10).heap[b]? = some (.cells #[v0, v1, v2, v3, v4, v5, v6, v7, v8, v9, v10] t (0, 0)) := by
  have h0 := set_to (cs' := #[v0, c1, c2, c3, c4, c5, c6, c7, c8, c9, c10]) h 0 v0 rfl
  have h1 := set_to (cs' := #[v0, v1, c2, c3, c4, c5, c6, c7, c8, c9, c10]) h0 1 v1 rfl
  have h2 := set_to (cs' := #[v0, v1, v2, c3, c4, c5, c6, c7, c8, c9, c10]) h1 2 v2 rfl
  have h3 := set_to (cs' := #[v0, v1, v2, v3, c4, c5, c6, c7, c8, c9, c10]) h2 3 v3 rfl
  have h4 := set_to (cs' := #[v0, v1, v2, v3, v4, c5, c6, c7, c8, c9, c10]) h3 4 v4 rfl
  have h5 := set_to (cs' := #[v0, v1, v2, v3, v4, v5, c6, c7, c8, c9, c10]) h4 5 v5 rfl
  have h6 := set_to (cs' := #[v0, v1, v2, v3, v4, v5, v6, c7, c8, c9, c10]) h5 6 v6 rfl
  have h7 := set_to (cs' := #[v0, v1, v2, v3, v4, v5, v6, v7, c8, c9, c10]) h6 7 v7 rfl
  have h8 := set_to (cs' := #[v0, v1, v2, v3, v4, v5, v6, v7, v8, c9, c10]) h7 8 v8 rfl
  have h9 := set_to (cs' := #[v0, v1, v2, v3, v4, v5, v6, v7, v8, v9, c10]) h8 9 v9 rfl
  exact set_to h9 10 v10 rfl
theorem keeps_sets11 (W : World) (b : Nat) (v0 v1 v2 v3 v4 v5 v6 v7 v8 v9 v10 : Value) : Keeps [b] W (sets11 W b v0 v1 v2 v3 v4 v5 v6 v7 v8 v9 v10) :=
  ((keeps_sets9 W b v0 v1 v2 v3 v4 v5 v6 v7 v8).set (.inl (by simp)) _).set (.inl (by simp)) _
theorem sets11_alloc {W : World} {b : Nat} (o : Obj) (h : b < W.heap.size) (v0 v1 v2 v3 v4 v5 v6 v7 v8 v9 v10 : Value) : sets11 (W.alloc o) b v0 v1 v2 v3 v4 v5 v6 v7 v8 v9 v10 = (sets11 W b v0 v1 v2 v3 v4 v5 v6 v7 v8 v9 v10).alloc o := by
  have e : ∀ (W' : World) (i : Nat) (v : Value), W'.heap.size = W.heap.size → (W'.alloc o).setCell ⟨b, i, none⟩ v = (W'.setCell ⟨b, i, none⟩ v).alloc o := fun W' i v h' => World.setCell_alloc_past o b i v (by rw [h']; exact h)
  unfold sets11
  rw [sets9_alloc o h, e _ 9 v9 (by simp only [World.size_setCell]), e _ 10 v10 (by simp only [World.size_setCell])]
/-- Block b bears an answer, its parts lie in other new blocks; the result's block is as it was made. -/
structure VarR (r : Res) (b : Nat) (T : XT) (vi vk va : Value) (p c : Int) (w W : World) : Prop where
  blk : W.heap[b]? = some (.cells (T.elf vi vk va p c) 81 (0, 0))
  rep : T.Rep W (fun k => w.heap.size < k ∧ k ≠ b) vi vk va
  keeps : Keeps [] w W
  box : W.heap[w.heap.size]? = some (.cells zero11 81 (0, 0))
  at_ : RAt r T p c
/-- What stands at the end of a walk that answers. -/
structure ToldR (r : Res) (b : Nat) (T : XT) (vi vk va : Value) (p c : Int) (w W : World) : Prop where
  blk : W.heap[b]? = some (.cells (T.elf vi vk va p c) 81 (0, 0))
  rep : T.Rep W (w.heap.size ≤ ·) vi vk va
  keeps : Keeps [] w W
  at_ : RAt r T p c
/-- The result's block, as it was made. -/
structure BoxR (w W : World) : Prop where
  box : W.heap[w.heap.size]? = some (.cells zero11 81 (0, 0))
  keeps : Keeps [] w W
theorem boxr_new (w : World) : BoxR w (w.alloc (.cells zero11 81)) := ⟨new_blk _ _, (Keeps.refl _ _).alloc _⟩
section
variable {r r2 : Res} {b : Nat} {T U : XT} {vi vk va ui uk ua : Value} {p c p2 c2 : Int} {w W W5 : World} {e : Ending}
theorem BoxR.go (h : BoxR w W) (k : Keeps [] W W5) : BoxR w W5 := ⟨k.same h.box, h.keeps.trans k⟩
theorem rsays_at (h : RSays r w e W) : ∃ (T : XT) (vi vk va : Value) (p c : Int), e = .returned (.agg (T.elf vi vk va p c)) ∧ T.Rep W (w.heap.size ≤ ·) vi vk va ∧ Keeps [] w W ∧ RAt r T p c := h
theorem at_rsays (h0 : e = .returned (.agg (T.elf vi vk va p c))) (h : ToldR r b T vi vk va p c w W) : RSays r w e W := ⟨T, vi, vk, va, p, c, h0, h.rep, h.keeps, h.at_⟩
theorem zero_elf (p c : Int) : XT.zero.elf (.slice none 0 0) (.slice none 0 0) (.slice none 0 0) p c = #[.string eS, .string eS, .int .i64 0, .bool false, .int .i64 0, .string eS, .slice none 0 0, .slice none 0 0, .slice none 0 0, .int .i64 p, .int .i64 c] := rfl
/-- An answer of whatever call is the result. -/
theorem BoxR.told (h : BoxR w W) (hr : T.Rep W5 (W.heap.size ≤ ·) vi vk va) (hk : Keeps [] W W5) (ha : RAt r T p c) :
    ToldR r w.heap.size T vi vk va p c w (sets11 W5 w.heap.size (.string T.op) (.string T.nm) (.int .i64 T.lit.k) (.bool T.lit.b) (.int .i64 T.lit.n) (.string T.lit.s) vi vk va (.int .i64 p) (.int .i64 c)) := by
  have k := keeps_sets11 W5 w.heap.size (.string T.op) (.string T.nm) (.int .i64 T.lit.k) (.bool T.lit.b) (.int .i64 T.lit.n) (.string T.lit.s) vi vk va (.int .i64 p) (.int .i64 c)
  have h2 := h.go hk
  have hb := hk_lt h.box
  exact ⟨blk_sets11 h2.box _ _ _ _ _ _ _ _ _ _ _, (hr.keep (kc_keeps k fun x hx => by simp; omega)).mono (fun x hx => by omega), h2.keeps.step k (fun x h1 h3 => by simp at h1; omega), ha⟩
/-- A tree without parts is the result. -/
theorem BoxR.leaf (h : BoxR w W) (op nm : ByteArray) (k : Int) (b0 : Bool) (n : Int) (t : ByteArray) (ha : RAt r (.mk op nm (.mk k b0 n t [] []) []) p c) :
    ToldR r w.heap.size (.mk op nm (.mk k b0 n t [] []) []) (.slice none 0 0) (.slice none 0 0) (.slice none 0 0) p c w (sets11 W w.heap.size (.string op) (.string nm) (.int .i64 k) (.bool b0) (.int .i64 n) (.string t) (.slice none 0 0) (.slice none 0 0) (.slice none 0 0) (.int .i64 p) (.int .i64 c)) :=
  h.told (leaf_xrep _ _ _ _ _ _ _ _) (Keeps.refl _ _) ha
theorem VarR.ret (h : VarR r b T vi vk va p c w W) :
    ToldR r w.heap.size T vi vk va p c w (sets11 W w.heap.size (.string T.op) (.string T.nm) (.int .i64 T.lit.k) (.bool T.lit.b) (.int .i64 T.lit.n) (.string T.lit.s) vi vk va (.int .i64 p) (.int .i64 c)) := by
  have k := keeps_sets11 W w.heap.size (.string T.op) (.string T.nm) (.int .i64 T.lit.k) (.bool T.lit.b) (.int .i64 T.lit.n) (.string T.lit.s) vi vk va (.int .i64 p) (.int .i64 c)
  exact ⟨blk_sets11 h.box _ _ _ _ _ _ _ _ _ _ _, (h.rep.keep (kc_keeps k fun x hx => by simp; omega)).mono (fun x hx => by omega), h.keeps.step k (fun x h1 h3 => by simp at h1; omega), h.at_⟩
theorem VarR.go (h : VarR r b T vi vk va p c w W) (k : Keeps [] W W5) : VarR r b T vi vk va p c w W5 :=
  ⟨k.same h.blk, h.rep.keep (kc_keeps k fun x _ => by simp), h.keeps.trans k, k.same h.box, h.at_⟩
/-- A variable that is laid behind a call. -/
theorem BoxR.var (h : BoxR w W) (hr : T.Rep W5 (W.heap.size ≤ ·) vi vk va) (hk : Keeps [] W W5) (ha : RAt r T p c) :
    VarR r W5.heap.size T vi vk va p c w (W5.alloc (.cells (T.elf vi vk va p c) 81)) := by
  have ka : Keeps [] W5 (W5.alloc (.cells (T.elf vi vk va p c) 81)) := (Keeps.refl _ _).alloc _
  have h2 := (h.go hk).go ka
  have hb := hk_lt h.box
  exact ⟨new_blk _ _, (hr.into (S' := fun k => w.heap.size < k ∧ k ≠ W5.heap.size) (fun k x t fr h1 h2 => ⟨by omega, by have := hk_lt h2; omega⟩)).keep (kc_keeps ka fun k _ => by simp), h2.keeps, h2.box, ha⟩
end
/-- Two blocks bear answers. -/
structure VarRY (r r2 : Res) (b y : Nat) (T : XT) (vi vk va : Value) (p c : Int) (U : XT) (ui uk ua : Value) (p2 c2 : Int) (w W : World) : Prop extends VarR r b T vi vk va p c w W where
  blk2 : W.heap[y]? = some (.cells (U.elf ui uk ua p2 c2) 81 (0, 0))
  rep2 : U.Rep W (fun k => w.heap.size < k ∧ k ≠ b ∧ k ≠ y) ui uk ua
  at2 : RAt r2 U p2 c2
section
variable {r r2 : Res} {b y : Nat} {T U : XT} {vi vk va ui uk ua : Value} {p c p2 c2 : Int} {w W W5 : World}
theorem VarR.yv (h : VarR r b T vi vk va p c w W) (hu : U.Rep W5 (W.heap.size ≤ ·) ui uk ua) (hk : Keeps [] W W5) (ha : RAt r2 U p2 c2) :
    VarRY r r2 b W5.heap.size T vi vk va p c U ui uk ua p2 c2 w (W5.alloc (.cells (U.elf ui uk ua p2 c2) 81)) := by
  have ka : Keeps [] W5 (W5.alloc (.cells (U.elf ui uk ua p2 c2) 81)) := (Keeps.refl _ _).alloc _
  have hb := hk_lt h.blk
  have hx := hk_lt h.box
  exact ⟨(h.go hk).go ka, new_blk _ _, (hu.into (S' := fun k => w.heap.size < k ∧ k ≠ b ∧ k ≠ W5.heap.size) (fun k x t fr h1 h2 => ⟨by omega, by omega, by have := hk_lt h2; omega⟩)).keep (kc_keeps ka fun k _ => by simp), ha⟩
theorem VarRY.ret (h : VarRY r r2 b y T vi vk va p c U ui uk ua p2 c2 w W) :
    ToldR r2 w.heap.size U ui uk ua p2 c2 w (sets11 W w.heap.size (.string U.op) (.string U.nm) (.int .i64 U.lit.k) (.bool U.lit.b) (.int .i64 U.lit.n) (.string U.lit.s) ui uk ua (.int .i64 p2) (.int .i64 c2)) := by
  have k := keeps_sets11 W w.heap.size (.string U.op) (.string U.nm) (.int .i64 U.lit.k) (.bool U.lit.b) (.int .i64 U.lit.n) (.string U.lit.s) ui uk ua (.int .i64 p2) (.int .i64 c2)
  exact ⟨blk_sets11 h.box _ _ _ _ _ _ _ _ _ _ _, (h.rep2.keep (kc_keeps k fun x hx => by simp; omega)).mono (fun x hx => by omega), h.keeps.step k (fun x h1 h3 => by simp at h1; omega), h.at2⟩
theorem VarRY.go (h : VarRY r r2 b y T vi vk va p c U ui uk ua p2 c2 w W) (k : Keeps [] W W5) : VarRY r r2 b y T vi vk va p c U ui uk ua p2 c2 w W5 :=
  ⟨h.toVarR.go k, k.same h.blk2, h.rep2.keep (kc_keeps k fun x _ => by simp), h.at2⟩
end
/-- An answer of one part, or of two, laid into the variable; the parts lie in block m. -/
theorem varr_set {r : Res} {b : Nat} {op nm : ByteArray} {l : List XT} {va : Value} {p c : Int} {cs : Array Value} {w W : World} (hblk : W.heap[b]? = some (.cells cs 81 (0, 0))) (hcs : cs.size = 11) (hb : w.heap.size < b) (hk : Keeps [] w W)
    (hbox : W.heap[w.heap.size]? = some (.cells zero11 81 (0, 0))) (hr : (XT.mk op nm VT.zero l).Rep W (fun k => w.heap.size < k ∧ k ≠ b) (.slice none 0 0) (.slice none 0 0) va) (hat : RAt r (.mk op nm VT.zero l) p c) :
    VarR r b (.mk op nm VT.zero l) (.slice none 0 0) (.slice none 0 0) va p c w (sets11 W b (.string op) (.string nm) (.int .i64 0) (.bool false) (.int .i64 0) (.string eS) (.slice none 0 0) (.slice none 0 0) va (.int .i64 p) (.int .i64 c)) := by
  have k := keeps_sets11 W b (.string op) (.string nm) (.int .i64 0) (.bool false) (.int .i64 0) (.string eS) (.slice none 0 0) (.slice none 0 0) va (.int .i64 p) (.int .i64 c)
  obtain ⟨L⟩ := cs
  obtain ⟨x0, x1, x2, x3, x4, x5, x6, x7, x8, x9, x10, rfl⟩ : ∃ x0 x1 x2 x3 x4 x5 x6 x7 x8 x9 x10, L = [x0, x1, x2, x3, x4, x5, x6, x7, x8, x9, x10] := by
    simp only [List.size_toArray] at hcs
    match L, hcs with
    | [_, _, _, _, _, _, _, _, _, _, _], _ => exact ⟨_, _, _, _, _, _, _, _, _, _, _, rfl⟩
  exact ⟨blk_sets11 hblk _ _ _ _ _ _ _ _ _ _ _, hr.keep (kc_keeps k fun x hx => by simp; exact hx.2), hk.step k (fun x h1 h2 => by simp at h1; omega), k.heap hbox (by simp; omega), hat⟩
end Go.Proofs.YtdlkdecigpaaaaaGreatDoor
namespace Go.Proofs.YtdlkdecigpaaaaaGreatDoor
set_option linter.unusedVariables false
set_option linter.unusedSimpArgs false
open Go.RowKit

/-- A result that is a leaf, laid as it is made. -/
theorem toldr_new {r : Res} {p c : Int} (op nm : ByteArray) (k : Int) (b0 : Bool) (n : Int) (t : ByteArray) (w : World) (ha : RAt r (.mk op nm (.mk k b0 n t [] []) []) p c) :
    ToldR r w.heap.size (.mk op nm (.mk k b0 n t [] []) []) (.slice none 0 0) (.slice none 0 0) (.slice none 0 0) p c w (w.alloc (.cells #[.string op, .string nm, .int .i64 k, .bool b0, .int .i64 n, .string t, .slice none 0 0, .slice none 0 0, .slice none 0 0, .int .i64 p, .int .i64 c] 81)) :=
  ⟨new_blk _ _, leaf_xrep _ _ _ _ _ _ _ _, (Keeps.refl _ _).alloc _, ha⟩
set_option maxRecDepth 20000 in
set_option maxHeartbeats 1000000 in
theorem rwrong_any (p c : Int) (w : World) : Calls Tryz.prog 60 #[.int .i64 p, .int .i64 c] w (RSays (.err p c) w) := by
  have hE := Lib.hid (toldr_new (r := .err p c) eS eS 0 false 0 eS w ⟨rfl, rfl, rfl⟩)
  go_enter Tryz.func60, Tryz.ntmps60
  go_wp2
  refine abs_post (F := fun W => ToldR (.err p c) w.heap.size XT.zero (.slice none 0 0) (.slice none 0 0) (.slice none 0 0) p c w W) hE.out (fun W hW => ?_)
  have cr := cell_blk hW.blk
  exact bodyPost_ret (v := .agg (XT.zero.elf (.slice none 0 0) (.slice none 0 0) (.slice none 0 0) p c)) (by simp [results, Tryz.results60, go_sem, cr]) rfl (at_rsays rfl hW)
theorem rsays_back {r : Res} {w w0 W : World} {e : Ending} (h : RSays r w0 e W) (k : Keeps [] w w0) : RSays r w e W := by
  obtain ⟨T, vi, vk, va, p, c, h0, h1, h2, h3⟩ := h
  exact ⟨T, vi, vk, va, p, c, h0, h1.mono (fun x hx => Nat.le_trans k.size hx), k.trans h2, h3⟩
set_option maxRecDepth 20000 in
set_option maxHeartbeats 1000000 in
theorem rliteral_any (k : Int) (b : Bool) (n : Int) (t : ByteArray) (p : Int) (w : World) :
    Calls Tryz.prog 121 #[.agg #[.int .i64 k, .bool b, .int .i64 n, .string t, .slice none 0 0, .slice none 0 0], .int .i64 p] w (RSays (.ok (litT (.mk k b n t [] [])) p) w) := by
  have hE := toldr_new (r := .ok (litT (.mk k b n t [] [])) p) (p := p) (c := 0) litS eS k b n t (w.alloc (.cells #[.int .i64 k, .bool b, .int .i64 n, .string t, .slice none 0 0, .slice none 0 0] 27)) ⟨rfl, rfl, rfl⟩
  simp only [World.size_alloc] at hE
  have HE := Lib.hid hE
  clear hE
  go_enter Tryz.func121, Tryz.ntmps121
  go_wp2
  refine abs_post (F := fun W => ToldR (.ok (litT (.mk k b n t [] [])) p) (w.heap.size + 1) (litT (.mk k b n t [] [])) (.slice none 0 0) (.slice none 0 0) (.slice none 0 0) p 0 (w.alloc (.cells #[.int .i64 k, .bool b, .int .i64 n, .string t, .slice none 0 0, .slice none 0 0] 27)) W) HE.out (fun W hW => ?_)
  have cr := cell_blk hW.blk
  exact bodyPost_ret (v := .agg ((litT (.mk k b n t [] [])).elf (.slice none 0 0) (.slice none 0 0) (.slice none 0 0) p 0)) (by simp [results, Tryz.results121, go_sem, cr]) rfl (rsays_back (at_rsays rfl hW) ((Keeps.refl _ _).alloc _))
/-- An answer whose cells lie at a place or behind it. -/
def ASays (r : Res) (B : Nat) (w : World) (e : Ending) (w' : World) : Prop :=
  ∃ (T : XT) (vi vk va : Value) (p c : Int), e = .returned (.agg (T.elf vi vk va p c)) ∧ T.Rep w' (B ≤ ·) vi vk va ∧ Keeps [] w w' ∧ RAt r T p c
theorem asays_at {r : Res} {B : Nat} {w W : World} {e : Ending} (h : ASays r B w e W) : ∃ (T : XT) (vi vk va : Value) (p c : Int), e = .returned (.agg (T.elf vi vk va p c)) ∧ T.Rep W (B ≤ ·) vi vk va ∧ Keeps [] w W ∧ RAt r T p c := h
section
variable {op : ByteArray} {T : XT} {vi vk va : Value} {w : World} {B : Nat} {p c : Int}
theorem ahead_fact (op : ByteArray) (p : Int) (o : Obj) (hr : T.Rep w (B ≤ ·) vi vk va) (hB : B ≤ w.heap.size) :
    (((w.alloc o).alloc (.cells ((unT op T).elf (.slice none 0 0) (.slice none 0 0) (.slice (some ⟨w.heap.size + 1 + 1, 0, none⟩) 1 1) p 0) 81)).alloc (.cells (T.nine vi vk va) 30)).heap[w.heap.size + 1]? = some (.cells ((unT op T).elf (.slice none 0 0) (.slice none 0 0) (.slice (some ⟨w.heap.size + 1 + 1, 0, none⟩) 1 1) p 0) 81 (0, 0)) ∧
    (unT op T).Rep (((w.alloc o).alloc (.cells ((unT op T).elf (.slice none 0 0) (.slice none 0 0) (.slice (some ⟨w.heap.size + 1 + 1, 0, none⟩) 1 1) p 0) 81)).alloc (.cells (T.nine vi vk va) 30)) (B ≤ ·) (.slice none 0 0) (.slice none 0 0) (.slice (some ⟨w.heap.size + 1 + 1, 0, none⟩) 1 1) ∧
    Keeps [] w (((w.alloc o).alloc (.cells ((unT op T).elf (.slice none 0 0) (.slice none 0 0) (.slice (some ⟨w.heap.size + 1 + 1, 0, none⟩) 1 1) p 0) 81)).alloc (.cells (T.nine vi vk va) 30)) := by
  have k3 : Keeps [] w (((w.alloc o).alloc (.cells ((unT op T).elf (.slice none 0 0) (.slice none 0 0) (.slice (some ⟨w.heap.size + 1 + 1, 0, none⟩) 1 1) p 0) 81)).alloc (.cells (T.nine vi vk va) 30)) := (((Keeps.refl _ _).alloc _).alloc _).alloc _
  refine ⟨hk_alloc (new_blk1 _ _ _) _, un_rep op eS (new_blk2 _ _ _ _) (show B ≤ _ by omega) (hr.keep (kc_keeps k3 fun x _ => by simp)), k3⟩
theorem pass_fact (p c : Int) (o : Obj) (hr : T.Rep w (B ≤ ·) vi vk va) :
    ((w.alloc o).alloc (.cells (T.elf vi vk va p c) 81)).heap[w.heap.size + 1]? = some (.cells (T.elf vi vk va p c) 81 (0, 0)) ∧
    T.Rep ((w.alloc o).alloc (.cells (T.elf vi vk va p c) 81)) (B ≤ ·) vi vk va ∧ Keeps [] w ((w.alloc o).alloc (.cells (T.elf vi vk va p c) 81)) := by
  have k2 : Keeps [] w ((w.alloc o).alloc (.cells (T.elf vi vk va p c) 81)) := ((Keeps.refl _ _).alloc _).alloc _
  exact ⟨new_blk1 _ _ _, hr.keep (kc_keeps k2 fun x _ => by simp), k2⟩
end
section
variable (op : ByteArray) (T : XT) (a1 a2 a3 : Option Addr) (c1 c2 c3 : Nat) (p c : Int) (w : World) (B : Nat)
set_option maxRecDepth 20000 in
set_option maxHeartbeats 1000000 in
theorem rahead_any (r : Res) (hr : T.Rep w (B ≤ ·) (.slice a1 T.lit.its.length c1) (.slice a2 T.lit.ks.length c2) (.slice a3 T.args.length c3)) (hB : B ≤ w.heap.size) (ha : RAt r T p c) (he : ∀ p c, r = .err p c → c ≠ 0) :
    Calls Tryz.prog 65 #[.string op, .agg (T.elf (.slice a1 T.lit.its.length c1) (.slice a2 T.lit.ks.length c2) (.slice a3 T.args.length c3) p c)] w (ASays (r.up op) B w) := by
  cases r with
  | err q d =>
    have hat : T = XT.zero ∧ p = q ∧ c = d := ha
    obtain ⟨hT, rfl, rfl⟩ := hat
    have hd := he p c rfl
    have e1 : (c == 0) = false := by rw [beq_eq_false_iff_ne]; exact hd
    have HT := Lib.hid hT
    have HA := Lib.hid (pass_fact p c (.cells (T.elf (.slice a1 T.lit.its.length c1) (.slice a2 T.lit.ks.length c2) (.slice a3 T.args.length c3) p c) 81) hr)
    clear hr he ha hT
    go_enter Tryz.func65, Tryz.ntmps65
    go_wp2
    refine abs_post (F := fun W => W.heap[w.heap.size + 1]? = some (.cells (T.elf (.slice a1 T.lit.its.length c1) (.slice a2 T.lit.ks.length c2) (.slice a3 T.args.length c3) p c) 81 (0, 0)) ∧ T.Rep W (B ≤ ·) (.slice a1 T.lit.its.length c1) (.slice a2 T.lit.ks.length c2) (.slice a3 T.args.length c3) ∧ Keeps [] w W) HA.out (fun W hW => ?_)
    have cr := cell_blk hW.1
    exact bodyPost_ret (v := .agg (T.elf (.slice a1 T.lit.its.length c1) (.slice a2 T.lit.ks.length c2) (.slice a3 T.args.length c3) p c)) (by simp [results, Tryz.results65, go_sem, cr]) rfl ⟨_, _, _, _, _, _, rfl, hW.2.1, hW.2.2, HT.out, rfl, rfl⟩
  | ok U q =>
    have hat : T = U ∧ p = q ∧ c = 0 := ha
    obtain ⟨rfl, rfl, rfl⟩ := hat
    have HA := Lib.hid (ahead_fact op p (.cells (T.elf (.slice a1 T.lit.its.length c1) (.slice a2 T.lit.ks.length c2) (.slice a3 T.args.length c3) p 0) 81) hr hB)
    clear hr he ha
    go_enter Tryz.func65, Tryz.ntmps65
    go_wp2
    refine abs_post (F := fun W => W.heap[w.heap.size + 1]? = some (.cells ((unT op T).elf (.slice none 0 0) (.slice none 0 0) (.slice (some ⟨w.heap.size + 1 + 1, 0, none⟩) 1 1) p 0) 81 (0, 0)) ∧ (unT op T).Rep W (B ≤ ·) (.slice none 0 0) (.slice none 0 0) (.slice (some ⟨w.heap.size + 1 + 1, 0, none⟩) 1 1) ∧ Keeps [] w W) HA.out (fun W hW => ?_)
    have cr := cell_blk hW.1
    exact bodyPost_ret (v := .agg ((unT op T).elf (.slice none 0 0) (.slice none 0 0) (.slice (some ⟨w.heap.size + 1 + 1, 0, none⟩) 1 1) p 0)) (by simp [results, Tryz.results65, go_sem, cr]) rfl ⟨_, _, _, _, _, _, rfl, hW.2.1, hW.2.2, rfl, rfl, rfl⟩
end
end Go.Proofs.YtdlkdecigpaaaaaGreatDoor
namespace Go.Proofs.YtdlkdecigpaaaaaGreatDoor
set_option linter.unusedVariables false
set_option linter.unusedSimpArgs false
open Go.RowKit

/-- The reading of a text's number, and its worth: two cells. -/
def RParse (t : ByteArray) (w : World) (e : Ending) (w' : World) : Prop :=
  ∃ b A n c, e = .returned (.tuple #[.agg #[.bool b, .slice A n c], .int .i64 (parseCode t)]) ∧ (parseCode t = 0 → NumV w' (.agg #[.bool b, .slice A n c]) (parseVal t)) ∧ Keeps [] w w'
theorem numv_shape {w : World} {v : Value} {z : Int} (h : NumV w v z) : ∃ b A n c, v = .agg #[.bool b, .slice A n c] := by
  obtain ⟨f, l, rfl, hr, _, _⟩ := h
  obtain ⟨A, cA, rfl⟩ := hr.open
  exact ⟨_, _, _, _, rfl⟩
theorem rparse_any (t : ByteArray) (w : World) (ht : t.size ≤ 5000) : Calls Tryz.prog 127 #[.string t] w (RParse t w) := by
  cases hf : formB t with
  | false =>
    have hc : parseCode t = 1 := by unfold parseCode; rw [hf]; rfl
    refine (parse5_form t w ht hf).mono ?_
    rintro e w' ⟨rfl, hb⟩
    exact ⟨_, _, _, _, (by rw [hc]; rfl), (fun h => by rw [hc] at h; cases h), Keeps.below hb⟩
  | true =>
    have hc : parseCode t = if fitsB (numZ t) then 0 else 4 := by unfold parseCode; rw [hf]; rfl
    refine (parse5_num t w ht hf).mono ?_
    rintro e w' ⟨v, rfl, hv, hb⟩
    rw [← hc]
    by_cases c : fitsB (numZ t) = true
    · rw [if_pos c] at hv
      obtain ⟨b, A, n, cc, rfl⟩ := numv_shape hv
      have hpv : parseVal t = numZ t := by unfold parseVal fitsF; rw [hf, c]; rfl
      exact ⟨_, _, _, _, rfl, fun _ => by rw [hpv]; exact hv, Keeps.below hb⟩
    · rw [if_neg c] at hv
      subst hv
      exact ⟨_, _, _, _, rfl, fun h => (by rw [hc, if_neg c] at h; cases h), Keeps.below hb⟩
theorem numR_eq (s : ByteArray) (q : Int) : numR s q = if bt s q = 48 ∧ q + 1 < digitsEnd s q then .err (q + 1) 1
  else if parseCode (cutS s q (digitsEnd s q)) ≠ 0 then .err q (parseCode (cutS s q (digitsEnd s q)))
  else if goesAt s (digitsEnd s q) = true then .err (digitsEnd s q) 1
  else .ok (litT (nrV (parseVal (cutS s q (digitsEnd s q))))) (digitsEnd s q) := rfl
section
variable (s : ByteArray) (q : Int) (w : World)
set_option maxRecDepth 20000 in
set_option maxHeartbeats 4000000 in
theorem rnumber_any (h0 : 0 ≤ q) (hd : digitAt s q = true) (hs : s.size ≤ 4000) :
    Calls Tryz.prog 120 #[.string s, .int .i64 q] w (RSays (numR s q) w) := by
  have hB := Lib.hid (boxr_new w)
  obtain ⟨hp1, hp2⟩ := digits_pos h0 hd
  have hlt := digitAt_lt hd
  have hbt := bt_at s q
  have hbr := bt_range s q
  have HDG := Lib.hid (fun (k : Int) W (hk : 0 ≤ k) => digit8_any s k W hk)
  have HGO := Lib.hid (fun W => goes_any s (digitsEnd s q) W (by omega))
  have HPA := Lib.hid (fun W => rparse_any (cutS s q (digitsEnd s q)) W (by simp only [ByteArray.size_extract]; omega))
  have HR := Lib.hid (numR_eq s q)
  have HEND : Hid (∀ k : Int, q ≤ k → k ≤ s.size → digitsEnd s k = digitsEnd s q → (k < digitsEnd s q → digitAt s k = true ∧ digitsEnd s (k + 1) = digitsEnd s q) ∧ (k = digitsEnd s q → digitAt s k = false)) := Lib.hid (by
    intro k hk hk1 he
    constructor
    · intro hl
      have hdk : digitAt s k = true := upTo_mem (p := digitAt s) (n := s.size) (i := q) hk hl
      refine ⟨hdk, ?_⟩
      have := digitAt_lt hdk
      rw [← he]
      exact (upTo_step (by omega) hdk this).symm
    · rintro rfl
      exact upTo_end (by omega) fun j hj => digitAt_lt hj)
  have HWR := Lib.hid (fun (p c : Int) W => rwrong_any p c W)
  clear hd
  generalize numR s q = r at *
  generalize hE : digitsEnd s q = e at *
  go_enter Tryz.func120, Tryz.ntmps120
  go_wp2
  go_loop [5] (fun v => ∃ k : Int, v = .int .i64 k ∧ q ≤ k ∧ k ≤ e ∧ Hid (digitsEnd s k = e)) (fun v => e.toNat - (intOf v).toNat)
  case atStart => exact ⟨q, rfl, Int.le_refl _, by omega, Lib.hid hE⟩
  case round =>
    obtain ⟨k, rfl, hk0, hk1, HK⟩ := hrel
    by_cases hl : k < e
    · have HD2 := Lib.hid (fun W => HDG.out k W (by omega))
      rw [((HEND.out k hk0 (by omega) HK.out).1 hl).1] at HD2
      have HK2 := Lib.hid ((HEND.out k hk0 (by omega) HK.out).1 hl).2
      clear HDG HEND hE
      go_wp2_with (go_at_call 103; refine (HD2.out _).mono ?_; rintro e' w' ⟨rfl, rfl⟩)
      go_round
      case rel => exact ⟨k + 1, by go_num, by omega, by omega, HK2⟩
      case measure => simp [intOf]; omega
    · obtain rfl : k = e := by omega
      have HD2 := Lib.hid (fun W => HDG.out k W (by omega))
      rw [(HEND.out k hk0 (by omega) HK.out).2 rfl] at HD2
      clear HDG HEND
      have hbz : bt s q ≤ 255 := hbr.2
      by_cases h1 : bt s q = 48 ∧ q + 1 < k
      · obtain ⟨h48, hql⟩ := h1
        rw [if_pos ⟨h48, hql⟩] at HR
        have hc48 : (bt s q == 48) = true := by rw [h48]; rfl
        have HX := Lib.hid (HWR.out (q + 1) 1)
        obtain rfl : r = .err (q + 1) 1 := HR.out
        go_wp2_with (go_at_call 103; refine (HD2.out _).mono ?_; rintro e' w' ⟨rfl, rfl⟩)
        refine (HX.out _).mono ?_
        rintro e1 w2 hx
        obtain ⟨T, vi, vk, va, p, c, rfl, hrep, hk3, ha⟩ := rsays_at hx
        obtain ⟨a1, c1, a2, c2, a3, c3, rfl, rfl, rfl⟩ := xrep_shape hrep
        have HT := Lib.hid (hB.out.told hrep hk3 ha)
        have HB3 := Lib.hid (hB.out.go hk3)
        have gb := cell_blk HB3.out.box
        have gf := frozen_blk HB3.out.box
        clear hx hrep hk3 ha
        go_wp2_with fail
        refine abs_post (F := fun W => ToldR (.err (q + 1) 1) w.heap.size (T) (.slice a1 T.lit.its.length c1) (.slice a2 T.lit.ks.length c2) (.slice a3 T.args.length c3) (p) (c) w W) (HT.out) (fun W hW => ?_)
        have cr := cell_blk hW.blk
        exact bodyPost_ret (v := .agg ((T : XT).elf (.slice a1 T.lit.its.length c1) (.slice a2 T.lit.ks.length c2) (.slice a3 T.args.length c3) (p) (c))) (by simp [results, Tryz.results120, go_sem, cr]) rfl (at_rsays rfl hW)
      · rw [if_neg h1] at HR
        have hor : ((bt s q == 48) = true ∧ ¬ q + 1 < k) ∨ (bt s q == 48) = false := by
          by_cases c : bt s q = 48
          · exact .inl ⟨by rw [c]; rfl, fun h => h1 ⟨c, h⟩⟩
          · right; rw [beq_eq_false_iff_ne]; exact c
        clear h1
        have hcz : (cutS s q k).size ≤ 4000 := by simp only [ByteArray.size_extract]; omega
        have hqk : q.toNat ≤ k.toNat := by omega
        clear hcz
        by_cases h2 : parseCode (cutS s q k) ≠ 0
        · rw [if_pos h2] at HR
          have hcc : (parseCode (cutS s q k) == 0) = false := by rw [beq_eq_false_iff_ne]; exact h2
          have HX := Lib.hid (HWR.out q (parseCode (cutS s q k)))
          obtain rfl : r = .err q (parseCode (cutS s q k)) := HR.out
          clear h2 HGO
          rcases hor with ⟨hc48, hql⟩ | hc48
          all_goals
            go_upto_region 7 with (first
            | (go_at_call 103; (with_reducible refine (HD2.out _).mono ?_); rintro e' w' ⟨rfl, rfl⟩)
            | (go_at_call 127; (with_reducible refine (HPA.out _).mono ?_); rintro e' w5 ⟨pb, pA, pn, pc, rfl, hnv, hk5⟩; have H5 := Lib.hid (hB.out.go hk5); have HNV := Lib.hid hnv; clear hk5 hnv; have gb5 := cell_blk H5.out.box; have gbf5 := frozen_blk H5.out.box; have hl5 := hk_lt H5.out.box))
            refine abs_world (F := fun W => BoxR w W) (by exact H5.out.go ((Keeps.refl _ _).alloc _)) (fun W6 HW6 => ?_)
            have H6 := Lib.hid HW6
            clear HW6 gb5 gbf5 hl5 H5 HNV
            go_wp2_with fail
            refine (HX.out _).mono ?_
            rintro e1 w2 hx
            obtain ⟨T, vi, vk, va, p, c, rfl, hrep, hk3, ha⟩ := rsays_at hx
            obtain ⟨a1, c1, a2, c2, a3, c3, rfl, rfl, rfl⟩ := xrep_shape hrep
            have HT := Lib.hid (H6.out.told hrep hk3 ha)
            have HB3 := Lib.hid (H6.out.go hk3)
            have gb := cell_blk HB3.out.box
            have gf := frozen_blk HB3.out.box
            clear hx hrep hk3 ha
            go_wp2_with fail
            refine abs_post (F := fun W => ToldR (.err q (parseCode (cutS s q k))) w.heap.size (T) (.slice a1 T.lit.its.length c1) (.slice a2 T.lit.ks.length c2) (.slice a3 T.args.length c3) (p) (c) w W) (HT.out) (fun W hW => ?_)
            have cr := cell_blk hW.blk
            exact bodyPost_ret (v := .agg ((T : XT).elf (.slice a1 T.lit.its.length c1) (.slice a2 T.lit.ks.length c2) (.slice a3 T.args.length c3) (p) (c))) (by simp [results, Tryz.results120, go_sem, cr]) rfl (at_rsays rfl hW)

        · rw [if_neg h2] at HR
          have h2' : parseCode (cutS s q k) = 0 := Decidable.not_not.1 h2
          have HPA0 : Hid (∀ W, Calls Tryz.prog 127 #[.string (cutS s q k)] W fun e w' => ∃ b A n c, e = .returned (.tuple #[.agg #[.bool b, .slice A n c], .int .i64 0]) ∧ NumV w' (.agg #[.bool b, .slice A n c]) (parseVal (cutS s q k)) ∧ Keeps [] W w') := Lib.hid (fun W => (HPA.out W).mono fun e w' ⟨b, A, n, c, x, y, z⟩ => ⟨b, A, n, c, by rw [h2'] at x; exact x, y h2', z⟩)
          have hpr := parse_range (cutS s q k)
          clear HPA h2 h2'
          generalize hpz : parseVal (cutS s q k) = pz at *
          clear hpz
          obtain ⟨hz1, hz2⟩ := hpr
          cases hg : goesAt s k with
          | true =>
            rw [hg] at HR HGO
            obtain rfl : r = .err k 1 := HR.out
            have HX := Lib.hid (HWR.out k 1)
            clear hg
            rcases hor with ⟨hc48, hql⟩ | hc48
            all_goals
              go_upto_region 9 with (first
                | (go_at_call 103; (with_reducible refine (HD2.out _).mono ?_); rintro e' w' ⟨rfl, rfl⟩)
                | (go_at_call 127; (with_reducible refine (HPA0.out _).mono ?_); rintro e' w5 ⟨pb, pA, pn, pc, rfl, hnv, hk5⟩; have H5 := Lib.hid (hB.out.go hk5); have HNV := Lib.hid hnv; clear hk5 hnv))
              refine abs_world (F := fun W => BoxR w W) (by exact H5.out.go ((Keeps.refl _ _).alloc _)) (fun W6 HW6 => ?_)
              have H6 := Lib.hid HW6
              clear HW6 H5 HNV
              go_wp2_with (go_at_call 84; (with_reducible refine (HGO.out _).mono ?_); rintro e' w' ⟨rfl, rfl⟩)
              refine (HX.out _).mono ?_
              rintro e1 w2 hx
              obtain ⟨T, vi, vk, va, p, c, rfl, hrep, hk3, ha⟩ := rsays_at hx
              obtain ⟨a1, c1, a2, c2, a3, c3, rfl, rfl, rfl⟩ := xrep_shape hrep
              have HT := Lib.hid (H6.out.told hrep hk3 ha)
              have HB3 := Lib.hid (H6.out.go hk3)
              have gb := cell_blk HB3.out.box
              have gf := frozen_blk HB3.out.box
              clear hx hrep hk3 ha
              go_wp2_with fail
              refine abs_post (F := fun W => ToldR (.err k 1) w.heap.size (T) (.slice a1 T.lit.its.length c1) (.slice a2 T.lit.ks.length c2) (.slice a3 T.args.length c3) (p) (c) w W) (HT.out) (fun W hW => ?_)
              have cr := cell_blk hW.blk
              exact bodyPost_ret (v := .agg ((T : XT).elf (.slice a1 T.lit.its.length c1) (.slice a2 T.lit.ks.length c2) (.slice a3 T.args.length c3) (p) (c))) (by simp [results, Tryz.results120, go_sem, cr]) rfl (at_rsays rfl hW)

          | false =>
            rw [hg] at HR HGO
            obtain rfl : r = .ok (litT (nrV pz)) k := HR.out
            have HX := Lib.hid (fun W => rliteral_any 2 false pz eS k W)
            clear hg
            rcases hor with ⟨hc48, hql⟩ | hc48
            all_goals
              go_upto_region 9 with (first
                | (go_at_call 103; (with_reducible refine (HD2.out _).mono ?_); rintro e' w' ⟨rfl, rfl⟩)
                | (go_at_call 127; (with_reducible refine (HPA0.out _).mono ?_); rintro e' w5 ⟨pb, pA, pn, pc, rfl, hnv, hk5⟩; have H5 := Lib.hid (hB.out.go hk5); have HNV := Lib.hid hnv; clear hk5 hnv))
              refine abs_world (F := fun W => BoxR w W ∧ W.heap[w5.heap.size]? = some (.cells #[.bool pb, .slice pA pn pc] 155 (0, 0)) ∧ NumV W (.agg #[.bool pb, .slice pA pn pc]) pz) (by exact ⟨H5.out.go ((Keeps.refl _ _).alloc _), new_blk _ _, HNV.out.below (((Keeps.refl [] w5).alloc _).nil_below)⟩) (fun W6 HW6 => ?_)
              have HI := Lib.hid (int_any _ pz W6 HW6.2.2 hz1 hz2)
              have gk := cell_blk HW6.2.1
              have H6 := Lib.hid HW6.1
              clear HW6 H5 HNV
              go_wp2_with (first
                | (go_at_call 84; (with_reducible refine (HGO.out _).mono ?_); rintro e' w' ⟨rfl, rfl⟩)
                | (go_at_call 128; (with_reducible refine HI.out.mono ?_); rintro e' w7 ⟨rfl, hb7⟩; have H7 := Lib.hid (H6.out.go (Keeps.below hb7)); clear hb7))
              refine (HX.out _).mono ?_
              rintro e1 w2 hx
              obtain ⟨T, vi, vk, va, p, c, rfl, hrep, hk3, ha⟩ := rsays_at hx
              obtain ⟨a1, c1, a2, c2, a3, c3, rfl, rfl, rfl⟩ := xrep_shape hrep
              have HT := Lib.hid (H7.out.told hrep hk3 ha)
              have HB3 := Lib.hid (H7.out.go hk3)
              have gb := cell_blk HB3.out.box
              have gf := frozen_blk HB3.out.box
              clear hx hrep hk3 ha
              go_wp2_with fail
              refine abs_post (F := fun W => ToldR (.ok (litT (nrV pz)) k) w.heap.size (T) (.slice a1 T.lit.its.length c1) (.slice a2 T.lit.ks.length c2) (.slice a3 T.args.length c3) (p) (c) w W) (HT.out) (fun W hW => ?_)
              have cr := cell_blk hW.blk
              exact bodyPost_ret (v := .agg ((T : XT).elf (.slice a1 T.lit.its.length c1) (.slice a2 T.lit.ks.length c2) (.slice a3 T.args.length c3) (p) (c))) (by simp [results, Tryz.results120, go_sem, cr]) rfl (at_rsays rfl hW)

end
end Go.Proofs.YtdlkdecigpaaaaaGreatDoor
namespace Go.Proofs.YtdlkdecigpaaaaaGreatDoor
set_option linter.unusedVariables false
set_option linter.unusedSimpArgs false
open Go.RowKit

section
variable (s : ByteArray) (i : Int) (w : World) (r : Res)
set_option maxRecDepth 20000 in
set_option maxHeartbeats 2000000 in
theorem rlev2_on (h0 : 0 ≤ i) (hs : s.size ≤ 1000000) (hw : wordAt s i = notS) (he : ∀ p c, r = .err p c → c ≠ 0)
    (HN : ∀ W, Calls Tryz.prog 40 #[.string s, .int .i64 (wordAtEnd s i), .int .i64 2] W (RSays r W)) :
    Calls Tryz.prog 40 #[.string s, .int .i64 i, .int .i64 2] w (RSays (r.up notS) w) := by
  have HW := Lib.hid (fun w => word_any s i w h0 (by omega))
  have hq : ((wordAt s i).toList == [110, 111, 116]) = true := by have h := str_beq hw; rw [toList_data notS] at h; exact h
  have HX := Lib.hid HN
  have HE := Lib.hid he
  have hB := Lib.hid (boxr_new w)
  clear HN he hw
  generalize wordAt s i = x at *
  generalize wordAtEnd s i = y at *
  go_enter Tryz.func40, Tryz.ntmps40
  go_wp2_with (go_at_call 58; refine (HW.out _).mono ?_; rintro e w' ⟨rfl, rfl⟩)
  refine (HX.out _).mono ?_
  rintro e1 w2 hx
  obtain ⟨T, vi, vk, va, p, c, rfl, hrep, hk1, ha⟩ := rsays_at hx
  obtain ⟨a1, c1, a2, c2, a3, c3, rfl, rfl, rfl⟩ := xrep_shape hrep
  have HA := Lib.hid (rahead_any notS T a1 a2 a3 c1 c2 c3 p c w2 _ r hrep hk1.size ha HE.out)
  have HK1 := Lib.hid hk1
  clear hx hrep hk1 ha
  go_wp2_with fail
  refine HA.out.mono ?_
  rintro e2 w3 hx
  obtain ⟨U, ui, uk, ua, p', c', rfl, hrep, hk2, ha⟩ := asays_at hx
  obtain ⟨b1, d1, b2, d2, b3, d3, rfl, rfl, rfl⟩ := xrep_shape hrep
  have HT := Lib.hid (hB.out.told hrep (HK1.out.trans hk2) ha)
  have HB3 := Lib.hid (hB.out.go (HK1.out.trans hk2))
  have gb := cell_blk HB3.out.box
  have gf := frozen_blk HB3.out.box
  clear hx hrep hk2 ha HA
  go_wp2_with fail
  refine abs_post (F := fun W => ToldR (r.up notS) w.heap.size (U) (.slice b1 U.lit.its.length d1) (.slice b2 U.lit.ks.length d2) (.slice b3 U.args.length d3) (p') (c') w W) (HT.out) (fun W hW => ?_)
  have cr := cell_blk hW.blk
  exact bodyPost_ret (v := .agg ((U : XT).elf (.slice b1 U.lit.its.length d1) (.slice b2 U.lit.ks.length d2) (.slice b3 U.args.length d3) (p') (c'))) (by simp [results, Tryz.results40, go_sem, cr]) rfl (at_rsays rfl hW)
set_option maxRecDepth 20000 in
set_option maxHeartbeats 2000000 in
theorem rlev2_no (h0 : 0 ≤ i) (hs : s.size ≤ 1000000) (hw : wordAt s i ≠ notS)
    (HN : ∀ W, Calls Tryz.prog 40 #[.string s, .int .i64 i, .int .i64 3] W (RSays r W)) :
    Calls Tryz.prog 40 #[.string s, .int .i64 i, .int .i64 2] w (RSays r w) := by
  have HW := Lib.hid (fun w => word_any s i w h0 (by omega))
  have hq : ((wordAt s i).toList == [110, 111, 116]) = false := by have h := str_bne hw; rw [toList_data notS] at h; exact h
  have HX := Lib.hid HN
  have hB := Lib.hid (boxr_new w)
  clear HN hw
  generalize wordAt s i = x at *
  generalize wordAtEnd s i = y at *
  go_enter Tryz.func40, Tryz.ntmps40
  go_wp2_with (go_at_call 58; refine (HW.out _).mono ?_; rintro e w' ⟨rfl, rfl⟩)
  refine (HX.out _).mono ?_
  rintro e1 w2 hx
  obtain ⟨T, vi, vk, va, p, c, rfl, hrep, hk1, ha⟩ := rsays_at hx
  obtain ⟨a1, c1, a2, c2, a3, c3, rfl, rfl, rfl⟩ := xrep_shape hrep
  have HT := Lib.hid (hB.out.told hrep hk1 ha)
  have HB3 := Lib.hid (hB.out.go hk1)
  have gb := cell_blk HB3.out.box
  have gf := frozen_blk HB3.out.box
  clear hx hrep hk1 ha
  go_wp2_with fail
  refine abs_post (F := fun W => ToldR (r) w.heap.size (T) (.slice a1 T.lit.its.length c1) (.slice a2 T.lit.ks.length c2) (.slice a3 T.args.length c3) (p) (c) w W) (HT.out) (fun W hW => ?_)
  have cr := cell_blk hW.blk
  exact bodyPost_ret (v := .agg ((T : XT).elf (.slice a1 T.lit.its.length c1) (.slice a2 T.lit.ks.length c2) (.slice a3 T.args.length c3) (p) (c))) (by simp [results, Tryz.results40, go_sem, cr]) rfl (at_rsays rfl hW)
set_option maxRecDepth 20000 in
set_option maxHeartbeats 2000000 in
theorem rlev6_on (h0 : 0 ≤ i) (h1 : i ≤ s.size) (hs : s.size ≤ 1000000) (hm : 0 ≤ markAt s i ⟨#[45]⟩) (he : ∀ p c, r = .err p c → c ≠ 0)
    (HN : ∀ W, Calls Tryz.prog 40 #[.string s, .int .i64 (markAt s i ⟨#[45]⟩), .int .i64 6] W (RSays r W)) :
    Calls Tryz.prog 40 #[.string s, .int .i64 i, .int .i64 6] w (RSays (r.up negS) w) := by
  have HW := Lib.hid (fun w => rmark_any s ⟨#[45]⟩ i w h0 h1 hs (by decide))
  have HX := Lib.hid HN
  have HE := Lib.hid he
  have hB := Lib.hid (boxr_new w)
  clear HN he
  generalize markAt s i ⟨#[45]⟩ = y at *
  go_enter Tryz.func40, Tryz.ntmps40
  go_wp2_with (go_at_call 66; refine (HW.out _).mono ?_; rintro e w' ⟨rfl, rfl⟩)
  refine (HX.out _).mono ?_
  rintro e1 w2 hx
  obtain ⟨T, vi, vk, va, p, c, rfl, hrep, hk1, ha⟩ := rsays_at hx
  obtain ⟨a1, c1, a2, c2, a3, c3, rfl, rfl, rfl⟩ := xrep_shape hrep
  have HA := Lib.hid (rahead_any negS T a1 a2 a3 c1 c2 c3 p c w2 _ r hrep hk1.size ha HE.out)
  have HK1 := Lib.hid hk1
  clear hx hrep hk1 ha
  go_wp2_with fail
  refine HA.out.mono ?_
  rintro e2 w3 hx
  obtain ⟨U, ui, uk, ua, p', c', rfl, hrep, hk2, ha⟩ := asays_at hx
  obtain ⟨b1, d1, b2, d2, b3, d3, rfl, rfl, rfl⟩ := xrep_shape hrep
  have HT := Lib.hid (hB.out.told hrep (HK1.out.trans hk2) ha)
  have HB3 := Lib.hid (hB.out.go (HK1.out.trans hk2))
  have gb := cell_blk HB3.out.box
  have gf := frozen_blk HB3.out.box
  clear hx hrep hk2 ha HA
  go_wp2_with fail
  refine abs_post (F := fun W => ToldR (r.up negS) w.heap.size (U) (.slice b1 U.lit.its.length d1) (.slice b2 U.lit.ks.length d2) (.slice b3 U.args.length d3) (p') (c') w W) (HT.out) (fun W hW => ?_)
  have cr := cell_blk hW.blk
  exact bodyPost_ret (v := .agg ((U : XT).elf (.slice b1 U.lit.its.length d1) (.slice b2 U.lit.ks.length d2) (.slice b3 U.args.length d3) (p') (c'))) (by simp [results, Tryz.results40, go_sem, cr]) rfl (at_rsays rfl hW)
set_option maxRecDepth 20000 in
set_option maxHeartbeats 2000000 in
theorem rlev6_no (h0 : 0 ≤ i) (h1 : i ≤ s.size) (hs : s.size ≤ 1000000) (hm : markAt s i ⟨#[45]⟩ < 0)
    (HN : ∀ W, Calls Tryz.prog 67 #[.string s, .int .i64 i] W (RSays r W)) :
    Calls Tryz.prog 40 #[.string s, .int .i64 i, .int .i64 6] w (RSays r w) := by
  have HW := Lib.hid (fun w => rmark_any s ⟨#[45]⟩ i w h0 h1 hs (by decide))
  have HX := Lib.hid HN
  have hB := Lib.hid (boxr_new w)
  clear HN
  generalize markAt s i ⟨#[45]⟩ = y at *
  go_enter Tryz.func40, Tryz.ntmps40
  go_wp2_with (go_at_call 66; refine (HW.out _).mono ?_; rintro e w' ⟨rfl, rfl⟩)
  refine (HX.out _).mono ?_
  rintro e1 w2 hx
  obtain ⟨T, vi, vk, va, p, c, rfl, hrep, hk1, ha⟩ := rsays_at hx
  obtain ⟨a1, c1, a2, c2, a3, c3, rfl, rfl, rfl⟩ := xrep_shape hrep
  have HT := Lib.hid (hB.out.told hrep hk1 ha)
  have HB3 := Lib.hid (hB.out.go hk1)
  have gb := cell_blk HB3.out.box
  have gf := frozen_blk HB3.out.box
  clear hx hrep hk1 ha
  go_wp2_with fail
  refine abs_post (F := fun W => ToldR (r) w.heap.size (T) (.slice a1 T.lit.its.length c1) (.slice a2 T.lit.ks.length c2) (.slice a3 T.args.length c3) (p) (c) w W) (HT.out) (fun W hW => ?_)
  have cr := cell_blk hW.blk
  exact bodyPost_ret (v := .agg ((T : XT).elf (.slice a1 T.lit.its.length c1) (.slice a2 T.lit.ks.length c2) (.slice a3 T.args.length c3) (p) (c))) (by simp [results, Tryz.results40, go_sem, cr]) rfl (at_rsays rfl hW)
end
/-- A level's state: it is done with an error; or it goes on, with fewer bytes to come than that number. -/
def LvSt (s : ByteArray) (r : Res) (n : Nat) (i : Int) (k : Nat) (r1 : Res) : Prop := (∃ p c, r1 = .err p c ∧ r = .err p c ∧ c ≠ 0) ∨ ∃ T p, r1 = .ok T p ∧ Par s (.more n T) p r ∧ i < p ∧ p ≤ s.size ∧ s.size - p.toNat < k
section
variable {s : ByteArray} {i p : Int} {n : Nat} {r : Res} {T : XT}
theorem lv_first (hn : lv n) (h : Par s (.lev n) i r) (h0 : 0 ≤ i) (h1 : i ≤ s.size) : ∃ r1, Par s (.lev (n + 1)) i r1 ∧ LvSt s r n i (s.size + 1) r1 := by
  cases h with
  | lev_err _ h => exact ⟨_, h, .inl ⟨_, _, rfl, rfl, par_code h⟩⟩
  | lev_ok _ h k => have hp := par_pos h h0 h1; exact ⟨_, h, .inr ⟨_, _, rfl, k, hp.2, hp.1.2, by omega⟩⟩
  | not_on => exact absurd hn (by unfold lv; omega)
  | not_no => exact absurd hn (by unfold lv; omega)
  | neg_on => exact absurd hn (by unfold lv; omega)
  | neg_no => exact absurd hn (by unfold lv; omega)
theorem more_no (h : Par s (.more n T) p r) (hb : betw s p n = none) : r = .ok T p := by
  cases h with
  | more_end _ => rfl
  | more_err h _ => rw [hb] at h; cases h
  | more_one h _ => rw [hb] at h; cases h
  | more_on _ h _ _ => rw [hb] at h; cases h
theorem more_yes {op : ByteArray} {e : Int} (h : Par s (.more n T) p r) (hb : betw s p n = some (op, e)) : ∃ r2, Par s (.lev (n + 1)) e r2 ∧ (∀ p c, r2 = .err p c → r = .err p c ∧ c ≠ 0) ∧
    ∀ U p', r2 = .ok U p' → (n = 3 ∧ r = .ok (binT op T U) p') ∨ (n ≠ 3 ∧ Par s (.more n (binT op T U)) p' r) := by
  cases h with
  | more_end h => rw [hb] at h; cases h
  | more_err h k => rw [hb] at h; cases h; exact ⟨_, k, fun p c e => (by cases e; exact ⟨rfl, par_code k⟩), fun U p' e => (by cases e)⟩
  | more_one h k => rw [hb] at h; cases h; exact ⟨_, k, fun p c e => (by cases e), fun U p' e => (by cases e; exact .inl ⟨rfl, rfl⟩)⟩
  | more_on h3 h k l => rw [hb] at h; cases h; exact ⟨_, k, fun p c e => (by cases e), fun U p' e => (by cases e; exact .inr ⟨h3, l⟩)⟩
theorem betwV_none (hb : betw s i n = none) : betwV s i n = (eS, i) := by unfold betwV; rw [hb]
theorem betwV_some {x : ByteArray × Int} (hb : betw s i n = some x) : betwV s i n = x := by unfold betwV; rw [hb]
theorem betw_ne {op : ByteArray} {e : Int} (hn : lv n) (h0 : 0 ≤ i) (hb : betw s i n = some (op, e)) : op ≠ eS := by
  obtain ⟨q, hq, h1, _⟩ := betw_some hn h0 hb
  rw [← h1]
  have hm := (signs_size (List.getElem_mem hq)).1
  intro h2
  rw [h2] at hm
  exact absurd hm (by decide)
end
section
variable {r r2 : Res} {b y : Nat} {T U : XT} {vi vk va ui uk ua : Value} {p c p2 c2 : Int} {w W : World}
/-- Both, put together, laid into the variable. -/
theorem VarRY.bin (op : ByteArray) (h : VarRY r r2 b y T vi vk va p c U ui uk ua p2 c2 w W) (hb : w.heap.size < b) :
    VarR (.ok (binT op T U) p2) b (binT op T U) (.slice none 0 0) (.slice none 0 0) (.slice (some ⟨W.heap.size + 1, 0, none⟩) 2 2) p2 0 w
      (((sets11 W b (.string op) (.string eS) (.int .i64 0) (.bool false) (.int .i64 0) (.string eS) (.slice none 0 0) (.slice none 0 0) (.slice (some ⟨W.heap.size + 1, 0, none⟩) 2 2) (.int .i64 p2) (.int .i64 0)).alloc (.cells (T.nine vi vk va) 30)).alloc (.cells (T.nine vi vk va ++ U.nine ui uk ua) 30)) := by
  have hbl := hk_lt h.blk
  have hbx := hk_lt h.box
  rw [← sets11_alloc _ hbl, ← sets11_alloc _ (by rw [World.size_alloc]; omega)]
  have ka : Keeps [] W ((W.alloc (.cells (T.nine vi vk va) 30)).alloc (.cells (T.nine vi vk va ++ U.nine ui uk ua) 30)) := ((Keeps.refl _ _).alloc _).alloc _
  have hn := new_blk1 W (.cells (T.nine vi vk va) 30) (.cells (T.nine vi vk va ++ U.nine ui uk ua) 30)
  generalize (W.alloc (.cells (T.nine vi vk va) 30)).alloc (.cells (T.nine vi vk va ++ U.nine ui uk ua) 30) = W2 at *
  have hu := bin_rep op eS (S := fun k => w.heap.size < k ∧ k ≠ b) hn ⟨by omega, by omega⟩ (h.rep.keep (kc_keeps ka fun k _ => by simp)) ((h.rep2.mono (S' := fun k => w.heap.size < k ∧ k ≠ b) (fun k hk => ⟨hk.1, hk.2.1⟩)).keep (kc_keeps ka fun k _ => by simp))
  exact varr_set (ka.same h.blk) rfl hb (h.keeps.trans ka) (ka.same h.box) hu ⟨rfl, rfl, rfl⟩
end
end Go.Proofs.YtdlkdecigpaaaaaGreatDoor
namespace Go.Proofs.YtdlkdecigpaaaaaGreatDoor
set_option linter.unusedVariables false
set_option linter.unusedSimpArgs false
open Go.RowKit

section
variable (s : ByteArray) (i m : Int) (n : Nat) (w : World) (r : Res)
set_option maxRecDepth 20000 in
set_option maxHeartbeats 4000000 in
theorem rlev_of (hn : lv n) (hm : m = n) (h0 : 0 ≤ i) (h1 : i ≤ s.size) (hs : s.size ≤ 1000000) (hr : Par s (.lev n) i r)
    (HN : ∀ (i' : Int) (r' : Res) (W : World), i ≤ i' → i' ≤ s.size → Par s (.lev (n + 1)) i' r' → Calls Tryz.prog 40 #[.string s, .int .i64 i', .int .i64 (m + 1)] W (RSays r' W)) :
    Calls Tryz.prog 40 #[.string s, .int .i64 i, .int .i64 m] w (RSays r w) := by
  have hB := Lib.hid (boxr_new w)
  obtain ⟨r0, hr0, hst⟩ := lv_first hn hr h0 h1
  have HF := Lib.hid (fun W => HN i r0 W (Int.le_refl _) h1 hr0)
  have HNX := Lib.hid HN
  have HST := Lib.hid hst
  have HLV := Lib.hid hn
  have hm4 : n = 0 ∨ n = 1 ∨ n = 3 ∨ n = 4 ∨ n = 5 := hn
  have hw : IntKind.i64.wrap (m + 1) = m + 1 := by rw [IntKind.wrap_i64]; omega
  have e2 : (m == 2) = false := by rw [beq_eq_false_iff_ne]; omega
  have e6 : (m == 6) = false := by rw [beq_eq_false_iff_ne]; omega
  have HBT := Lib.hid (fun (p : Int) (W : World) (hp0 : 0 ≤ p) (hp : p ≤ s.size) => rbetw_any s p W n m hn hm hp0 hp hs)
  have HM : Hid (m = n) := Lib.hid hm
  have hm0 : 0 ≤ m := by omega
  have hm5 : m ≤ 5 := by omega
  clear HN hr0 hst hr hn hm hm4
  go_enter Tryz.func40, Tryz.ntmps40
  go_wp2_with fail
  refine (HF.out _).mono ?_
  rintro e1 w2 hx
  obtain ⟨T, vi, vk, va, p, c, rfl, hrep, hk1, ha⟩ := rsays_at hx
  obtain ⟨a1, c1, a2, c2, a3, c3, rfl, rfl, rfl⟩ := xrep_shape hrep
  have HV := Lib.hid (hB.out.var hrep hk1 ha)
  have hwz : w.heap.size < w2.heap.size := Nat.lt_of_lt_of_le (hk_lt hB.out.box) hk1.size
  clear hx hrep hk1 ha HF
  go_wp2_with fail
  refine abs_world (F := fun W => VarR r0 w2.heap.size T (.slice a1 T.lit.its.length c1) (.slice a2 T.lit.ks.length c2) (.slice a3 T.args.length c3) p c w W) HV.out (fun W3 HW3 => ?_)
  have HV3 := Lib.hid HW3
  clear HW3 HV
  go_loopg [] (s.size + 1) (fun k W => ∃ (r1 : Res) (T' : XT) (vi vk va : Value) (p c : Int), Hid (LvSt s r n i k r1 ∧ VarR r1 w2.heap.size T' vi vk va p c w W))
  case atStart => exact ⟨r0, T, _, _, _, _, _, Lib.hid ⟨HST.out, HV3.out⟩⟩
  case round =>
    obtain ⟨r1, T', vi, vk, va, pv, cv, HQ⟩ := hrel
    obtain ⟨b1, d1, b2, d2, b3, d3, rfl, rfl, rfl⟩ := xrep_shape HQ.out.2.rep
    have gb3 := cell_blk HQ.out.2.blk
    have gbf3 := frozen_blk HQ.out.2.blk
    have gb4 := cell_blk HQ.out.2.box
    have gbf4 := frozen_blk HQ.out.2.box
    have hl3 := hk_lt HQ.out.2.blk
    have hl4 := hk_lt HQ.out.2.box
    rcases HQ.out.1 with ⟨p1, c1, rfl, rfl, hc⟩ | ⟨T0, p1, rfl, hpar, hip, hp, hpk⟩
    · have hat : T' = XT.zero ∧ pv = p1 ∧ cv = c1 := HQ.out.2.at_
      obtain ⟨hT, rfl, rfl⟩ := hat
      have e1 : (cv == 0) = false := by rw [beq_eq_false_iff_ne]; exact hc
      have HE := Lib.hid HQ.out.2.ret
      clear hc hT
      go_wp2_with fail
      refine abs_post (F := fun W => ToldR (.err pv cv) w.heap.size (T') (.slice b1 T'.lit.its.length d1) (.slice b2 T'.lit.ks.length d2) (.slice b3 T'.args.length d3) (pv) (cv) w W) (HE.out) (fun W hW => ?_)
      have cr := cell_blk hW.blk
      exact bodyPost_ret (v := .agg ((T' : XT).elf (.slice b1 T'.lit.its.length d1) (.slice b2 T'.lit.ks.length d2) (.slice b3 T'.args.length d3) (pv) (cv))) (by simp [results, Tryz.results40, go_sem, cr]) rfl (at_rsays rfl hW)
    · have hat : T' = T0 ∧ pv = p1 ∧ cv = 0 := HQ.out.2.at_
      obtain ⟨rfl, rfl, rfl⟩ := hat
      have hp0 : 0 ≤ pv := by omega
      cases hbt : betw s pv n with
      | none =>
        have HBN : Hid (∀ W, Calls Tryz.prog 68 #[.string s, .int .i64 pv, .int .i64 m] W fun e w' => e = .returned (.tuple #[.string eS, .int .i64 pv]) ∧ Keeps [] W w') := Lib.hid (fun W => by have h := HBT.out pv W hp0 hp; rw [betwV_none hbt] at h; exact h)
        have HRE := Lib.hid (more_no hpar hbt)
        clear hpar hbt
        go_wp2_with (go_at_call 68; refine (HBN.out _).mono ?_; rintro e' w3 ⟨rfl, hk3⟩; have HV4 := Lib.hid (HQ.out.2.go hk3); clear hk3; have gb5 := cell_blk HV4.out.blk; have gbf5 := frozen_blk HV4.out.blk; have gb6 := cell_blk HV4.out.box; have gbf6 := frozen_blk HV4.out.box)
        rw [HRE.out]
        refine abs_post (F := fun W => ToldR (.ok T' pv) w.heap.size (T') (.slice b1 T'.lit.its.length d1) (.slice b2 T'.lit.ks.length d2) (.slice b3 T'.args.length d3) (pv) (0) w W) (HV4.out.ret) (fun W hW => ?_)
        have cr := cell_blk hW.blk
        exact bodyPost_ret (v := .agg ((T' : XT).elf (.slice b1 T'.lit.its.length d1) (.slice b2 T'.lit.ks.length d2) (.slice b3 T'.args.length d3) (pv) (0))) (by simp [results, Tryz.results40, go_sem, cr]) rfl (at_rsays rfl hW)
      | some oe =>
        obtain ⟨op, e⟩ := oe
        obtain ⟨r2, hr2, he2, ho2⟩ := more_yes hpar hbt
        have hpp := betw_pos hp0 hbt
        have hne := wo_nl (betw_ne HLV.out hp0 hbt)
        have HBN : Hid (∀ W, Calls Tryz.prog 68 #[.string s, .int .i64 pv, .int .i64 m] W fun e' w' => e' = .returned (.tuple #[.string op, .int .i64 e]) ∧ Keeps [] W w') := Lib.hid (fun W => by have h := HBT.out pv W hp0 hp; rw [betwV_some hbt] at h; exact h)
        have HN2 := Lib.hid (fun W => HNX.out e r2 W (by omega) hpp.2 hr2)
        have HR2 := Lib.hid hr2
        have HE2 := Lib.hid he2
        have HO2 := Lib.hid ho2
        clear hpar hbt hr2 he2 ho2
        go_wp2_with (go_at_call 68; refine (HBN.out _).mono ?_; rintro e' w3 ⟨rfl, hk3⟩; have HV4 := Lib.hid (HQ.out.2.go hk3); clear hk3)
        refine (HN2.out _).mono ?_
        rintro e5 w5 hx
        obtain ⟨U, ui, uk, ua, p2, c2, rfl, hrep, hk5, ha⟩ := rsays_at hx
        obtain ⟨x1, y1, x2, y2, x3, y3, rfl, rfl, rfl⟩ := xrep_shape hrep
        have HY := Lib.hid (HV4.out.yv hrep hk5 ha)
        have hw5 : w2.heap.size < w5.heap.size := Nat.lt_of_lt_of_le (hk_lt HV4.out.blk) hk5.size
        clear hx hrep hk5 ha gb3 gbf3 gb4 gbf4 hl3 hl4
        cases r2 with
        | err p' c' =>
          have hat : U = XT.zero ∧ p2 = p' ∧ c2 = c' := HY.out.at2
          obtain ⟨hU, rfl, rfl⟩ := hat
          obtain ⟨hre, hc'⟩ := HE2.out p2 c2 rfl
          have e1 : (c2 == 0) = false := by rw [beq_eq_false_iff_ne]; exact hc'
          have HRE := Lib.hid hre
          clear hc' hU hre
          go_upto_region 17 with fail
          refine abs_world (F := fun W => VarRY _ (.err p2 c2) w2.heap.size w5.heap.size T' (.slice b1 T'.lit.its.length d1) (.slice b2 T'.lit.ks.length d2) (.slice b3 T'.args.length d3) pv 0 U (.slice x1 U.lit.its.length y1) (.slice x2 U.lit.ks.length y2) (.slice x3 U.args.length y3) p2 c2 w W) HY.out (fun W6 HW6 => ?_)
          have H6 := Lib.hid HW6
          clear HW6 HY
          have gy := cell_blk H6.out.blk2
          have gb6 := cell_blk H6.out.box
          have gbf6 := frozen_blk H6.out.box
          have HE := Lib.hid H6.out.ret
          go_wp2_with fail
          rw [HRE.out]
          refine abs_post (F := fun W => ToldR (.err p2 c2) w.heap.size (U) (.slice x1 U.lit.its.length y1) (.slice x2 U.lit.ks.length y2) (.slice x3 U.args.length y3) (p2) (c2) w W) (HE.out) (fun W hW => ?_)
          have cr := cell_blk hW.blk
          exact bodyPost_ret (v := .agg ((U : XT).elf (.slice x1 U.lit.its.length y1) (.slice x2 U.lit.ks.length y2) (.slice x3 U.args.length y3) (p2) (c2))) (by simp [results, Tryz.results40, go_sem, cr]) rfl (at_rsays rfl hW)
        | ok U' p' =>
          have hat : U = U' ∧ p2 = p' ∧ c2 = 0 := HY.out.at2
          obtain ⟨rfl, rfl, rfl⟩ := hat
          have hpq := par_pos HR2.out (by omega) hpp.2
          have hpp1 : e < p2 := hpq.2
          have hpp2 : p2 ≤ s.size := hpq.1.2
          clear hpq
          go_upto_region 17 with fail
          refine abs_world (F := fun W => VarRY _ (.ok U p2) w2.heap.size w5.heap.size T' (.slice b1 T'.lit.its.length d1) (.slice b2 T'.lit.ks.length d2) (.slice b3 T'.args.length d3) pv 0 U (.slice x1 U.lit.its.length y1) (.slice x2 U.lit.ks.length y2) (.slice x3 U.args.length y3) p2 0 w W) HY.out (fun W6 HW6 => ?_)
          have H6 := Lib.hid HW6
          clear HW6 HY
          have gx := cell_blk H6.out.blk
          have gfx := frozen_blk H6.out.blk
          have gy := cell_blk H6.out.blk2
          have hlx := hk_lt H6.out.blk
          have hly := hk_lt H6.out.blk2
          have HB := Lib.hid (H6.out.bin op hwz)
          go_upto_region 21 with fail
          refine abs_world (F := fun W => VarR (.ok (binT op T' U) p2) w2.heap.size (binT op T' U) (.slice none 0 0) (.slice none 0 0) (.slice (some ⟨W6.heap.size + 1, 0, none⟩) 2 2) p2 0 w W) HB.out (fun W7 HW7 => ?_)
          have H7 := Lib.hid HW7
          clear HW7 HB gx gfx gy hlx hly
          rcases HO2.out U p2 rfl with ⟨h3, hre⟩ | ⟨h3, hpar'⟩
          · have e3 : (m == 3) = true := by rw [beq_iff_eq, HM.out, h3]; rfl
            have HRE := Lib.hid hre
            have gx := cell_blk H7.out.blk
            have gb6 := cell_blk H7.out.box
            have gbf6 := frozen_blk H7.out.box
            have HE := Lib.hid H7.out.ret
            clear hre h3
            go_wp2_with fail
            rw [HRE.out]
            refine abs_post (F := fun W => ToldR (.ok (binT op T' U) p2) w.heap.size (binT op T' U) (.slice none 0 0) (.slice none 0 0) (.slice (some ⟨W6.heap.size + 1, 0, none⟩) 2 2) (p2) (0) w W) (HE.out) (fun W hW => ?_)
            have cr := cell_blk hW.blk
            exact bodyPost_ret (v := .agg ((binT op T' U : XT).elf (.slice none 0 0) (.slice none 0 0) (.slice (some ⟨W6.heap.size + 1, 0, none⟩) 2 2) (p2) (0))) (by simp [results, Tryz.results40, go_sem, cr]) rfl (at_rsays rfl hW)
          · have e3 : (m == 3) = false := by rw [beq_eq_false_iff_ne, HM.out]; omega
            have HPR := Lib.hid hpar'
            clear hpar'
            go_wp2_with fail
            go_roundg (s.size - pv.toNat)
            case measure => omega
            case rel => exact ⟨_, binT op T' U, _, _, _, _, _, Lib.hid ⟨.inr ⟨_, _, rfl, HPR.out, by omega, hpp2, by omega⟩, H7.out⟩⟩
end
end Go.Proofs.YtdlkdecigpaaaaaGreatDoor
