/- render.Text of a small number. -/
import Derived.Test.YtdlkdecigpaaaaaGreatDoorShelfQ
import Derived.Test.YtdlkdecigpaaaaaGreatDoorMp2
import Derived.Test.YtdlkdecigpaaaaaGreatDoorMp4
namespace Go.Proofs.YtdlkdecigpaaaaaGreatDoor
set_option linter.unusedVariables false
set_option linter.unusedSimpArgs false
open Go.RowKit

def decB (n : Nat) : ByteArray := ⟨(Lib.decDigits n).toArray⟩
theorem dec_cells (n : Nat) : ([] : List Value) ++ Lib.strCells (decB n) = Lib.byteCells (Lib.decDigits n) := by simp [Lib.strCells, Lib.byteCells, decB]
theorem wtext_small (n : Nat) (hn : n < 100) (w : World) : Calls Tryz.prog 96 #[.int .i64 n] w fun e w' => e = .returned (.string (decB n)) ∧ w = w' := by
  have H := Lib.hid (fun W => Tryz.strconv_FormatInt_10_small n hn W)
  go_enter Tryz.func96, Tryz.ntmps96
  go_wp2_with fail
  refine (H.out _).mono ?_
  rintro e w1 ⟨rfl, rfl⟩
  go_wp2_with fail
  go_ret
  exact ⟨rfl, rfl⟩
theorem WrAt.go {B b : Nat} {p x2 x3 x4 : Value} {bs : List Value} {w w' : World} (h : WrAt B b p x2 x3 x4 bs w) (k : Keeps [] w w') : WrAt B b p x2 x3 x4 bs w' := by
  obtain ⟨hB, v, hb, hown, hne⟩ := h
  exact ⟨hB, v, k.same hb, hown.kept (row := none) ⟨k.os, k.tape, k.output, k.size, fun i hi _ => k.block i hi (by simp)⟩ (by cases v.ownBlock <;> simp), hne⟩
theorem WrIs.go {B b : Nat} {x2 x3 x4 : Value} {bs : List Value} {w w' : World} (h : WrIs B b x2 x3 x4 bs w) (k : Keeps [] w w') : WrIs B b x2 x3 x4 bs w' := h.imp (·.go k) (·.go k)
section
variable (B b : Nat) (x2 x3 x4 : Value) (bs : List Value) (n : Nat) (s0 : ByteArray) (y1 y2 : Option Addr) (d1 d2 c1 c2 : Nat) (b0 : Bool) (w : World)
set_option maxRecDepth 20000 in
set_option maxHeartbeats 1000000 in
theorem rvalue_int (h : WrIs B b x2 x3 x4 bs w) (hn : n < 100) (hsz : (decB n).size ≤ 100) (hlen : bs.length ≤ 100000) (hBw : B ≤ w.heap.size) :
    Calls Tryz.prog 77 #[.pointer (some ⟨b, 0, none⟩), .agg #[.int .i64 2, .bool b0, .int .i64 n, .string s0, .slice y1 d1 c1, .slice y2 d2 c2], .int .i64 0] w fun e w' => e = .returned (.tuple #[]) ∧ WrAt B b (.pointer (some ⟨b, 0, none⟩)) x2 x3 x4 (bs ++ Lib.strCells (decB n)) w' ∧ Below B w w' := by
  have HT := Lib.hid (fun W => wtext_small n hn W)
  have HB := Lib.hid h
  clear h
  go_enter Tryz.func77, Tryz.ntmps77
  go_upto_region 8 with fail
  go_region_with (first
    | (go_at_call 96; refine (HT.out _).mono ?_; rintro e1 w1 ⟨rfl, rfl⟩)
    | (go_at_call 71; refine (wwrite_any B b x2 x3 x4 bs _ (decB n) (HB.out.go (by exact ((Keeps.refl _ _).alloc _).drew)) (by omega) (by exact Nat.le_trans hBw ((Keeps.refl [] w).alloc _).size)).mono ?_; rintro e2 w2 ⟨rfl, h2, hb2⟩))
  all_goals
    go_wp2_with fail
    go_end0
    exact ⟨rfl, h2, (((Keeps.refl [] w).alloc _).drew.to_below hBw (by simp)).trans hb2⟩
set_option maxRecDepth 20000 in
set_option maxHeartbeats 1000000 in
theorem rtext_int (hn : n < 100) (hsz : (decB n).size ≤ 100) (hd : Lib.decDigits n ≠ []) :
    Calls Tryz.prog 50 #[.agg #[.int .i64 2, .bool b0, .int .i64 n, .string s0, .slice y1 d1 c1, .slice y2 d2 c2]] w fun e w' => e = .returned (.string (decB n)) ∧ Below w.heap.size w w' := by
  have HV := Lib.hid (fun (b : Nat) (x2 x3 x4 : Value) (W : World) (h : WrIs (w.heap.size + 1) b x2 x3 x4 [] W) (hb : w.heap.size + 1 ≤ W.heap.size) => rvalue_int (w.heap.size + 1) b x2 x3 x4 [] n s0 y1 y2 d1 d2 c1 c2 b0 W h hn hsz (by simp) hb)
  have HS := Lib.hid (fun (b : Nat) (p x2 x3 x4 : Value) (W : World) (h : WrAt (w.heap.size + 1) b p x2 x3 x4 (Lib.byteCells (Lib.decDigits n)) W) => wstring_any (w.heap.size + 1) b x2 x3 x4 W p (Lib.decDigits n) h hd)
  go_enter Tryz.func50, Tryz.ntmps50
  go_wp2_with fail
  refine (HV.out _ _ _ _ _ (.inl ⟨Nat.le_refl _, .slice none 0 0, new_blk1 _ _ _, ⟨by simp, .inl ⟨rfl, rfl⟩⟩, by simp [Value.ownBlock]⟩) (by simp only [World.size_alloc]; omega)).mono ?_
  rintro e1 w1 ⟨rfl, h1, hb1⟩
  have H1 := Lib.hid h1
  have HB1 : Hid (Below w.heap.size w w1) := Lib.hid ((Keeps.nil_below (((Keeps.refl [] w).alloc _).alloc _)).trans (hb1.mono (Nat.le_succ _)))
  clear h1 hb1 HV
  go_wp2_with fail
  refine (HS.out _ _ _ _ _ _ (by exact dec_cells n ▸ H1.out)).mono ?_
  rintro e2 w2 ⟨rfl, hb2⟩
  have HB2 := Lib.hid (HB1.out.trans (hb2.mono (Nat.le_succ _)))
  clear hb2
  go_wp2_with fail
  go_ret
  exact ⟨rfl, HB2.out⟩
end
end Go.Proofs.YtdlkdecigpaaaaaGreatDoor
