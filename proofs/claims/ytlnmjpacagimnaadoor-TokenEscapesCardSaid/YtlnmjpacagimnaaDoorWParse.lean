/- The program's Parse of layer 2. -/
import Derived.Test.YtlnmjpacagimnaaDoorWhole
import Derived.Stop.IfaceNil
namespace Go.Proofs.YtlnmjpacagimnaaDoor
set_option linter.unusedVariables false
set_option linter.unusedSimpArgs false
open Go.RowKit

/-- What the library's variable of ranges holds is an error, or nil. -/
def VarOk (w : World) : Prop := ∃ ev, w.cell? ⟨2, 0, none⟩ = some ev ∧ (ev = .nilIface ∨ ∃ te pe, ev = .iface te pe)
theorem VarOk.keeps {S : List Nat} {w w1 : World} (h : VarOk w) (k : Keeps S w w1) (hS : ∀ b, b ∈ S → 2 < b) : VarOk w1 := by
  obtain ⟨ev, hc, he⟩ := h
  refine ⟨ev, ?_, he⟩
  have hlt := World.block_lt_of_cell? w _ hc
  rw [← hc]
  exact World.cell?_of_block (k.block _ hlt fun hm => by have := hS _ hm; simp at this)
def parseCode (s : ByteArray) : Int := if formB s then (if fitsB (numZ s) then 0 else 4) else 1
def parseVal (s : ByteArray) : Int := if fitsF s then numZ s else 0
theorem isI : Tryd.prog.isIface 87 = true := by kernel_rfl
set_option maxRecDepth 20000 in
set_option maxHeartbeats 2000000 in
theorem wparse_any (s : ByteArray) (w : World) (hs : s.size ≤ 1000000) (hv : VarOk w) :
    Calls Tryd.prog 46 #[.string s] w fun e w' => e = .returned (.tuple #[.int .i64 (parseVal s), .int .i64 (parseCode s)]) ∧ Below w.heap.size w w' := by
  have hneq := fun (u : TypeId) (x : Value) w => run_neq_iface_nil (P := Tryd.prog) w 87 isI u x
  cases hf : formB s with
  | false =>
    have H1 := Lib.hid (show parseVal s = 0 ∧ parseCode s = 1 from by simp [parseVal, parseCode, fitsF, hf])
    have HF := Lib.hid (wform_any s w hs)
    rw [hf] at HF
    clear hf hv
    go_enter Tryd.func46, Tryd.ntmps46
    go_wp2_with (go_at_call 60; refine HF.out.mono ?_; rintro e w1 ⟨rfl, hb1⟩; have HB1 := Lib.hid hb1; clear hb1)
    go_ret2
    rw [H1.out.1, H1.out.2]
    exact ⟨rfl, HB1.out⟩
  | true =>
    have HF := Lib.hid (wform_any s w hs)
    have HP := Lib.hid (parse_num hf)
    cases hz : fitsB (numZ s) with
    | true =>
      have H1 := Lib.hid (show parseVal s = numZ s ∧ parseCode s = 0 from by simp [parseVal, parseCode, fitsF, hf, hz])
      rw [hf] at HF
      have hpz := HP.out
      rw [hz, if_pos rfl] at hpz
      have HPI := Lib.hid (fun w => Tryd.strconv_ParseInt_10_at64_ok s (by omega) _ hpz w)
      clear hf hv HP hz hpz
      generalize numZ s = z at *
      go_enter Tryd.func46, Tryd.ntmps46
      go_wp2_with (go_at_call 60; refine HF.out.mono ?_; rintro e w1 ⟨rfl, hb1⟩; have HB1 := Lib.hid hb1; clear hb1)
      refine (HPI.out _).mono ?_
      rintro e w2 ⟨rfl, hw2⟩
      have HB2 : Hid (Below w.heap.size w w2) := Lib.hid (by
        rcases hw2 with rfl | ⟨t, rfl⟩
        · exact HB1.out
        · unfold Lib.bytesWorld; exact Lib.below_freeze (bl_alloc (bl_drew HB1.out) _) HB1.out.size _)
      clear hw2
      go_wp2
      go_ret2
      rw [H1.out.1, H1.out.2]
      exact ⟨rfl, HB2.out⟩
    | false =>
      have H1 := Lib.hid (show parseVal s = 0 ∧ parseCode s = 4 from by simp [parseVal, parseCode, fitsF, hf, hz])
      rw [hf] at HF
      have hpz := HP.out
      rw [hz, if_neg (by simp)] at hpz
      have HPI := Lib.hid (fun w ev hc he => Tryd.strconv_ParseInt_10_at64_range s (by omega) hpz ev w hc he)
      have HV := Lib.hid hv
      clear hf hv HP hz hpz
      go_enter Tryd.func46, Tryd.ntmps46
      go_wp2_with (go_at_call 60; refine HF.out.mono ?_; rintro e w1 ⟨rfl, hb1⟩; have HB1 := Lib.hid hb1; clear hb1)
      have hv1 := HV.out.keeps (Keeps.below (S := []) HB1.out) (by simp)
      obtain ⟨ev, hc, he⟩ := hv1
      refine (HPI.out _ ev hc he).mono ?_
      clear hc he
      rintro e w2 ⟨N, rfl, _, _, hb2⟩
      have HB2 := Lib.hid (bl_step HB1.out hb2)
      clear hb2
      go_wp2
      go_ret2
      rw [H1.out.1, H1.out.2]
      exact ⟨rfl, HB2.out⟩
end Go.Proofs.YtlnmjpacagimnaaDoor
