/- What the listed variables give a walk; a world that meets them. -/
import Derived.Test.YtdlkdecigpaaaaaGreatDoorRows
import Derived.ProofKit
import Derived.OpenShut
import Derived.ShutString
import Derived.ChangeOld
import Derived.SizedLaws
import Derived.LaidMore
import Derived.LaidSub
import Derived.Stop.Joined
import Derived.Test.YtdlkdecigpaaaaaGreatDoorMp18
namespace Go.Proofs.YtdlkdecigpaaaaaGreatDoor
set_option linter.unusedVariables false
set_option linter.unusedSimpArgs false
open Go.ChangeShapes Go.WideShapes Go.ChangeAt Go.RowKit

theorem own : ownKnob Tryz.prog.godebug = none := by kernel_rfl
def laidV : List (String × DataW Unit) := [("math/bits.deBruijn32tab", Rows.laid_math_bits_deBruijn32tab), ("math/bits.deBruijn64tab", Rows.laid_math_bits_deBruijn64tab), ("internal/strconv.uint64pow10", Rows.laid_internal_strconv_uint64pow10), ("strconv.ErrRange", Rows.laid_strconv_ErrRange), ("strconv.ErrSyntax", Rows.laid_strconv_ErrSyntax)]
theorem gRange : Tryz.prog.globalNamed "strconv.ErrRange" = some 5 := by kernel_rfl
theorem tRange : (Tryz.prog.globals[5]?).map (·.type) = some 122 := by kernel_rfl
theorem uErr : ∃ ms, Tryz.prog.underlying 122 = some (.interface ms) := ⟨_, Tryz.underlying122⟩
theorem var_of_laid {W : World} (h : laidMetH Tryz.prog laidV W) : VarOk W := by
  rw [laidMetH_iff] at h
  have h1 := h.1
  have h2 := h1.filter (fun x => x.1 == "strconv.ErrRange")
  have e : ((laidV.filter fun x => x.2.handleName?.isNone).filter fun x => x.1 == "strconv.ErrRange") = [("strconv.ErrRange", Rows.laid_strconv_ErrRange)] := by kernel_rfl
  rw [e] at h2
  obtain ⟨ps, ⟨g0, t0, cs0, f0, p0, q0, hg0, ht0, hv0, hd0, _⟩, _⟩ := h2
  obtain rfl := Option.some.inj (gRange.symm.trans hg0)
  obtain rfl := Option.some.inj (tRange.symm.trans ht0)
  obtain ⟨ms, hms⟩ := uErr
  obtain ⟨f1, u, v, hcs, _, _⟩ := iface_of_trod hms hd0
  have hc := World.var?_cell hg0 hv0 0
  have hz : cs0[0]? = some (.iface u v) := by rw [← Array.getElem?_toList, hcs]; rfl
  rw [hz] at hc
  exact ⟨_, hc, .inr ⟨u, v, rfl⟩⟩
theorem door_met (os : Os) (args : Array Value) : laidMetH Tryz.prog laidV ((World.doorLaid Tryz.prog 400 os).forCall (fun _ _ => 0) ⟨#[], args, []⟩).memory :=
  laidMetH_of_parts3 (fuel := 8) (laidMet_of_run' 8 (by kernel_rfl) (by kernel_rfl)) (by kernel_rfl) (by kernel_rfl)
end Go.Proofs.YtdlkdecigpaaaaaGreatDoor
