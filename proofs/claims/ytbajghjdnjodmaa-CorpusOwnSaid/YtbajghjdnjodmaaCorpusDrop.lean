/- Drop, where all entries are without slices. -/
import Derived.Test.YtbajghjdnjodmaaCorpusPut
namespace Go.Proofs.Ytbajghjdnjodmaa
set_option linter.unusedVariables false
set_option linter.unusedSimpArgs false
open Go.RowKit

theorem findE_none {s : ByteArray} : ∀ {l : List Ent} {i : Nat}, (∀ e ∈ l, s ≠ e.1) → findE s l i = none
  | [], _, _ => rfl
  | e :: r, i, h => by
    unfold findE
    rw [if_neg (h e (.head _))]
    exact findE_none fun e' he => h e' (.tail _ he)
theorem findE_at {s : ByteArray} {v : Value} {n : Nat} : ∀ {l : List Ent} {i k : Nat}, l[k]? = some (s, v, n) → (∀ j e, j < k → l[j]? = some e → s ≠ e.1) → findE s l i = some (i + k, v)
  | [], _, _, h, _ => by simp at h
  | e :: r, i, 0, h, _ => by
    simp at h; subst h; unfold findE; rw [if_pos rfl]; rfl
  | e :: r, i, k + 1, h, hn => by
    unfold findE
    rw [if_neg (hn 0 e (by omega) rfl), findE_at (l := r) (k := k) (by simpa using h) (fun j e' hj he => hn (j + 1) e' (by omega) (by simpa using he))]
    simp; omega

set_option maxRecDepth 20000 in
set_option maxHeartbeats 1000000 in
theorem drop_ok (g m c : Nat) (l : List Ent) (nm : ByteArray) (k0 : Int) (b0 : Bool) (n0 : Int) (s0 : ByteArray) (has0 : Bool) (st0 : ByteArray) (w : World)
    (hg : w.heap[g]? = some (.cells #[.map (some m)] 69 (0, 0))) (hm : w.heap[m]? = some (.map (ents l) c)) (hF : LookF l nm true k0 b0 n0 s0 has0 st0) :
    Calls Try.prog 15 #[.pointer (some ⟨g, 0, none⟩), .string nm] w
      fun e w' => e = .returned (.int .i64 0) ∧ w'.heap[m]? = some (.map (ents (dropE l nm)) c) ∧ w.grownBy w' (some m) := by
  have hgc := cell_blk hg
  have hgW := cell_blk (hk_alloc hg (.cells (flatA k0 b0 n0 s0 has0 st0) 33))
  have HM := Lib.hid hm
  have hL := run_lookF hF hm
  have hmW := hk_alloc hm (.cells (flatA k0 b0 n0 s0 has0 st0) 33)
  have hU := fun kt ty => run_dropS (P := Try.prog) Try.underlying67 Try.underlying9 hmW nm kt ty
  clear hm hg hF hmW
  go_enter Try.func15, Try.ntmps15
  go_wp2
  go_ret
  exact ⟨rfl, put_end (hk_alloc HM.out _) (bl_alloc (Below.refl _ _) _) ⟨rfl, rfl, rfl, Nat.le_refl _, fun _ _ => rfl⟩⟩
end Go.Proofs.Ytbajghjdnjodmaa
