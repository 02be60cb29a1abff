/- The document's Text: the bytes of points. -/
import Derived.Laws.BytesArg
import Derived.Test.YtdlkdecigpaaaaaGreatDoorMp9
import Derived.Test.YtdlkdecigpaaaaaGreatDoorMp8
namespace Go.Proofs.YtdlkdecigpaaaaaGreatDoor
set_option linter.unusedVariables false
set_option linter.unusedSimpArgs false
open Go.RowKit

abbrev u8V (l : List Int) : List Value := l.map (Value.int .u8)
theorem u8V_snoc (l : List Int) (x : Int) : u8V l ++ [.int .u8 x] = u8V (l ++ [x]) := by simp
theorem info_u8 : (Tryz.prog.info? 5).map (fun i => (i.zero, i.size, i.bytes)) = some (some (.int .u8 0), 1, 1) := by kernel_rfl
theorem u8_string {w : World} {base n : Nat} {v : Value} {xs : List Int} (h : w.ownsRow base 5 1 v n (u8V xs)) : (convert 69 9 v).run Tryz.prog w = .ok (.string (strOfNums xs)) w := by
  have hl : xs.length = n := by have := h.1; simp at this; exact this
  rcases h.2 with ⟨rfl, rfl⟩ | ⟨g, cap, cur, rfl, _⟩
  · obtain rfl : xs = [] := List.eq_nil_of_length_eq_zero hl
    exact run_convert_bytes_nil w 69 5 Tryz.underlying69 Tryz.underlying5 0 0 9 Tryz.underlying9
  · refine run_convert_bytes_arg w 69 5 Tryz.underlying69 Tryz.underlying5 g 0 n cap xs hl (fun i hi => ?_) 9 Tryz.underlying9
    rw [Nat.zero_add]
    exact own_cell h (by simp [List.getElem?_eq_getElem (show i < xs.length by omega), List.getD_eq_getElem?_getD])
/-- The bytes of points. -/
def bytesOfL (l : List Int) : List Int := l.flatMap bytesL
def textS (l : List Int) : ByteArray := strOfNums (bytesOfL l)
theorem bytesL_range {n : Int} (h0 : 0 ≤ n) (h1 : n ≤ 1114111) : ∀ x ∈ bytesL n, 0 ≤ x ∧ x ≤ 255 := by
  intro x hx
  unfold bytesL at hx
  split at hx
  · simp at hx; omega
  · split at hx
    · simp at hx; omega
    · split at hx
      · simp at hx; omega
      · simp at hx; omega
theorem bytesL_len4 (n : Int) : (bytesL n).length ≤ 4 := by rw [bytes_len]; split; omega; split; omega; split <;> omega
theorem bytesOf_len (l : List Int) : (bytesOfL l).length ≤ 4 * l.length := by
  induction l with
  | nil => simp [bytesOfL]
  | cons a r ih => have := bytesL_len4 a; simp only [bytesOfL, List.flatMap_cons, List.length_append, List.length_cons] at *; omega
theorem take_snoc' {l : List Int} {j : Nat} {x : Int} (h : l[j]? = some x) : l.take (j + 1) = l.take j ++ [x] := by
  rw [List.take_add_one, h]; rfl
set_option maxRecDepth 20000 in
set_option maxHeartbeats 4000000 in
theorem text1_any (l : List Int) (base : Nat) (v : Value) (w : World) (hp : ∀ x ∈ l, pointB x = true) (hown : w.ownsRow base 3 1 v l.length (intV l)) (hlen : l.length ≤ 1000000) :
    Calls Tryz.prog 124 #[v] w fun e w' => e = .returned (.string (textS l)) ∧ Below w.heap.size w w' := by
  obtain ⟨A, cap, rfl⟩ := own_slice hown
  have HO := Lib.hid hown
  have HP := Lib.hid hp
  clear hown hp
  go_enter Tryz.func124, Tryz.ntmps124
  go_wp2
  go_loopw [3, 9] (fun o t W => ∃ i : Nat, i ≤ l.length ∧ t = .int .i64 i ∧ Hid (W.ownsRow w.heap.size 5 1 o (bytesOfL (l.take i)).length (u8V (bytesOfL (l.take i))) ∧ Below w.heap.size w W)) (fun _ t _ => l.length - (intOf t).toNat)
  case atStart => exact ⟨0, by omega, rfl, Lib.hid ⟨World.ownsRow_nil _ _ _ _, Below.refl _ _⟩⟩
  case round =>
    obtain ⟨i, hi, rfl, H⟩ := hrel
    by_cases hlt : i < l.length
    · obtain ⟨x, hx⟩ : ∃ x, l[i]? = some x := ⟨l[i], List.getElem?_eq_getElem hlt⟩
      have hpx := HP.out x (List.mem_of_getElem? hx)
      have hb : 0 ≤ x ∧ x ≤ 1114111 := by simp only [pointB, decide_eq_true_eq] at hpx; omega
      obtain ⟨g, cap2, hA, _⟩ := own_shape HO.out (by omega)
      cases hA
      have hc : wr.cell? ⟨g, i, none⟩ = some (.int .i64 x) := own_cell (own_below HO.out H.out.2) (intV_at hx)
      have hiI : (i : Int) < l.length := by omega
      have HX := Lib.hid hx
      have HBY := Lib.hid (bytes_any x wr hb.1 hb.2)
      have HBR := Lib.hid (bytesL_range hb.1 hb.2)
      have HTK : Hid (bytesOfL (l.take (i + 1)) = bytesOfL (l.take i) ++ bytesL x) := Lib.hid (by rw [take_snoc' hx]; simp [bytesOfL])
      have HLn : Hid ((bytesOfL (l.take i)).length ≤ 4 * i ∧ (bytesL x).length ≤ 4) := Lib.hid ⟨by have := bytesOf_len (l.take i); rw [List.length_take] at this; omega, bytesL_len4 x⟩
      clear hx hpx hb
      generalize bytesL x = b at *
      generalize hpre : bytesOfL (l.take i) = pre at *
      clear hpre
      go_wp2_with (go_at_call 146; refine HBY.out.mono ?_; rintro e w' ⟨rfl, rfl⟩)
      have HW0 : Hid ((wr.alloc (.cells (intsA b) 3)).heap[wr.heap.size]? = some (.cells (intsA b) 3 (0, 0))) := Lib.hid (new_blk _ _)
      go_loopw [3, 19] (fun o t W => ∃ k : Nat, k ≤ b.length ∧ t = .int .i64 k ∧ Hid (W.ownsRow w.heap.size 5 1 o (pre ++ b.take k).length (u8V (pre ++ b.take k)) ∧ Below w.heap.size w W ∧ W.heap[wr.heap.size]? = some (.cells (intsA b) 3 (0, 0)))) (fun _ t _ => b.length - (intOf t).toNat)
      case atStart => exact ⟨0, by omega, rfl, Lib.hid ⟨by simpa using H.out.1.alloc _, bl_alloc H.out.2 _, HW0.out⟩⟩
      case round =>
        obtain ⟨k, hk, rfl, HK⟩ := hrel
        by_cases hlt2 : k < b.length
        · obtain ⟨y, hy⟩ : ∃ y, b[k]? = some y := ⟨b[k], List.getElem?_eq_getElem hlt2⟩
          have hyb := HBR.out y (List.mem_of_getElem? hy)
          obtain ⟨hy0, hy1⟩ := hyb
          have hck := (cell_blk HK.out.2.2 k).trans (intsA_at hy)
          have hkI : (k : Int) < b.length := by omega
          have hbl : (b.length : Int) ≤ 4 := by have := HLn.out; omega
          have HTy := Lib.hid (take_snoc' hy)
          clear hy
          obtain ⟨q, hq⟩ : ∃ q, q = pre ++ b.take k := ⟨_, rfl⟩
          have HQl : Hid (q.length ≤ 4 * i + 4) := Lib.hid (by have h1 := HLn.out; rw [hq, List.length_append, List.length_take]; omega)
          rw [← hq] at HK
          have HQ := Lib.hid hq
          clear hq
          go_wp2_with (at_builtin; refine app_one rfl _ _ 69 rfl Tryz.underlying69 info_u8 rfl w.heap.size _ (u8V q) (.int .u8 y) rfl rfl rfl (by rw [List.length_map]; exact HK.out.1) HK.out.2.1.size ?c1 ?c2 ?_)
          case c1 => have h1 := HQl.out; rw [List.length_map]; omega
          case c2 => have h1 := HQl.out; rw [List.length_map]; omega
          rintro v' w2 ho hg g1 cap1 rfl
          have HN := Lib.hid (And.intro ho hg)
          clear ho hg
          go_wp2
          go_roundw
          case rel => exact ⟨k + 1, by omega, by go_num, Lib.hid ⟨by have := HN.out.1; rw [u8V_snoc] at this; rw [HTy.out, ← List.append_assoc, ← HQ.out, List.length_append]; exact this, below_grown HK.out.2.1 HN.out.2 HK.out.1, by
            refine (HN.out.2.block _ (hk_lt HK.out.2.2) ?_).trans HK.out.2.2
            intro e
            rcases HK.out.1.2 with ⟨hv, _⟩ | ⟨g2, c2, cur2, hv, _, hg2, _⟩
            · rw [hv] at e; simp [Value.ownBlock] at e
            · rw [hv] at e; simp [Value.ownBlock] at e
              rw [← e, HK.out.2.2] at hg2
              injection hg2 with hg2; injection hg2 with _ h5; exact absurd h5 (by decide)⟩⟩
          case measure => simp [intOf]; omega
        · obtain rfl : k = b.length := by omega
          go_wp2
          go_roundw
          case rel => exact ⟨i + 1, by omega, by go_num, Lib.hid ⟨by have := HK.out.1; rw [List.take_of_length_le (Nat.le_refl _)] at this; rw [HTK.out]; exact this, HK.out.2.1⟩⟩
          case measure => simp [intOf]; omega
    · obtain rfl : i = l.length := by omega
      have hcv := fun (n : Nat) (o : Value) (h : wr.ownsRow w.heap.size 5 1 o n (u8V (bytesOfL (l.take l.length)))) => u8_string h
      have hcv2 := hcv _ _ H.out.1
      rw [List.take_of_length_le (Nat.le_refl _)] at hcv2
      have HS : Hid (textS l = strOfNums (bytesOfL l)) := Lib.hid rfl
      clear hcv
      go_wp2
      go_ret
      rw [HS.out]
      exact ⟨rfl, H.out.2⟩
end Go.Proofs.YtdlkdecigpaaaaaGreatDoor
