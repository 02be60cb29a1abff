/- The document's Bytes and First. -/
import Derived.Test.YtbajghjdnjodmaaRis
namespace Go.Proofs.Ytbajghjdnjodmaa
set_option linter.unusedVariables false
set_option linter.unusedSimpArgs false
open Go.RowKit

def intsA (l : List Int) : Array Value := (l.map (Value.int .i64)).toArray
theorem intsA_at {l : List Int} {j : Nat} {x : Int} (h : l[j]? = some x) : (intsA l)[j]? = some (.int .i64 x) := by simp [intsA, h]

set_option maxRecDepth 20000 in
set_option maxHeartbeats 1000000 in
theorem bytes_any (n : Int) (w : World) (h0 : 0 ≤ n) (h1 : n ≤ 1114111) :
    Calls Try.prog 83 #[.int .i64 n] w fun e w' => e = .returned (.slice (some ⟨w.heap.size, 0, none⟩) (bytesL n).length (bytesL n).length) ∧ w.alloc (.cells (intsA (bytesL n)) 3) = w' := by
  by_cases a1 : n < 128
  · have HB := Lib.hid (bytes1 a1)
    generalize bytesL n = l at *
    go_enter Try.func83, Try.ntmps83
    go_wp2
    go_ret
    rw [HB.out]
    exact ⟨rfl, rfl⟩
  · by_cases a2 : n < 2048
    · have HB := Lib.hid (bytes2 (by omega) a2)
      generalize bytesL n = l at *
      go_enter Try.func83, Try.ntmps83
      go_wp2
      go_ret
      rw [HB.out]
      exact ⟨rfl, rfl⟩
    · by_cases a3 : n < 65536
      · have HB := Lib.hid (bytes3 (by omega) a3)
        generalize bytesL n = l at *
        go_enter Try.func83, Try.ntmps83
        go_wp2
        go_ret
        rw [HB.out]
        exact ⟨rfl, rfl⟩
      · have HB := Lib.hid (bytes4 (n := n) (by omega))
        generalize bytesL n = l at *
        go_enter Try.func83, Try.ntmps83
        go_wp2
        go_ret
        rw [HB.out]
        exact ⟨rfl, rfl⟩

theorem cand_succ (s : ByteArray) (i : Int) (k j : Nat) : candF s i k (j + 1) = candF s i k j * 64 + bt s (i + (j + 1 : Nat)) - 128 := rfl
theorem headV_range (k : Nat) (hk : k ≤ 4) : 0 ≤ headV k ∧ headV k ≤ 240 := by
  match k, hk with
  | 0, _ => decide
  | 1, _ => decide
  | 2, _ => decide
  | 3, _ => decide
  | 4, _ => decide
theorem cand_range (s : ByteArray) (i : Int) (k : Nat) (hk : k ≤ 4) : ∀ j, j ≤ 3 → -(300 * 64 ^ j) + 3 ≤ candF s i k j ∧ candF s i k j ≤ 300 * 64 ^ j - 3
  | 0, _ => by
    have h := bt_range s i; have h2 := headV_range k hk
    simp only [candF]; omega
  | j + 1, hj => by
    have ih := cand_range s i k hk j (by omega)
    have h := bt_range s (i + (j + 1 : Nat))
    rw [cand_succ]
    have h1 : (1 : Int) ≤ 64 ^ j := by
      match j, hj with
      | 0, _ => decide
      | 1, _ => decide
      | 2, _ => decide
    rw [Int.pow_succ]
    omega
theorem cand_small (s : ByteArray) (i : Int) (k j : Nat) (hk : k ≤ 4) (hj : j ≤ 3) : -78643200 ≤ candF s i k j ∧ candF s i k j ≤ 78643200 := by
  have h := cand_range s i k hk j hj
  have h1 : (64 : Int) ^ j ≤ 262144 := by
    match j, hj with
    | 0, _ => decide
    | 1, _ => decide
    | 2, _ => decide
    | 3, _ => decide
  omega
theorem first_none {s : ByteArray} {i : Int} (h : ∀ j, 1 ≤ j → j ≤ 4 → okAt s i j = false) : first s i = (-1, 0) := by
  unfold first; rw [h 1 (by omega) (by omega), h 2 (by omega) (by omega), h 3 (by omega) (by omega), h 4 (by omega) (by omega)]; simp
theorem first_some {s : ByteArray} {i : Int} {k : Nat} (hk1 : 1 ≤ k) (hk : k ≤ 4) (h : ∀ j, 1 ≤ j → j < k → okAt s i j = false) (hk2 : okAt s i k = true) : first s i = (cand s i k, (k : Int)) := by
  unfold first
  match k, hk1, hk with
  | 1, _, _ => rw [hk2]; rfl
  | 2, _, _ => rw [h 1 (by omega) (by omega), hk2]; rfl
  | 3, _, _ => rw [h 1 (by omega) (by omega), h 2 (by omega) (by omega), hk2]; rfl
  | 4, _, _ => rw [h 1 (by omega) (by omega), h 2 (by omega) (by omega), h 3 (by omega) (by omega), hk2]; rfl
theorem ok_beyond {s : ByteArray} {i : Int} {k : Nat} (h : ¬ i + k ≤ s.size) : okAt s i k = false := by unfold okAt; simp [h]
theorem ok_unfold {s : ByteArray} {i : Int} {k : Nat} (h : i + k ≤ s.size) : okAt s i k = (pointB (cand s i k) && (((bytesL (cand s i k)).length == k) && atL s i (bytesL (cand s i k)))) := by unfold okAt; simp [h]
def headsA : Array Value := #[.int .i64 0, .int .i64 0, .int .i64 192, .int .i64 224, .int .i64 240]
theorem headsA_at {k : Nat} (h : k ≤ 4) : headsA[k]? = some (.int .i64 (headV k)) := by
  match k, h with
  | 0, _ => rfl
  | 1, _ => rfl
  | 2, _ => rfl
  | 3, _ => rfl
  | 4, _ => rfl

theorem ext_false {s : ByteArray} {i : Int} {k : Nat} (h : ∀ q, 1 ≤ q → q < k → okAt s i q = false) (hk : okAt s i k = false) : ∀ q, 1 ≤ q → q < k + 1 → okAt s i q = false := fun q a b => by
  by_cases e : q = k
  · rw [e]; exact hk
  · exact h q a (by omega)
theorem atL_drop (s : ByteArray) (i : Int) : ∀ (l : List Int) (j : Nat) (x : Int), l[j]? = some x → atL s (i + j) (l.drop j) = ((x == bt s (i + j)) && atL s (i + (j + 1 : Nat)) (l.drop (j + 1)))
  | [], j, x, h => by simp at h
  | a :: r, 0, x, h => by
    simp at h; subst h
    simp [atL]
  | a :: r, j + 1, x, h => by
    have := atL_drop s (i + 1) r j x (by simpa using h)
    simp only [List.drop_succ_cons]
    rw [show i + ((j + 1 : Nat) : Int) = i + 1 + j from by omega, show i + ((j + 1 + 1 : Nat) : Int) = i + 1 + (j + 1 : Nat) from by omega]
    exact this
set_option maxRecDepth 20000 in
set_option maxHeartbeats 4000000 in
theorem first_any (s : ByteArray) (i : Int) (w : World) (h0 : 0 ≤ i) (hs : s.size ≤ 4611686018427387904) (hi : i ≤ s.size) :
    Calls Try.prog 75 #[.string s, .int .i64 i] w fun e w' => e = .returned (.tuple #[.int .i64 (first s i).1, .int .i64 (first s i).2]) ∧ Below w.heap.size w w' := by
  have HN := Lib.hid (fun h => first_none (s := s) (i := i) h)
  have HS := Lib.hid (fun (k : Nat) hk1 hk h hk2 => first_some (s := s) (i := i) (k := k) hk1 hk h hk2)
  generalize first s i = r at *
  go_enter Try.func75, Try.ntmps75
  go_wp2
  go_loopw [6] (fun t W => ∃ k : Nat, 1 ≤ k ∧ k ≤ 5 ∧ t = .int .i64 k ∧ Hid ((∀ j, 1 ≤ j → j < k → okAt s i j = false) ∧ Below w.heap.size w W)) (fun t _ => 5 - (intOf t).toNat)
  case atStart => exact ⟨1, by omega, by omega, rfl, Lib.hid ⟨fun j h1 h2 => by omega, Below.refl _ _⟩⟩
  case round =>
    obtain ⟨k, hk1, hk5, rfl, H⟩ := hrel
    by_cases hk : k ≤ 4
    · by_cases hsz : i + k ≤ s.size
      · have hk0 : (k : Int) ≤ 4 := by omega
        have hlt : i < s.size := by omega
        have hb := bt_at s i
        have hbr := bt_range s i
        have hhr := headV_range k hk
        have hh := headsA_at hk
        unfold headsA at hh
        go_upto_region 6 with (fail)
        go_quiet (fail)
        go_wp2
        have HB := Lib.hid (bl_step H.out.2 (bl_drewN (bl_alloc (Below.refl wr.heap.size wr) (.cells #[.int .i64 0, .int .i64 0, .int .i64 192, .int .i64 224, .int .i64 240] 128)) nq))
        go_loop [8, 9] (fun c q => ∃ j : Nat, j + 1 ≤ k ∧ c = .int .i64 (candF s i k j) ∧ q = .int .i64 (j + 1 : Nat)) (fun _ q => 5 - (intOf q).toNat)
        case atStart => exact ⟨0, hk1, rfl, rfl⟩
        case round =>
          obtain ⟨j, hj, rfl, rfl⟩ := hrel
          have hcs := cand_small s i k j hk (by omega)
          clear hb hh hhr hbr
          by_cases hjk : j + 1 < k
          · have hb := bt_at s (i + (j + 1 : Nat))
            have hbr := bt_range s (i + (j + 1 : Nat))
            have hlt2 : i + (j + 1 : Nat) < s.size := by omega
            have hcs2 := cand_small s i k (j + 1) hk (by omega)
            have HC := Lib.hid (cand_succ s i k j)
            rw [cand_succ] at hcs2
            generalize hq : ((j + 1 : Nat) : Int) = q at *
            have hq0 : 1 ≤ q := by omega
            have hq1 : q < k := by omega
            have HQ := Lib.hid hq
            clear hq
            go_wp2
            go_round
            case rel => exact ⟨j + 1, by omega, congrArg (Value.int .i64) (HC.out).symm, congrArg (Value.int .i64) (by have := HQ.out; omega)⟩
            case measure => have := HQ.out; simp [intOf]; omega
          · obtain rfl : k = j + 1 := by omega
            have HC : Hid (candF s i (j + 1) j = cand s i (j + 1)) := Lib.hid rfl
            have HO := Lib.hid (ok_unfold (s := s) (i := i) (k := j + 1) (by omega))
            generalize hcv : candF s i (j + 1) j = c at *
            rw [← HC.out] at HO
            have HSk := Lib.hid (fun h => HS.out (j + 1) (by omega) hk H.out.1 h)
            rw [← HC.out] at HSk
            clear HC hcv
            cases hp : pointB c
            · have HF : Hid (okAt s i (j + 1) = false) := Lib.hid (by rw [HO.out, hp]; rfl)
              have hri := ris_any c
              rw [hp] at hri
              have HI := Lib.hid hri
              clear hri hp
              go_wp2_with (go_at_call 82; refine (HI.out _).mono ?_; rintro e w' ⟨rfl, rfl⟩)
              go_roundw
              case rel => exact ⟨j + 1 + 1, by omega, by omega, by go_num, Lib.hid ⟨ext_false H.out.1 HF.out, HB.out⟩⟩
              case measure => simp [intOf]; omega
            · have hri := ris_any c
              have hO := HO.out
              rw [hp, Bool.true_and] at hO
              rw [hp] at hri
              have HI := Lib.hid hri
              have hcb : 0 ≤ c ∧ c ≤ 1114111 := by simp only [pointB, decide_eq_true_eq] at hp; omega
              have HBY := Lib.hid (fun w => bytes_any c w hcb.1 hcb.2)
              have HSz : Hid ((bytesL c).length ≤ 4) := Lib.hid (by rw [bytes_len]; split; omega; split; omega; split <;> omega)
              clear hri hp hcb HO
              generalize bytesL c = l at *
              have HO := Lib.hid hO
              clear hO
              cases hl : (l.length == j + 1)
              · have hl2 : ((l.length : Int) == (j : Int) + 1) = false := by simp at hl ⊢; omega
                have HF : Hid (okAt s i (j + 1) = false) := Lib.hid (by rw [HO.out, hl]; rfl)
                clear hl
                go_wp2_with (first | (go_at_call 82; refine (HI.out _).mono ?_; rintro e w' ⟨rfl, rfl⟩) | (go_at_call 83; refine (HBY.out _).mono ?_; rintro e w' ⟨rfl, rfl⟩))
                refine wp_loop_rounds 1 ?_
                rw [rounds_succ]
                go_wp2
                go_roundw
                case rel => exact ⟨j + 1 + 1, by omega, by omega, by go_num, Lib.hid ⟨ext_false H.out.1 HF.out, (HB.out.alloc HB.out.size _)⟩⟩
                case measure => simp [intOf]; omega
              · have hl3 : l.length = j + 1 := by simpa using hl
                have hl2 : ((l.length : Int) == (j : Int) + 1) = true := by simp at hl ⊢; omega
                have HO2 : Hid (okAt s i (j + 1) = (true && atL s (i + (0 : Nat)) (l.drop 0))) := Lib.hid (by rw [HO.out, hl]; simp)
                have HL3 := Lib.hid hl3
                clear hl hl3
                go_wp2_with (first | (go_at_call 82; refine (HI.out _).mono ?_; rintro e w' ⟨rfl, rfl⟩) | (go_at_call 83; refine (HBY.out _).mono ?_; rintro e w' ⟨rfl, rfl⟩))
                clear hl2
                have HW0 : Hid ((((wr.alloc (.cells headsA 128)).drewN nq).alloc (.cells (intsA l) 3)).heap[wr.heap.size + 1]? = some (.cells (intsA l) 3 (0, 0))) := Lib.hid (by have := new_blk ((wr.alloc (.cells headsA 128)).drewN nq) (.cells (intsA l) 3); simpa only [World.heap_drewN, World.size_alloc] using this)
                go_loopw [11, 12] (fun b q W => ∃ (p : Nat) (bb : Bool), p ≤ j + 1 ∧ b = .bool bb ∧ q = .int .i64 p ∧ Hid ((okAt s i (j + 1) = (bb && atL s (i + p) (l.drop p))) ∧ W.heap[wr.heap.size + 1]? = some (.cells (intsA l) 3 (0, 0)) ∧ Below w.heap.size w W)) (fun _ q _ => 5 - (intOf q).toNat)
                case atStart => exact ⟨0, true, by omega, rfl, rfl, Lib.hid ⟨HO2.out, HW0.out, HB.out.alloc HB.out.size _⟩⟩
                case round =>
                  obtain ⟨p, bb, hp, rfl, rfl, HP⟩ := hrel
                  cases bb
                  · have HF : Hid (okAt s i (j + 1) = false) := Lib.hid HP.out.1
                    go_wp2
                    go_roundw
                    case rel => exact ⟨j + 1 + 1, by omega, by omega, by go_num, Lib.hid ⟨ext_false H.out.1 HF.out, HP.out.2.2⟩⟩
                    case measure => simp [intOf]; omega
                  · by_cases hpj : p < j + 1
                    · have hpl : p < l.length := by rw [HL3.out]; exact hpj
                      obtain ⟨x, hx⟩ : ∃ x, l[p]? = some x := ⟨l[p], List.getElem?_eq_getElem hpl⟩
                      have hcx := (cell_blk HP.out.2.1 p).trans (intsA_at hx)
                      have hbp := bt_at s (i + p)
                      have hlp : i + (p : Int) < s.size := by omega
                      have hlen : (p : Int) < l.length := by omega
                      have HD : Hid (okAt s i (j + 1) = ((x == bt s (i + p)) && atL s (i + (p + 1 : Nat)) (l.drop (p + 1)))) := Lib.hid (HP.out.1.trans ((Bool.true_and _).trans (atL_drop s i l p x hx)))
                      have hbrp := bt_range s (i + p)
                      have hpI : (p : Int) < (j : Int) + 1 := by omega
                      clear hx
                      go_upto_region 17 with (fail)
                      go_quiet (fail)
                      go_wp2
                      go_roundw
                      case rel => exact ⟨p + 1, (x == bt s (i + p)), by omega, rfl, by go_num, Lib.hid ⟨HD.out, HP.out.2.1, bl_drewN HP.out.2.2 _⟩⟩
                      case measure => simp [intOf]; omega
                    · obtain rfl : p = j + 1 := by omega
                      have hr := HSk.out (by rw [HP.out.1, List.drop_of_length_le (by rw [HL3.out]; omega)]; rfl)
                      have HR := Lib.hid hr
                      clear hr
                      go_wp2
                      go_ret2
                      rw [HR.out]
                      exact ⟨rfl, HP.out.2.2⟩
      · have hr := HN.out (fun j a b => by by_cases e : j < k; exact H.out.1 j a e; exact ok_beyond (by omega))
        have HR := Lib.hid hr
        clear hr
        go_wp2
        go_ret2
        rw [HR.out]
        exact ⟨rfl, H.out.2⟩
    · have hr := HN.out (fun j a b => H.out.1 j a (by omega))
      have HR := Lib.hid hr
      clear hr
      obtain rfl : k = 5 := by omega
      go_wp2
      go_ret2
      rw [HR.out]
      exact ⟨rfl, H.out.2⟩
end Go.Proofs.Ytbajghjdnjodmaa
