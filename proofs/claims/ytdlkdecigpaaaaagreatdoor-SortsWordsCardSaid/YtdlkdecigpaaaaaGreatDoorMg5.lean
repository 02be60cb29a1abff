/- Put together: What the lexer's tables of bytes say; The glyph's calls, and the document's Is; The document's Bytes and First. -/
import Derived.Test.YtdlkdecigpaaaaaGreatDoorMg3
import Derived.Test.YtdlkdecigpaaaaaGreatDoorMg4
import Derived.Test.YtdlkdecigpaaaaaGreatDoorShelf
namespace Go.Proofs.YtdlkdecigpaaaaaGreatDoor
set_option linter.unusedVariables false
set_option linter.unusedSimpArgs false
open Go.RowKit

def hexesS : ByteArray := ⟨#[48, 49, 50, 51, 52, 53, 54, 55, 56, 57, 97, 98, 99, 100, 101, 102, 48, 49, 50, 51, 52, 53, 54, 55, 56, 57, 65, 66, 67, 68, 69, 70]⟩
def digitsS : ByteArray := ⟨#[48, 49, 50, 51, 52, 53, 54, 55, 56, 57]⟩
def blanksS : ByteArray := ⟨#[32, 9, 10, 13]⟩
def marksS : ByteArray := ⟨#[123, 125, 91, 93, 58, 44]⟩
def minusS : ByteArray := ⟨#[45, 48, 49, 50, 51, 52, 53, 54, 55, 56, 57]⟩
def expS : ByteArray := ⟨#[101, 69]⟩
def signS : ByteArray := ⟨#[43, 45]⟩
def lettS : ByteArray := ⟨#[34, 92, 47, 98, 102, 110, 114, 116]⟩
def poinS : ByteArray := ⟨#[34, 92, 47, 8, 12, 10, 13, 9]⟩
def byteS (c : Int) : ByteArray := ⟨#[c.toNat.toUInt8]⟩
def markB (c : Int) : Bool := c == 123 || (c == 125 || (c == 91 || (c == 93 || (c == 58 || c == 44))))
/-- What holds of each byte's number holds of the byte at a place. -/
theorem byte_all {p : Int → Prop} (h : ∀ n : Nat, n < 256 → p n) (s : ByteArray) (i : Int) : p (bt s i) := by
  have hb := bt_range s i
  have := h (bt s i).toNat (by omega)
  rwa [Int.toNat_of_nonneg hb.1] at this
theorem hex_tab : ∀ n : Nat, n < 256 → memB hexesS n = decide (0 ≤ hexV n) ∧ (0 ≤ hexV n → Lib.indexByte hexesS.data.toList (n : Int).toNat.toUInt8 % 16 = hexV n ∧ 0 ≤ Lib.indexByte hexesS.data.toList (n : Int).toNat.toUInt8 ∧ Lib.indexByte hexesS.data.toList (n : Int).toNat.toUInt8 ≤ 31) := by decide +kernel
theorem lett_tab : ∀ n : Nat, n < 256 → memB lettS n = decide (0 ≤ escV n) ∧ (0 ≤ escV n → bt poinS (Lib.indexByte lettS.data.toList (n : Int).toNat.toUInt8) = escV n ∧ 0 ≤ Lib.indexByte lettS.data.toList (n : Int).toNat.toUInt8 ∧ Lib.indexByte lettS.data.toList (n : Int).toNat.toUInt8 ≤ 7) := by decide +kernel
theorem dig_tab : ∀ n : Nat, n < 256 → memB digitsS n = digitB n := by decide +kernel
theorem blank_tab : ∀ n : Nat, n < 256 → memB blanksS n = ((n : Int) == 32 || ((n : Int) == 9 || ((n : Int) == 10 || (n : Int) == 13))) := by decide +kernel
theorem mark_tab : ∀ n : Nat, n < 256 → memB marksS n = markB n := by decide +kernel
theorem minus_tab : ∀ n : Nat, n < 256 → memB minusS n = ((n : Int) == 45 || digitB n) := by decide +kernel
theorem exp_tab : ∀ n : Nat, n < 256 → memB expS n = ((n : Int) == 101 || (n : Int) == 69) := by decide +kernel
theorem sign_tab : ∀ n : Nat, n < 256 → memB signS n = ((n : Int) == 43 || (n : Int) == 45) := by decide +kernel
theorem has_hex (s : ByteArray) (i : Int) : hasB s i hexesS = decide (0 ≤ hexAt s i) := by
  have h := (byte_all (p := fun c => memB hexesS c = decide (0 ≤ hexV c)) (fun n hn => (hex_tab n hn).1) s i)
  unfold hasB hexAt; rw [h]
  by_cases c : i < s.size <;> simp [c]
theorem has_lett (s : ByteArray) (i : Int) : hasB s i lettS = decide (0 ≤ escAt s i) := by
  have h := (byte_all (p := fun c => memB lettS c = decide (0 ≤ escV c)) (fun n hn => (lett_tab n hn).1) s i)
  unfold hasB escAt; rw [h]
  by_cases c : i < s.size <;> simp [c]
theorem has_dig (s : ByteArray) (i : Int) : hasB s i digitsS = digitAt s i := by
  have h := (byte_all (p := fun c => memB digitsS c = digitB c) dig_tab s i)
  unfold hasB digitAt; rw [h]
theorem has_blank (s : ByteArray) (i : Int) : hasB s i blanksS = isBlank s i := by
  have h := (byte_all (p := fun c => memB blanksS c = (c == 32 || (c == 9 || (c == 10 || c == 13)))) blank_tab s i)
  unfold hasB isBlank isAt; rw [h]
  by_cases c : i < s.size <;> simp [c]
theorem has_exp (s : ByteArray) (i : Int) : hasB s i expS = (isAt s i 101 || isAt s i 69) := by
  have h := (byte_all (p := fun c => memB expS c = (c == 101 || c == 69)) exp_tab s i)
  unfold hasB isAt; rw [h]
  by_cases c : i < s.size <;> simp [c]
theorem has_sign (s : ByteArray) (i : Int) : hasB s i signS = (isAt s i 43 || isAt s i 45) := by
  have h := (byte_all (p := fun c => memB signS c = (c == 43 || c == 45)) sign_tab s i)
  unfold hasB isAt; rw [h]
  by_cases c : i < s.size <;> simp [c]
theorem mem_one (k : UInt8) (n : Nat) (hn : n < 256) : memB ⟨#[k]⟩ n = ((n : Int) == (k.toNat : Int)) := by
  have e : (n : Int).toNat.toUInt8 = k ↔ n = k.toNat := by
    rw [Int.toNat_natCast, ← UInt8.toNat_inj, UInt8.toNat_ofNat_of_lt' (by simpa using hn)]
  rw [Bool.eq_iff_iff]
  unfold memB
  simp only [decide_eq_true_eq, beq_iff_eq]
  by_cases h : n = k.toNat
  · have h1 := e.2 h; simp [Lib.indexByte, h1, h]
  · have h1 : ¬ k = (n : Int).toNat.toUInt8 := fun x => h (e.1 x.symm)
    have h2 : ¬ (n : Int) = (k.toNat : Int) := by omega
    simp only [Lib.indexByte, beq_iff_eq, h1, h2, if_false, if_true]; simp
theorem has_byte (s : ByteArray) (i : Int) (k : UInt8) : hasB s i ⟨#[k]⟩ = isAt s i k.toNat := by
  have h := (byte_all (p := fun c => memB ⟨#[k]⟩ c = (c == (k.toNat : Int))) (mem_one k) s i)
  unfold hasB isAt; rw [h]
theorem pass_dig (s : ByteArray) (i : Int) : passEnd s i digitsS = digitsEnd s i := by
  unfold passEnd digitsEnd
  rw [show (fun j => hasB s j digitsS) = digitAt s from funext (has_dig s)]
theorem pass_blank (s : ByteArray) (i : Int) : passEnd s i blanksS = blanks s i := by
  unfold passEnd blanks
  rw [show (fun j => hasB s j blanksS) = isBlank s from funext (has_blank s)]

end Go.Proofs.YtdlkdecigpaaaaaGreatDoor
namespace Go.Proofs.YtdlkdecigpaaaaaGreatDoor
set_option linter.unusedVariables false
set_option linter.unusedSimpArgs false
open Go.RowKit

theorem pointB_of {n : Int} : (if n < 0 then false else if n < 55296 then true else if n < 57344 then false else decide (n ≤ 1114111)) = pointB n := by
  rw [Bool.eq_iff_iff]; simp only [pointB, decide_eq_true_eq]
  split
  · simp; omega
  · split
    · simp; omega
    · split
      · simp; omega
      · simp; omega
set_option maxHeartbeats 1000000 in
theorem gis_any (n : Int) (w : World) : Calls Tryz.prog 212 #[.int .i64 n] w fun e w' => e = .returned (.bool (pointB n)) ∧ w = w' := by
  have Hr : Hid (pointB n = decide (0 ≤ n ∧ n < 55296 ∨ 57343 < n ∧ n ≤ 1114111)) := Lib.hid rfl
  generalize pointB n = r at *
  go_enter Tryz.func212, Tryz.ntmps212
  go_wp2
  all_goals
    go_ret
    exact ⟨ret_bool (by rw [Hr.out, Bool.eq_iff_iff]; simp; omega), rfl⟩
set_option maxHeartbeats 1000000 in
theorem ris_any (n : Int) (w : World) : Calls Tryz.prog 157 #[.int .i64 n] w fun e w' => e = .returned (.bool (pointB n)) ∧ w = w' := by
  have Hr : Hid (pointB n = decide (0 ≤ n ∧ n < 55296 ∨ 57343 < n ∧ n ≤ 1114111)) := Lib.hid rfl
  generalize pointB n = r at *
  go_enter Tryz.func157, Tryz.ntmps157
  go_wp2
  all_goals
    go_ret
    exact ⟨ret_bool (by rw [Hr.out, Bool.eq_iff_iff]; simp; omega), rfl⟩
/-- The point of two halves; none: -1. -/
def pairV (a b : Int) : Int := if 55296 ≤ a ∧ a < 56320 ∧ 56320 ≤ b ∧ b < 57344 then 65536 + (a - 55296) * 1024 + b - 56320 else -1
set_option maxHeartbeats 1000000 in
theorem pair_any (a b : Int) (w : World) : Calls Tryz.prog 213 #[.int .i64 a, .int .i64 b] w fun e w' => e = .returned (.int .i64 (pairV a b)) ∧ w = w' := by
  have Hr : Hid (pairV a b = if 55296 ≤ a ∧ a < 56320 ∧ 56320 ≤ b ∧ b < 57344 then 65536 + (a - 55296) * 1024 + b - 56320 else -1) := Lib.hid rfl
  generalize pairV a b = r at *
  go_enter Tryz.func213, Tryz.ntmps213
  go_wp2
  all_goals
    go_ret
    exact ⟨ret_i64 (by rw [Hr.out]; first | (rw [if_neg (by omega)]; done) | (rw [if_pos (by omega)]; try unfold wrap64; omega)), rfl⟩
def encS (n : Int) : ByteArray := if pointB n then Utf8.encode n else ⟨#[]⟩
set_option maxHeartbeats 1000000 in
theorem enc_any (n : Int) (w : World) : Calls Tryz.prog 203 #[.int .i64 n] w fun e w' => e = .returned (.string (encS n)) ∧ w = w' := by
  have Hr : Hid (encS n = if pointB n then Utf8.encode n else ⟨#[]⟩) := Lib.hid rfl
  generalize encS n = r at *
  cases hp : pointB n
  · have HP := Lib.hid hp
    have h := gis_any n w
    rw [hp] at h
    have HI := Lib.hid h
    clear h hp
    go_enter Tryz.func203, Tryz.ntmps203
    go_wp2_with (go_at_call 212; refine HI.out.mono ?_; rintro e w' ⟨rfl, rfl⟩)
    go_ret
    exact ⟨ret_str (by rw [Hr.out, HP.out]; rfl), rfl⟩
  · have HP := Lib.hid hp
    have hb : 0 ≤ n ∧ n ≤ 1114111 := by simp only [pointB, decide_eq_true_eq] at hp; omega
    obtain ⟨h0, h1⟩ := hb
    have h := gis_any n w
    rw [hp] at h
    have HI := Lib.hid h
    clear h hp
    go_enter Tryz.func203, Tryz.ntmps203
    go_wp2_with (go_at_call 212; refine HI.out.mono ?_; rintro e w' ⟨rfl, rfl⟩)
    go_ret
    exact ⟨ret_str (by rw [Hr.out, HP.out]; rfl), rfl⟩
end Go.Proofs.YtdlkdecigpaaaaaGreatDoor
namespace Go.Proofs.YtdlkdecigpaaaaaGreatDoor
set_option linter.unusedVariables false
set_option linter.unusedSimpArgs false
open Go.RowKit

def intsA (l : List Int) : Array Value := (l.map (Value.int .i64)).toArray
theorem intsA_at {l : List Int} {j : Nat} {x : Int} (h : l[j]? = some x) : (intsA l)[j]? = some (.int .i64 x) := by simp [intsA, h]

set_option maxRecDepth 20000 in
set_option maxHeartbeats 1000000 in
theorem bytes_any (n : Int) (w : World) (h0 : 0 ≤ n) (h1 : n ≤ 1114111) :
    Calls Tryz.prog 146 #[.int .i64 n] w fun e w' => e = .returned (.slice (some ⟨w.heap.size, 0, none⟩) (bytesL n).length (bytesL n).length) ∧ w.alloc (.cells (intsA (bytesL n)) 3) = w' := by
  by_cases a1 : n < 128
  · have HB := Lib.hid (bytes1 a1)
    generalize bytesL n = l at *
    go_enter Tryz.func146, Tryz.ntmps146
    go_wp2
    go_ret
    rw [HB.out]
    exact ⟨rfl, rfl⟩
  · by_cases a2 : n < 2048
    · have HB := Lib.hid (bytes2 (by omega) a2)
      generalize bytesL n = l at *
      go_enter Tryz.func146, Tryz.ntmps146
      go_wp2
      go_ret
      rw [HB.out]
      exact ⟨rfl, rfl⟩
    · by_cases a3 : n < 65536
      · have HB := Lib.hid (bytes3 (by omega) a3)
        generalize bytesL n = l at *
        go_enter Tryz.func146, Tryz.ntmps146
        go_wp2
        go_ret
        rw [HB.out]
        exact ⟨rfl, rfl⟩
      · have HB := Lib.hid (bytes4 (n := n) (by omega))
        generalize bytesL n = l at *
        go_enter Tryz.func146, Tryz.ntmps146
        go_wp2
        go_ret
        rw [HB.out]
        exact ⟨rfl, rfl⟩

theorem cand_succ (s : ByteArray) (i : Int) (k j : Nat) : candF s i k (j + 1) = candF s i k j * 64 + bt s (i + (j + 1 : Nat)) - 128 := rfl
theorem headV_range (k : Nat) (hk : k ≤ 4) : 0 ≤ headV k ∧ headV k ≤ 240 := by
  match k, hk with
  | 0, _ => decide
  | 1, _ => decide
  | 2, _ => decide
  | 3, _ => decide
  | 4, _ => decide
theorem cand_range (s : ByteArray) (i : Int) (k : Nat) (hk : k ≤ 4) : ∀ j, j ≤ 3 → -(300 * 64 ^ j) + 3 ≤ candF s i k j ∧ candF s i k j ≤ 300 * 64 ^ j - 3
  | 0, _ => by
    have h := bt_range s i; have h2 := headV_range k hk
    simp only [candF]; omega
  | j + 1, hj => by
    have ih := cand_range s i k hk j (by omega)
    have h := bt_range s (i + (j + 1 : Nat))
    rw [cand_succ]
    have h1 : (1 : Int) ≤ 64 ^ j := by
      match j, hj with
      | 0, _ => decide
      | 1, _ => decide
      | 2, _ => decide
    rw [Int.pow_succ]
    omega
theorem cand_small (s : ByteArray) (i : Int) (k j : Nat) (hk : k ≤ 4) (hj : j ≤ 3) : -78643200 ≤ candF s i k j ∧ candF s i k j ≤ 78643200 := by
  have h := cand_range s i k hk j hj
  have h1 : (64 : Int) ^ j ≤ 262144 := by
    match j, hj with
    | 0, _ => decide
    | 1, _ => decide
    | 2, _ => decide
    | 3, _ => decide
  omega
theorem first_none {s : ByteArray} {i : Int} (h : ∀ j, 1 ≤ j → j ≤ 4 → okAt s i j = false) : first s i = (-1, 0) := by
  unfold first; rw [h 1 (by omega) (by omega), h 2 (by omega) (by omega), h 3 (by omega) (by omega), h 4 (by omega) (by omega)]; simp
theorem first_some {s : ByteArray} {i : Int} {k : Nat} (hk1 : 1 ≤ k) (hk : k ≤ 4) (h : ∀ j, 1 ≤ j → j < k → okAt s i j = false) (hk2 : okAt s i k = true) : first s i = (cand s i k, (k : Int)) := by
  unfold first
  match k, hk1, hk with
  | 1, _, _ => rw [hk2]; rfl
  | 2, _, _ => rw [h 1 (by omega) (by omega), hk2]; rfl
  | 3, _, _ => rw [h 1 (by omega) (by omega), h 2 (by omega) (by omega), hk2]; rfl
  | 4, _, _ => rw [h 1 (by omega) (by omega), h 2 (by omega) (by omega), h 3 (by omega) (by omega), hk2]; rfl
theorem ok_beyond {s : ByteArray} {i : Int} {k : Nat} (h : ¬ i + k ≤ s.size) : okAt s i k = false := by unfold okAt; simp [h]
theorem ok_unfold {s : ByteArray} {i : Int} {k : Nat} (h : i + k ≤ s.size) : okAt s i k = (pointB (cand s i k) && (((bytesL (cand s i k)).length == k) && atL s i (bytesL (cand s i k)))) := by unfold okAt; simp [h]
def headsA : Array Value := #[.int .i64 0, .int .i64 0, .int .i64 192, .int .i64 224, .int .i64 240]
theorem headsA_at {k : Nat} (h : k ≤ 4) : headsA[k]? = some (.int .i64 (headV k)) := by
  match k, h with
  | 0, _ => rfl
  | 1, _ => rfl
  | 2, _ => rfl
  | 3, _ => rfl
  | 4, _ => rfl

theorem ext_false {s : ByteArray} {i : Int} {k : Nat} (h : ∀ q, 1 ≤ q → q < k → okAt s i q = false) (hk : okAt s i k = false) : ∀ q, 1 ≤ q → q < k + 1 → okAt s i q = false := fun q a b => by
  by_cases e : q = k
  · rw [e]; exact hk
  · exact h q a (by omega)
theorem atL_drop (s : ByteArray) (i : Int) : ∀ (l : List Int) (j : Nat) (x : Int), l[j]? = some x → atL s (i + j) (l.drop j) = ((x == bt s (i + j)) && atL s (i + (j + 1 : Nat)) (l.drop (j + 1)))
  | [], j, x, h => by simp at h
  | a :: r, 0, x, h => by
    simp at h; subst h
    simp [atL]
  | a :: r, j + 1, x, h => by
    have := atL_drop s (i + 1) r j x (by simpa using h)
    simp only [List.drop_succ_cons]
    rw [show i + ((j + 1 : Nat) : Int) = i + 1 + j from by omega, show i + ((j + 1 + 1 : Nat) : Int) = i + 1 + (j + 1 : Nat) from by omega]
    exact this
set_option maxRecDepth 20000 in
set_option maxHeartbeats 4000000 in
theorem first_any (s : ByteArray) (i : Int) (w : World) (h0 : 0 ≤ i) (hs : s.size ≤ 4611686018427387904) (hi : i ≤ s.size) :
    Calls Tryz.prog 145 #[.string s, .int .i64 i] w fun e w' => e = .returned (.tuple #[.int .i64 (first s i).1, .int .i64 (first s i).2]) ∧ Below w.heap.size w w' := by
  have HN := Lib.hid (fun h => first_none (s := s) (i := i) h)
  have HS := Lib.hid (fun (k : Nat) hk1 hk h hk2 => first_some (s := s) (i := i) (k := k) hk1 hk h hk2)
  generalize first s i = r at *
  go_enter Tryz.func145, Tryz.ntmps145
  go_wp2
  go_loopw [6] (fun t W => ∃ k : Nat, 1 ≤ k ∧ k ≤ 5 ∧ t = .int .i64 k ∧ Hid ((∀ j, 1 ≤ j → j < k → okAt s i j = false) ∧ Below w.heap.size w W)) (fun t _ => 5 - (intOf t).toNat)
  case atStart => exact ⟨1, by omega, by omega, rfl, Lib.hid ⟨fun j h1 h2 => by omega, Below.refl _ _⟩⟩
  case round =>
    obtain ⟨k, hk1, hk5, rfl, H⟩ := hrel
    by_cases hk : k ≤ 4
    · by_cases hsz : i + k ≤ s.size
      · have hk0 : (k : Int) ≤ 4 := by omega
        have hlt : i < s.size := by omega
        have hb := bt_at s i
        have hbr := bt_range s i
        have hhr := headV_range k hk
        have hh := headsA_at hk
        unfold headsA at hh
        go_upto_region 6 with (fail)
        go_quiet (fail)
        go_wp2
        have HB := Lib.hid (bl_step H.out.2 (bl_drewN (bl_alloc (Below.refl wr.heap.size wr) (.cells #[.int .i64 0, .int .i64 0, .int .i64 192, .int .i64 224, .int .i64 240] 208)) nq))
        go_loop [8, 9] (fun c q => ∃ j : Nat, j + 1 ≤ k ∧ c = .int .i64 (candF s i k j) ∧ q = .int .i64 (j + 1 : Nat)) (fun _ q => 5 - (intOf q).toNat)
        case atStart => exact ⟨0, hk1, rfl, rfl⟩
        case round =>
          obtain ⟨j, hj, rfl, rfl⟩ := hrel
          have hcs := cand_small s i k j hk (by omega)
          clear hb hh hhr hbr
          by_cases hjk : j + 1 < k
          · have hb := bt_at s (i + (j + 1 : Nat))
            have hbr := bt_range s (i + (j + 1 : Nat))
            have hlt2 : i + (j + 1 : Nat) < s.size := by omega
            have hcs2 := cand_small s i k (j + 1) hk (by omega)
            have HC := Lib.hid (cand_succ s i k j)
            rw [cand_succ] at hcs2
            generalize hq : ((j + 1 : Nat) : Int) = q at *
            have hq0 : 1 ≤ q := by omega
            have hq1 : q < k := by omega
            have HQ := Lib.hid hq
            clear hq
            go_wp2
            go_round
            case rel => exact ⟨j + 1, by omega, congrArg (Value.int .i64) (HC.out).symm, congrArg (Value.int .i64) (by have := HQ.out; omega)⟩
            case measure => have := HQ.out; simp [intOf]; omega
          · obtain rfl : k = j + 1 := by omega
            have HC : Hid (candF s i (j + 1) j = cand s i (j + 1)) := Lib.hid rfl
            have HO := Lib.hid (ok_unfold (s := s) (i := i) (k := j + 1) (by omega))
            generalize hcv : candF s i (j + 1) j = c at *
            rw [← HC.out] at HO
            have HSk := Lib.hid (fun h => HS.out (j + 1) (by omega) hk H.out.1 h)
            rw [← HC.out] at HSk
            clear HC hcv
            cases hp : pointB c
            · have HF : Hid (okAt s i (j + 1) = false) := Lib.hid (by rw [HO.out, hp]; rfl)
              have hri := ris_any c
              rw [hp] at hri
              have HI := Lib.hid hri
              clear hri hp
              go_wp2_with (go_at_call 157; refine (HI.out _).mono ?_; rintro e w' ⟨rfl, rfl⟩)
              go_roundw
              case rel => exact ⟨j + 1 + 1, by omega, by omega, by go_num, Lib.hid ⟨ext_false H.out.1 HF.out, HB.out⟩⟩
              case measure => simp [intOf]; omega
            · have hri := ris_any c
              have hO := HO.out
              rw [hp, Bool.true_and] at hO
              rw [hp] at hri
              have HI := Lib.hid hri
              have hcb : 0 ≤ c ∧ c ≤ 1114111 := by simp only [pointB, decide_eq_true_eq] at hp; omega
              have HBY := Lib.hid (fun w => bytes_any c w hcb.1 hcb.2)
              have HSz : Hid ((bytesL c).length ≤ 4) := Lib.hid (by rw [bytes_len]; split; omega; split; omega; split <;> omega)
              clear hri hp hcb HO
              generalize bytesL c = l at *
              have HO := Lib.hid hO
              clear hO
              cases hl : (l.length == j + 1)
              · have hl2 : ((l.length : Int) == (j : Int) + 1) = false := by simp at hl ⊢; omega
                have HF : Hid (okAt s i (j + 1) = false) := Lib.hid (by rw [HO.out, hl]; rfl)
                clear hl
                go_wp2_with (first | (go_at_call 157; refine (HI.out _).mono ?_; rintro e w' ⟨rfl, rfl⟩) | (go_at_call 146; refine (HBY.out _).mono ?_; rintro e w' ⟨rfl, rfl⟩))
                refine wp_loop_rounds 1 ?_
                rw [rounds_succ]
                go_wp2
                go_roundw
                case rel => exact ⟨j + 1 + 1, by omega, by omega, by go_num, Lib.hid ⟨ext_false H.out.1 HF.out, (HB.out.alloc HB.out.size _)⟩⟩
                case measure => simp [intOf]; omega
              · have hl3 : l.length = j + 1 := by simpa using hl
                have hl2 : ((l.length : Int) == (j : Int) + 1) = true := by simp at hl ⊢; omega
                have HO2 : Hid (okAt s i (j + 1) = (true && atL s (i + (0 : Nat)) (l.drop 0))) := Lib.hid (by rw [HO.out, hl]; simp)
                have HL3 := Lib.hid hl3
                clear hl hl3
                go_wp2_with (first | (go_at_call 157; refine (HI.out _).mono ?_; rintro e w' ⟨rfl, rfl⟩) | (go_at_call 146; refine (HBY.out _).mono ?_; rintro e w' ⟨rfl, rfl⟩))
                clear hl2
                have HW0 : Hid ((((wr.alloc (.cells headsA 208)).drewN nq).alloc (.cells (intsA l) 3)).heap[wr.heap.size + 1]? = some (.cells (intsA l) 3 (0, 0))) := Lib.hid (by have := new_blk ((wr.alloc (.cells headsA 208)).drewN nq) (.cells (intsA l) 3); simpa only [World.heap_drewN, World.size_alloc] using this)
                go_loopw [11, 12] (fun b q W => ∃ (p : Nat) (bb : Bool), p ≤ j + 1 ∧ b = .bool bb ∧ q = .int .i64 p ∧ Hid ((okAt s i (j + 1) = (bb && atL s (i + p) (l.drop p))) ∧ W.heap[wr.heap.size + 1]? = some (.cells (intsA l) 3 (0, 0)) ∧ Below w.heap.size w W)) (fun _ q _ => 5 - (intOf q).toNat)
                case atStart => exact ⟨0, true, by omega, rfl, rfl, Lib.hid ⟨HO2.out, HW0.out, HB.out.alloc HB.out.size _⟩⟩
                case round =>
                  obtain ⟨p, bb, hp, rfl, rfl, HP⟩ := hrel
                  cases bb
                  · have HF : Hid (okAt s i (j + 1) = false) := Lib.hid HP.out.1
                    go_wp2
                    go_roundw
                    case rel => exact ⟨j + 1 + 1, by omega, by omega, by go_num, Lib.hid ⟨ext_false H.out.1 HF.out, HP.out.2.2⟩⟩
                    case measure => simp [intOf]; omega
                  · by_cases hpj : p < j + 1
                    · have hpl : p < l.length := by rw [HL3.out]; exact hpj
                      obtain ⟨x, hx⟩ : ∃ x, l[p]? = some x := ⟨l[p], List.getElem?_eq_getElem hpl⟩
                      have hcx := (cell_blk HP.out.2.1 p).trans (intsA_at hx)
                      have hbp := bt_at s (i + p)
                      have hlp : i + (p : Int) < s.size := by omega
                      have hlen : (p : Int) < l.length := by omega
                      have HD : Hid (okAt s i (j + 1) = ((x == bt s (i + p)) && atL s (i + (p + 1 : Nat)) (l.drop (p + 1)))) := Lib.hid (HP.out.1.trans ((Bool.true_and _).trans (atL_drop s i l p x hx)))
                      have hbrp := bt_range s (i + p)
                      have hpI : (p : Int) < (j : Int) + 1 := by omega
                      clear hx
                      go_upto_region 17 with (fail)
                      go_quiet (fail)
                      go_wp2
                      go_roundw
                      case rel => exact ⟨p + 1, (x == bt s (i + p)), by omega, rfl, by go_num, Lib.hid ⟨HD.out, HP.out.2.1, bl_drewN HP.out.2.2 _⟩⟩
                      case measure => simp [intOf]; omega
                    · obtain rfl : p = j + 1 := by omega
                      have hr := HSk.out (by rw [HP.out.1, List.drop_of_length_le (by rw [HL3.out]; omega)]; rfl)
                      have HR := Lib.hid hr
                      clear hr
                      go_wp2
                      go_ret2
                      rw [HR.out]
                      exact ⟨rfl, HP.out.2.2⟩
      · have hr := HN.out (fun j a b => by by_cases e : j < k; exact H.out.1 j a e; exact ok_beyond (by omega))
        have HR := Lib.hid hr
        clear hr
        go_wp2
        go_ret2
        rw [HR.out]
        exact ⟨rfl, H.out.2⟩
    · have hr := HN.out (fun j a b => H.out.1 j a (by omega))
      have HR := Lib.hid hr
      clear hr
      obtain rfl : k = 5 := by omega
      go_wp2
      go_ret2
      rw [HR.out]
      exact ⟨rfl, H.out.2⟩
end Go.Proofs.YtdlkdecigpaaaaaGreatDoor
