/- Put together: What the lexer's tables of bytes say; The glyph's calls, and the document's Is; The document's Bytes and First; The document's small calls of layer 5: digit, digits, hex, four, escape; The document's escape of layer 5; glyph.Decode: the point that bytes begin with; The lexer's hex and escape. -/
import Derived.Test.YtdlkdecigpaaaaaGreatDoorMp6
import Derived.Test.YtdlkdecigpaaaaaGreatDoorMp7
import Derived.Test.YtdlkdecigpaaaaaGreatDoorShelfQ
namespace Go.Proofs.YtdlkdecigpaaaaaGreatDoor
set_option linter.unusedVariables false
set_option linter.unusedSimpArgs false
open Go.RowKit

def hexesS : ByteArray := ⟨#[48, 49, 50, 51, 52, 53, 54, 55, 56, 57, 97, 98, 99, 100, 101, 102, 48, 49, 50, 51, 52, 53, 54, 55, 56, 57, 65, 66, 67, 68, 69, 70]⟩
def digitsS : ByteArray := ⟨#[48, 49, 50, 51, 52, 53, 54, 55, 56, 57]⟩
def blanksS : ByteArray := ⟨#[32, 9, 10, 13]⟩
def marksS : ByteArray := ⟨#[123, 125, 91, 93, 58, 44]⟩
def minusS : ByteArray := ⟨#[45, 48, 49, 50, 51, 52, 53, 54, 55, 56, 57]⟩
def expS : ByteArray := ⟨#[101, 69]⟩
def signS : ByteArray := ⟨#[43, 45]⟩
def lettS : ByteArray := ⟨#[34, 92, 47, 98, 102, 110, 114, 116]⟩
def poinS : ByteArray := ⟨#[34, 92, 47, 8, 12, 10, 13, 9]⟩
def byteS (c : Int) : ByteArray := ⟨#[c.toNat.toUInt8]⟩
def markB (c : Int) : Bool := c == 123 || (c == 125 || (c == 91 || (c == 93 || (c == 58 || c == 44))))
/-- What holds of each byte's number holds of the byte at a place. -/
theorem byte_all {p : Int → Prop} (h : ∀ n : Nat, n < 256 → p n) (s : ByteArray) (i : Int) : p (bt s i) := by
  have hb := bt_range s i
  have := h (bt s i).toNat (by omega)
  rwa [Int.toNat_of_nonneg hb.1] at this
theorem hex_tab : ∀ n : Nat, n < 256 → memB hexesS n = decide (0 ≤ hexV n) ∧ (0 ≤ hexV n → Lib.indexByte hexesS.data.toList (n : Int).toNat.toUInt8 % 16 = hexV n ∧ 0 ≤ Lib.indexByte hexesS.data.toList (n : Int).toNat.toUInt8 ∧ Lib.indexByte hexesS.data.toList (n : Int).toNat.toUInt8 ≤ 31) := by decide +kernel
theorem lett_tab : ∀ n : Nat, n < 256 → memB lettS n = decide (0 ≤ escV n) ∧ (0 ≤ escV n → bt poinS (Lib.indexByte lettS.data.toList (n : Int).toNat.toUInt8) = escV n ∧ 0 ≤ Lib.indexByte lettS.data.toList (n : Int).toNat.toUInt8 ∧ Lib.indexByte lettS.data.toList (n : Int).toNat.toUInt8 ≤ 7) := by decide +kernel
theorem dig_tab : ∀ n : Nat, n < 256 → memB digitsS n = digitB n := by decide +kernel
theorem blank_tab : ∀ n : Nat, n < 256 → memB blanksS n = ((n : Int) == 32 || ((n : Int) == 9 || ((n : Int) == 10 || (n : Int) == 13))) := by decide +kernel
theorem mark_tab : ∀ n : Nat, n < 256 → memB marksS n = markB n := by decide +kernel
theorem minus_tab : ∀ n : Nat, n < 256 → memB minusS n = ((n : Int) == 45 || digitB n) := by decide +kernel
theorem exp_tab : ∀ n : Nat, n < 256 → memB expS n = ((n : Int) == 101 || (n : Int) == 69) := by decide +kernel
theorem sign_tab : ∀ n : Nat, n < 256 → memB signS n = ((n : Int) == 43 || (n : Int) == 45) := by decide +kernel
theorem has_hex (s : ByteArray) (i : Int) : hasB s i hexesS = decide (0 ≤ hexAt s i) := by
  have h := (byte_all (p := fun c => memB hexesS c = decide (0 ≤ hexV c)) (fun n hn => (hex_tab n hn).1) s i)
  unfold hasB hexAt; rw [h]
  by_cases c : i < s.size <;> simp [c]
theorem has_lett (s : ByteArray) (i : Int) : hasB s i lettS = decide (0 ≤ escAt s i) := by
  have h := (byte_all (p := fun c => memB lettS c = decide (0 ≤ escV c)) (fun n hn => (lett_tab n hn).1) s i)
  unfold hasB escAt; rw [h]
  by_cases c : i < s.size <;> simp [c]
theorem has_dig (s : ByteArray) (i : Int) : hasB s i digitsS = digitAt s i := by
  have h := (byte_all (p := fun c => memB digitsS c = digitB c) dig_tab s i)
  unfold hasB digitAt; rw [h]
theorem has_blank (s : ByteArray) (i : Int) : hasB s i blanksS = isBlank s i := by
  have h := (byte_all (p := fun c => memB blanksS c = (c == 32 || (c == 9 || (c == 10 || c == 13)))) blank_tab s i)
  unfold hasB isBlank isAt; rw [h]
  by_cases c : i < s.size <;> simp [c]
theorem has_exp (s : ByteArray) (i : Int) : hasB s i expS = (isAt s i 101 || isAt s i 69) := by
  have h := (byte_all (p := fun c => memB expS c = (c == 101 || c == 69)) exp_tab s i)
  unfold hasB isAt; rw [h]
  by_cases c : i < s.size <;> simp [c]
theorem has_sign (s : ByteArray) (i : Int) : hasB s i signS = (isAt s i 43 || isAt s i 45) := by
  have h := (byte_all (p := fun c => memB signS c = (c == 43 || c == 45)) sign_tab s i)
  unfold hasB isAt; rw [h]
  by_cases c : i < s.size <;> simp [c]
theorem mem_one (k : UInt8) (n : Nat) (hn : n < 256) : memB ⟨#[k]⟩ n = ((n : Int) == (k.toNat : Int)) := by
  have e : (n : Int).toNat.toUInt8 = k ↔ n = k.toNat := by
    rw [Int.toNat_natCast, ← UInt8.toNat_inj, UInt8.toNat_ofNat_of_lt' (by simpa using hn)]
  rw [Bool.eq_iff_iff]
  unfold memB
  simp only [decide_eq_true_eq, beq_iff_eq]
  by_cases h : n = k.toNat
  · have h1 := e.2 h; simp [Lib.indexByte, h1, h]
  · have h1 : ¬ k = (n : Int).toNat.toUInt8 := fun x => h (e.1 x.symm)
    have h2 : ¬ (n : Int) = (k.toNat : Int) := by omega
    simp only [Lib.indexByte, beq_iff_eq, h1, h2, if_false, if_true]; simp
theorem has_byte (s : ByteArray) (i : Int) (k : UInt8) : hasB s i ⟨#[k]⟩ = isAt s i k.toNat := by
  have h := (byte_all (p := fun c => memB ⟨#[k]⟩ c = (c == (k.toNat : Int))) (mem_one k) s i)
  unfold hasB isAt; rw [h]
theorem pass_dig (s : ByteArray) (i : Int) : passEnd s i digitsS = digitsEnd s i := by
  unfold passEnd digitsEnd
  rw [show (fun j => hasB s j digitsS) = digitAt s from funext (has_dig s)]
theorem pass_blank (s : ByteArray) (i : Int) : passEnd s i blanksS = blanks s i := by
  unfold passEnd blanks
  rw [show (fun j => hasB s j blanksS) = isBlank s from funext (has_blank s)]

end Go.Proofs.YtdlkdecigpaaaaaGreatDoor
namespace Go.Proofs.YtdlkdecigpaaaaaGreatDoor
set_option linter.unusedVariables false
set_option linter.unusedSimpArgs false
open Go.RowKit

theorem pointB_of {n : Int} : (if n < 0 then false else if n < 55296 then true else if n < 57344 then false else decide (n ≤ 1114111)) = pointB n := by
  rw [Bool.eq_iff_iff]; simp only [pointB, decide_eq_true_eq]
  split
  · simp; omega
  · split
    · simp; omega
    · split
      · simp; omega
      · simp; omega
set_option maxHeartbeats 1000000 in
theorem gis_any (n : Int) (w : World) : Calls Tryz.prog 212 #[.int .i64 n] w fun e w' => e = .returned (.bool (pointB n)) ∧ w = w' := by
  have Hr : Hid (pointB n = decide (0 ≤ n ∧ n < 55296 ∨ 57343 < n ∧ n ≤ 1114111)) := Lib.hid rfl
  generalize pointB n = r at *
  go_enter Tryz.func212, Tryz.ntmps212
  go_wp2
  all_goals
    go_ret
    exact ⟨ret_bool (by rw [Hr.out, Bool.eq_iff_iff]; simp; omega), rfl⟩
set_option maxHeartbeats 1000000 in
theorem ris_any (n : Int) (w : World) : Calls Tryz.prog 157 #[.int .i64 n] w fun e w' => e = .returned (.bool (pointB n)) ∧ w = w' := by
  have Hr : Hid (pointB n = decide (0 ≤ n ∧ n < 55296 ∨ 57343 < n ∧ n ≤ 1114111)) := Lib.hid rfl
  generalize pointB n = r at *
  go_enter Tryz.func157, Tryz.ntmps157
  go_wp2
  all_goals
    go_ret
    exact ⟨ret_bool (by rw [Hr.out, Bool.eq_iff_iff]; simp; omega), rfl⟩
/-- The point of two halves; none: -1. -/
def pairV (a b : Int) : Int := if 55296 ≤ a ∧ a < 56320 ∧ 56320 ≤ b ∧ b < 57344 then 65536 + (a - 55296) * 1024 + b - 56320 else -1
set_option maxHeartbeats 1000000 in
theorem pair_any (a b : Int) (w : World) : Calls Tryz.prog 213 #[.int .i64 a, .int .i64 b] w fun e w' => e = .returned (.int .i64 (pairV a b)) ∧ w = w' := by
  have Hr : Hid (pairV a b = if 55296 ≤ a ∧ a < 56320 ∧ 56320 ≤ b ∧ b < 57344 then 65536 + (a - 55296) * 1024 + b - 56320 else -1) := Lib.hid rfl
  generalize pairV a b = r at *
  go_enter Tryz.func213, Tryz.ntmps213
  go_wp2
  all_goals
    go_ret
    exact ⟨ret_i64 (by rw [Hr.out]; first | (rw [if_neg (by omega)]; done) | (rw [if_pos (by omega)]; try unfold wrap64; omega)), rfl⟩
def encS (n : Int) : ByteArray := if pointB n then Utf8.encode n else ⟨#[]⟩
set_option maxHeartbeats 1000000 in
theorem enc_any (n : Int) (w : World) : Calls Tryz.prog 203 #[.int .i64 n] w fun e w' => e = .returned (.string (encS n)) ∧ w = w' := by
  have Hr : Hid (encS n = if pointB n then Utf8.encode n else ⟨#[]⟩) := Lib.hid rfl
  generalize encS n = r at *
  cases hp : pointB n
  · have HP := Lib.hid hp
    have h := gis_any n w
    rw [hp] at h
    have HI := Lib.hid h
    clear h hp
    go_enter Tryz.func203, Tryz.ntmps203
    go_wp2_with (go_at_call 212; refine HI.out.mono ?_; rintro e w' ⟨rfl, rfl⟩)
    go_ret
    exact ⟨ret_str (by rw [Hr.out, HP.out]; rfl), rfl⟩
  · have HP := Lib.hid hp
    have hb : 0 ≤ n ∧ n ≤ 1114111 := by simp only [pointB, decide_eq_true_eq] at hp; omega
    obtain ⟨h0, h1⟩ := hb
    have h := gis_any n w
    rw [hp] at h
    have HI := Lib.hid h
    clear h hp
    go_enter Tryz.func203, Tryz.ntmps203
    go_wp2_with (go_at_call 212; refine HI.out.mono ?_; rintro e w' ⟨rfl, rfl⟩)
    go_ret
    exact ⟨ret_str (by rw [Hr.out, HP.out]; rfl), rfl⟩
end Go.Proofs.YtdlkdecigpaaaaaGreatDoor
namespace Go.Proofs.YtdlkdecigpaaaaaGreatDoor
set_option linter.unusedVariables false
set_option linter.unusedSimpArgs false
open Go.RowKit

def intsA (l : List Int) : Array Value := (l.map (Value.int .i64)).toArray
theorem intsA_at {l : List Int} {j : Nat} {x : Int} (h : l[j]? = some x) : (intsA l)[j]? = some (.int .i64 x) := by simp [intsA, h]

set_option maxRecDepth 20000 in
set_option maxHeartbeats 1000000 in
theorem bytes_any (n : Int) (w : World) (h0 : 0 ≤ n) (h1 : n ≤ 1114111) :
    Calls Tryz.prog 146 #[.int .i64 n] w fun e w' => e = .returned (.slice (some ⟨w.heap.size, 0, none⟩) (bytesL n).length (bytesL n).length) ∧ w.alloc (.cells (intsA (bytesL n)) 3) = w' := by
  by_cases a1 : n < 128
  · have HB := Lib.hid (bytes1 a1)
    generalize bytesL n = l at *
    go_enter Tryz.func146, Tryz.ntmps146
    go_wp2
    go_ret
    rw [HB.out]
    exact ⟨rfl, rfl⟩
  · by_cases a2 : n < 2048
    · have HB := Lib.hid (bytes2 (by omega) a2)
      generalize bytesL n = l at *
      go_enter Tryz.func146, Tryz.ntmps146
      go_wp2
      go_ret
      rw [HB.out]
      exact ⟨rfl, rfl⟩
    · by_cases a3 : n < 65536
      · have HB := Lib.hid (bytes3 (by omega) a3)
        generalize bytesL n = l at *
        go_enter Tryz.func146, Tryz.ntmps146
        go_wp2
        go_ret
        rw [HB.out]
        exact ⟨rfl, rfl⟩
      · have HB := Lib.hid (bytes4 (n := n) (by omega))
        generalize bytesL n = l at *
        go_enter Tryz.func146, Tryz.ntmps146
        go_wp2
        go_ret
        rw [HB.out]
        exact ⟨rfl, rfl⟩

theorem cand_succ (s : ByteArray) (i : Int) (k j : Nat) : candF s i k (j + 1) = candF s i k j * 64 + bt s (i + (j + 1 : Nat)) - 128 := rfl
theorem headV_range (k : Nat) (hk : k ≤ 4) : 0 ≤ headV k ∧ headV k ≤ 240 := by
  match k, hk with
  | 0, _ => decide
  | 1, _ => decide
  | 2, _ => decide
  | 3, _ => decide
  | 4, _ => decide
theorem cand_range (s : ByteArray) (i : Int) (k : Nat) (hk : k ≤ 4) : ∀ j, j ≤ 3 → -(300 * 64 ^ j) + 3 ≤ candF s i k j ∧ candF s i k j ≤ 300 * 64 ^ j - 3
  | 0, _ => by
    have h := bt_range s i; have h2 := headV_range k hk
    simp only [candF]; omega
  | j + 1, hj => by
    have ih := cand_range s i k hk j (by omega)
    have h := bt_range s (i + (j + 1 : Nat))
    rw [cand_succ]
    have h1 : (1 : Int) ≤ 64 ^ j := by
      match j, hj with
      | 0, _ => decide
      | 1, _ => decide
      | 2, _ => decide
    rw [Int.pow_succ]
    omega
theorem cand_small (s : ByteArray) (i : Int) (k j : Nat) (hk : k ≤ 4) (hj : j ≤ 3) : -78643200 ≤ candF s i k j ∧ candF s i k j ≤ 78643200 := by
  have h := cand_range s i k hk j hj
  have h1 : (64 : Int) ^ j ≤ 262144 := by
    match j, hj with
    | 0, _ => decide
    | 1, _ => decide
    | 2, _ => decide
    | 3, _ => decide
  omega
theorem first_none {s : ByteArray} {i : Int} (h : ∀ j, 1 ≤ j → j ≤ 4 → okAt s i j = false) : first s i = (-1, 0) := by
  unfold first; rw [h 1 (by omega) (by omega), h 2 (by omega) (by omega), h 3 (by omega) (by omega), h 4 (by omega) (by omega)]; simp
theorem first_some {s : ByteArray} {i : Int} {k : Nat} (hk1 : 1 ≤ k) (hk : k ≤ 4) (h : ∀ j, 1 ≤ j → j < k → okAt s i j = false) (hk2 : okAt s i k = true) : first s i = (cand s i k, (k : Int)) := by
  unfold first
  match k, hk1, hk with
  | 1, _, _ => rw [hk2]; rfl
  | 2, _, _ => rw [h 1 (by omega) (by omega), hk2]; rfl
  | 3, _, _ => rw [h 1 (by omega) (by omega), h 2 (by omega) (by omega), hk2]; rfl
  | 4, _, _ => rw [h 1 (by omega) (by omega), h 2 (by omega) (by omega), h 3 (by omega) (by omega), hk2]; rfl
theorem ok_beyond {s : ByteArray} {i : Int} {k : Nat} (h : ¬ i + k ≤ s.size) : okAt s i k = false := by unfold okAt; simp [h]
theorem ok_unfold {s : ByteArray} {i : Int} {k : Nat} (h : i + k ≤ s.size) : okAt s i k = (pointB (cand s i k) && (((bytesL (cand s i k)).length == k) && atL s i (bytesL (cand s i k)))) := by unfold okAt; simp [h]
def headsA : Array Value := #[.int .i64 0, .int .i64 0, .int .i64 192, .int .i64 224, .int .i64 240]
theorem headsA_at {k : Nat} (h : k ≤ 4) : headsA[k]? = some (.int .i64 (headV k)) := by
  match k, h with
  | 0, _ => rfl
  | 1, _ => rfl
  | 2, _ => rfl
  | 3, _ => rfl
  | 4, _ => rfl

theorem ext_false {s : ByteArray} {i : Int} {k : Nat} (h : ∀ q, 1 ≤ q → q < k → okAt s i q = false) (hk : okAt s i k = false) : ∀ q, 1 ≤ q → q < k + 1 → okAt s i q = false := fun q a b => by
  by_cases e : q = k
  · rw [e]; exact hk
  · exact h q a (by omega)
theorem atL_drop (s : ByteArray) (i : Int) : ∀ (l : List Int) (j : Nat) (x : Int), l[j]? = some x → atL s (i + j) (l.drop j) = ((x == bt s (i + j)) && atL s (i + (j + 1 : Nat)) (l.drop (j + 1)))
  | [], j, x, h => by simp at h
  | a :: r, 0, x, h => by
    simp at h; subst h
    simp [atL]
  | a :: r, j + 1, x, h => by
    have := atL_drop s (i + 1) r j x (by simpa using h)
    simp only [List.drop_succ_cons]
    rw [show i + ((j + 1 : Nat) : Int) = i + 1 + j from by omega, show i + ((j + 1 + 1 : Nat) : Int) = i + 1 + (j + 1 : Nat) from by omega]
    exact this
set_option maxRecDepth 20000 in
set_option maxHeartbeats 4000000 in
theorem first_any (s : ByteArray) (i : Int) (w : World) (h0 : 0 ≤ i) (hs : s.size ≤ 4611686018427387904) (hi : i ≤ s.size) :
    Calls Tryz.prog 145 #[.string s, .int .i64 i] w fun e w' => e = .returned (.tuple #[.int .i64 (first s i).1, .int .i64 (first s i).2]) ∧ Below w.heap.size w w' := by
  have HN := Lib.hid (fun h => first_none (s := s) (i := i) h)
  have HS := Lib.hid (fun (k : Nat) hk1 hk h hk2 => first_some (s := s) (i := i) (k := k) hk1 hk h hk2)
  generalize first s i = r at *
  go_enter Tryz.func145, Tryz.ntmps145
  go_wp2
  go_loopw [6] (fun t W => ∃ k : Nat, 1 ≤ k ∧ k ≤ 5 ∧ t = .int .i64 k ∧ Hid ((∀ j, 1 ≤ j → j < k → okAt s i j = false) ∧ Below w.heap.size w W)) (fun t _ => 5 - (intOf t).toNat)
  case atStart => exact ⟨1, by omega, by omega, rfl, Lib.hid ⟨fun j h1 h2 => by omega, Below.refl _ _⟩⟩
  case round =>
    obtain ⟨k, hk1, hk5, rfl, H⟩ := hrel
    by_cases hk : k ≤ 4
    · by_cases hsz : i + k ≤ s.size
      · have hk0 : (k : Int) ≤ 4 := by omega
        have hlt : i < s.size := by omega
        have hb := bt_at s i
        have hbr := bt_range s i
        have hhr := headV_range k hk
        have hh := headsA_at hk
        unfold headsA at hh
        go_upto_region 6 with (fail)
        go_quiet (fail)
        go_wp2
        have HB := Lib.hid (bl_step H.out.2 (bl_drewN (bl_alloc (Below.refl wr.heap.size wr) (.cells #[.int .i64 0, .int .i64 0, .int .i64 192, .int .i64 224, .int .i64 240] 208)) nq))
        go_loop [8, 9] (fun c q => ∃ j : Nat, j + 1 ≤ k ∧ c = .int .i64 (candF s i k j) ∧ q = .int .i64 (j + 1 : Nat)) (fun _ q => 5 - (intOf q).toNat)
        case atStart => exact ⟨0, hk1, rfl, rfl⟩
        case round =>
          obtain ⟨j, hj, rfl, rfl⟩ := hrel
          have hcs := cand_small s i k j hk (by omega)
          clear hb hh hhr hbr
          by_cases hjk : j + 1 < k
          · have hb := bt_at s (i + (j + 1 : Nat))
            have hbr := bt_range s (i + (j + 1 : Nat))
            have hlt2 : i + (j + 1 : Nat) < s.size := by omega
            have hcs2 := cand_small s i k (j + 1) hk (by omega)
            have HC := Lib.hid (cand_succ s i k j)
            rw [cand_succ] at hcs2
            generalize hq : ((j + 1 : Nat) : Int) = q at *
            have hq0 : 1 ≤ q := by omega
            have hq1 : q < k := by omega
            have HQ := Lib.hid hq
            clear hq
            go_wp2
            go_round
            case rel => exact ⟨j + 1, by omega, congrArg (Value.int .i64) (HC.out).symm, congrArg (Value.int .i64) (by have := HQ.out; omega)⟩
            case measure => have := HQ.out; simp [intOf]; omega
          · obtain rfl : k = j + 1 := by omega
            have HC : Hid (candF s i (j + 1) j = cand s i (j + 1)) := Lib.hid rfl
            have HO := Lib.hid (ok_unfold (s := s) (i := i) (k := j + 1) (by omega))
            generalize hcv : candF s i (j + 1) j = c at *
            rw [← HC.out] at HO
            have HSk := Lib.hid (fun h => HS.out (j + 1) (by omega) hk H.out.1 h)
            rw [← HC.out] at HSk
            clear HC hcv
            cases hp : pointB c
            · have HF : Hid (okAt s i (j + 1) = false) := Lib.hid (by rw [HO.out, hp]; rfl)
              have hri := ris_any c
              rw [hp] at hri
              have HI := Lib.hid hri
              clear hri hp
              go_wp2_with (go_at_call 157; refine (HI.out _).mono ?_; rintro e w' ⟨rfl, rfl⟩)
              go_roundw
              case rel => exact ⟨j + 1 + 1, by omega, by omega, by go_num, Lib.hid ⟨ext_false H.out.1 HF.out, HB.out⟩⟩
              case measure => simp [intOf]; omega
            · have hri := ris_any c
              have hO := HO.out
              rw [hp, Bool.true_and] at hO
              rw [hp] at hri
              have HI := Lib.hid hri
              have hcb : 0 ≤ c ∧ c ≤ 1114111 := by simp only [pointB, decide_eq_true_eq] at hp; omega
              have HBY := Lib.hid (fun w => bytes_any c w hcb.1 hcb.2)
              have HSz : Hid ((bytesL c).length ≤ 4) := Lib.hid (by rw [bytes_len]; split; omega; split; omega; split <;> omega)
              clear hri hp hcb HO
              generalize bytesL c = l at *
              have HO := Lib.hid hO
              clear hO
              cases hl : (l.length == j + 1)
              · have hl2 : ((l.length : Int) == (j : Int) + 1) = false := by simp at hl ⊢; omega
                have HF : Hid (okAt s i (j + 1) = false) := Lib.hid (by rw [HO.out, hl]; rfl)
                clear hl
                go_wp2_with (first | (go_at_call 157; refine (HI.out _).mono ?_; rintro e w' ⟨rfl, rfl⟩) | (go_at_call 146; refine (HBY.out _).mono ?_; rintro e w' ⟨rfl, rfl⟩))
                refine wp_loop_rounds 1 ?_
                rw [rounds_succ]
                go_wp2
                go_roundw
                case rel => exact ⟨j + 1 + 1, by omega, by omega, by go_num, Lib.hid ⟨ext_false H.out.1 HF.out, (HB.out.alloc HB.out.size _)⟩⟩
                case measure => simp [intOf]; omega
              · have hl3 : l.length = j + 1 := by simpa using hl
                have hl2 : ((l.length : Int) == (j : Int) + 1) = true := by simp at hl ⊢; omega
                have HO2 : Hid (okAt s i (j + 1) = (true && atL s (i + (0 : Nat)) (l.drop 0))) := Lib.hid (by rw [HO.out, hl]; simp)
                have HL3 := Lib.hid hl3
                clear hl hl3
                go_wp2_with (first | (go_at_call 157; refine (HI.out _).mono ?_; rintro e w' ⟨rfl, rfl⟩) | (go_at_call 146; refine (HBY.out _).mono ?_; rintro e w' ⟨rfl, rfl⟩))
                clear hl2
                have HW0 : Hid ((((wr.alloc (.cells headsA 208)).drewN nq).alloc (.cells (intsA l) 3)).heap[wr.heap.size + 1]? = some (.cells (intsA l) 3 (0, 0))) := Lib.hid (by have := new_blk ((wr.alloc (.cells headsA 208)).drewN nq) (.cells (intsA l) 3); simpa only [World.heap_drewN, World.size_alloc] using this)
                go_loopw [11, 12] (fun b q W => ∃ (p : Nat) (bb : Bool), p ≤ j + 1 ∧ b = .bool bb ∧ q = .int .i64 p ∧ Hid ((okAt s i (j + 1) = (bb && atL s (i + p) (l.drop p))) ∧ W.heap[wr.heap.size + 1]? = some (.cells (intsA l) 3 (0, 0)) ∧ Below w.heap.size w W)) (fun _ q _ => 5 - (intOf q).toNat)
                case atStart => exact ⟨0, true, by omega, rfl, rfl, Lib.hid ⟨HO2.out, HW0.out, HB.out.alloc HB.out.size _⟩⟩
                case round =>
                  obtain ⟨p, bb, hp, rfl, rfl, HP⟩ := hrel
                  cases bb
                  · have HF : Hid (okAt s i (j + 1) = false) := Lib.hid HP.out.1
                    go_wp2
                    go_roundw
                    case rel => exact ⟨j + 1 + 1, by omega, by omega, by go_num, Lib.hid ⟨ext_false H.out.1 HF.out, HP.out.2.2⟩⟩
                    case measure => simp [intOf]; omega
                  · by_cases hpj : p < j + 1
                    · have hpl : p < l.length := by rw [HL3.out]; exact hpj
                      obtain ⟨x, hx⟩ : ∃ x, l[p]? = some x := ⟨l[p], List.getElem?_eq_getElem hpl⟩
                      have hcx := (cell_blk HP.out.2.1 p).trans (intsA_at hx)
                      have hbp := bt_at s (i + p)
                      have hlp : i + (p : Int) < s.size := by omega
                      have hlen : (p : Int) < l.length := by omega
                      have HD : Hid (okAt s i (j + 1) = ((x == bt s (i + p)) && atL s (i + (p + 1 : Nat)) (l.drop (p + 1)))) := Lib.hid (HP.out.1.trans ((Bool.true_and _).trans (atL_drop s i l p x hx)))
                      have hbrp := bt_range s (i + p)
                      have hpI : (p : Int) < (j : Int) + 1 := by omega
                      clear hx
                      go_upto_region 17 with (fail)
                      go_quiet (fail)
                      go_wp2
                      go_roundw
                      case rel => exact ⟨p + 1, (x == bt s (i + p)), by omega, rfl, by go_num, Lib.hid ⟨HD.out, HP.out.2.1, bl_drewN HP.out.2.2 _⟩⟩
                      case measure => simp [intOf]; omega
                    · obtain rfl : p = j + 1 := by omega
                      have hr := HSk.out (by rw [HP.out.1, List.drop_of_length_le (by rw [HL3.out]; omega)]; rfl)
                      have HR := Lib.hid hr
                      clear hr
                      go_wp2
                      go_ret2
                      rw [HR.out]
                      exact ⟨rfl, HP.out.2.2⟩
      · have hr := HN.out (fun j a b => by by_cases e : j < k; exact H.out.1 j a e; exact ok_beyond (by omega))
        have HR := Lib.hid hr
        clear hr
        go_wp2
        go_ret2
        rw [HR.out]
        exact ⟨rfl, H.out.2⟩
    · have hr := HN.out (fun j a b => H.out.1 j a (by omega))
      have HR := Lib.hid hr
      clear hr
      obtain rfl : k = 5 := by omega
      go_wp2
      go_ret2
      rw [HR.out]
      exact ⟨rfl, H.out.2⟩
end Go.Proofs.YtdlkdecigpaaaaaGreatDoor
namespace Go.Proofs.YtdlkdecigpaaaaaGreatDoor
set_option linter.unusedVariables false
set_option linter.unusedSimpArgs false
open Go.RowKit
set_option maxHeartbeats 400000 in
theorem is5_any (s : ByteArray) (i c : Int) (w : World) (h0 : 0 ≤ i) :
    Calls Tryz.prog 56 #[.string s, .int .i64 i, .int .u8 c] w fun e w' => e = .returned (.bool (isAt s i c)) ∧ w = w' := by
  by_cases h : i < s.size
  · have hb := bt_at s i
    have hr : isAt s i c = (bt s i == c) := by simp [isAt, h]
    rw [hr]
    go_enter Tryz.func56, Tryz.ntmps56
    go_wp2
    go_ret
    exact ⟨rfl, rfl⟩
  · have hr : isAt s i c = false := by simp [isAt]; omega
    rw [hr]
    go_enter Tryz.func56, Tryz.ntmps56
    go_wp2
    go_ret
    exact ⟨rfl, rfl⟩
set_option maxHeartbeats 400000 in
theorem digit5_any (s : ByteArray) (i : Int) (w : World) (h0 : 0 ≤ i) :
    Calls Tryz.prog 125 #[.string s, .int .i64 i] w fun e w' => e = .returned (.bool (digitAt s i)) ∧ w = w' := by
  have hb := bt_at s i
  have Hr : Hid (digitAt s i = (decide (i < s.size) && digitB (bt s i))) := Lib.hid rfl
  generalize digitAt s i = r at *
  by_cases h : i < s.size
  · go_enter Tryz.func125, Tryz.ntmps125
    go_wp2
    all_goals
      go_ret
      exact ⟨ret_bool (by rw [Hr.out, Bool.eq_iff_iff]; simp [digitB]; omega), rfl⟩
  · go_enter Tryz.func125, Tryz.ntmps125
    go_wp2
    go_ret
    exact ⟨ret_bool (by rw [Hr.out, Bool.eq_iff_iff]; simp [digitB]; omega), rfl⟩
set_option maxHeartbeats 400000 in
theorem digits5_any (s : ByteArray) (i : Int) (w : World) (h0 : 0 ≤ i) (hs : s.size ≤ 4611686018427387904) (hd : digitAt s i = true) :
    Calls Tryz.prog 147 #[.string s, .int .i64 i] w fun e w' => e = .returned (.int .i64 (digitsEnd s i)) ∧ w = w' := by
  have hdd := digit5_any s i w h0
  rw [hd] at hdd
  have HD := Lib.hid hdd
  have hl := digitAt_lt hd
  clear hdd hd
  go_enter Tryz.func147, Tryz.ntmps147
  go_wp2_with (go_at_call 125; refine HD.out.mono ?_; rintro e w' ⟨rfl, rfl⟩)
  go_loop [1] (fun t => ∃ j : Int, 0 ≤ j ∧ j ≤ s.size ∧ t = .int .i64 j ∧ Hid (digitsEnd s i = digitsEnd s j)) (fun t => s.size - (intOf t).toNat)
  case atStart => exact ⟨i, h0, by omega, rfl, Lib.hid rfl⟩
  case round =>
    obtain ⟨j, hj, hjs, rfl, H⟩ := hrel
    have h := digit5_any s j w hj
    cases hb : digitAt s j
    · rw [hb] at h
      have HH := Lib.hid h
      have HE := Lib.hid (H.out.trans (upTo_stop hb))
      clear h hb
      go_wp2_with (go_at_call 125; refine HH.out.mono ?_; rintro e w' ⟨rfl, rfl⟩)
      go_ret
      exact ⟨ret_i64 HE.out.symm, rfl⟩
    · rw [hb] at h
      have HH := Lib.hid h
      have hlt := digitAt_lt hb
      have HE := Lib.hid (H.out.trans (upTo_step hj hb hlt))
      clear h hb
      go_wp2_with (go_at_call 125; refine HH.out.mono ?_; rintro e w' ⟨rfl, rfl⟩)
      go_round
      case rel => exact ⟨j + 1, by omega, by omega, rfl, HE⟩
      case measure => simp [intOf]; omega
def smallS : ByteArray := ⟨#[48, 49, 50, 51, 52, 53, 54, 55, 56, 57, 97, 98, 99, 100, 101, 102]⟩
def greatS : ByteArray := ⟨#[48, 49, 50, 51, 52, 53, 54, 55, 56, 57, 65, 66, 67, 68, 69, 70]⟩
theorem small_bt : ∀ p : Nat, p < 16 → bt smallS p = if p < 10 then 48 + (p : Int) else 87 + p := by decide +kernel
theorem great_bt : ∀ p : Nat, p < 16 → bt greatS p = if p < 10 then 48 + (p : Int) else 55 + p := by decide +kernel
theorem hex_step {s : ByteArray} {i : Int} {p : Nat} (hp : p < 16) (H : hexAt s i = -1 ∨ (p : Int) ≤ hexAt s i) :
    (isAt s i (bt smallS p) = true ∨ isAt s i (bt greatS p) = true → hexAt s i = p) ∧ (isAt s i (bt smallS p) = false → isAt s i (bt greatS p) = false → hexAt s i = -1 ∨ ((p + 1 : Nat) : Int) ≤ hexAt s i) := by
  rw [small_bt p hp, great_bt p hp]
  have hb := bt_range s i
  unfold hexAt isAt at *
  by_cases h : i < s.size
  · simp only [h, if_true, decide_true, Bool.true_and, beq_iff_eq, beq_eq_false_iff_ne] at *
    generalize bt s i = c at *
    unfold hexV at *
    constructor
    · rintro (h1 | h1)
      · split at h1
        · rw [if_pos (by omega)]; omega
        · rw [if_neg (by omega), if_pos (by omega)]; omega
      · split at h1
        · rw [if_pos (by omega)]; omega
        · rw [if_neg (by omega), if_neg (by omega), if_pos (by omega)]; omega
    · intro h1 h2
      by_cases c1 : 48 ≤ c ∧ c ≤ 57
      · rw [if_pos c1] at H ⊢
        split at h1 <;> omega
      · rw [if_neg c1] at H ⊢
        by_cases c2 : 97 ≤ c ∧ c ≤ 102
        · rw [if_pos c2] at H ⊢
          split at h1 <;> omega
        · rw [if_neg c2] at H ⊢
          by_cases c3 : 65 ≤ c ∧ c ≤ 70
          · rw [if_pos c3] at H ⊢
            split at h2 <;> omega
          · rw [if_neg c3] at H ⊢; exact .inl rfl
  · simp [h]
set_option maxRecDepth 20000 in
set_option maxHeartbeats 1000000 in
theorem hex5_any (s : ByteArray) (i : Int) (w : World) (h0 : 0 ≤ i) :
    Calls Tryz.prog 167 #[.string s, .int .i64 i] w fun e w' => e = .returned (.int .i64 (hexAt s i)) ∧ w = w' := by
  have HR := Lib.hid (hexAt_range s i)
  go_enter Tryz.func167, Tryz.ntmps167
  go_wp2
  go_loop [7] (fun t => ∃ p : Nat, p ≤ 16 ∧ t = .int .i64 p ∧ Hid (hexAt s i = -1 ∨ (p : Int) ≤ hexAt s i)) (fun t => 16 - (intOf t).toNat)
  case atStart => exact ⟨0, by omega, rfl, Lib.hid (by have := HR.out; omega)⟩
  case round =>
    obtain ⟨p, hp, rfl, H⟩ := hrel
    by_cases hlt : p < 16
    · have hs1 := bt_nat smallS p
      have hs2 := bt_nat greatS p
      unfold smallS at hs1
      unfold greatS at hs2
      have hI : (p : Int) < 16 := by omega
      have HT := Lib.hid (hex_step hlt H.out)
      have hc1 := is5_any s i (bt smallS p) w h0
      have hc2 := is5_any s i (bt greatS p) w h0
      unfold smallS at hc1
      unfold greatS at hc2
      generalize hq1 : bt ⟨#[48, 49, 50, 51, 52, 53, 54, 55, 56, 57, 97, 98, 99, 100, 101, 102]⟩ (p : Int) = q1 at *
      generalize hq2 : bt ⟨#[48, 49, 50, 51, 52, 53, 54, 55, 56, 57, 65, 66, 67, 68, 69, 70]⟩ (p : Int) = q2 at *
      have HT2 : Hid ((isAt s i q1 = true ∨ isAt s i q2 = true → hexAt s i = p) ∧ (isAt s i q1 = false → isAt s i q2 = false → hexAt s i = -1 ∨ ((p + 1 : Nat) : Int) ≤ hexAt s i)) := by rw [← hq1, ← hq2]; exact HT
      clear HT hq1 hq2
      cases h1 : isAt s i q1
      · rw [h1] at hc1
        have HC1 := Lib.hid hc1
        cases h2 : isAt s i q2
        · rw [h2] at hc2
          have HC2 := Lib.hid hc2
          have HE := Lib.hid (HT2.out.2 h1 h2)
          clear h1 h2 hc1 hc2 HT2
          go_wp2_with fail
          refine HC1.out.mono ?_
          rintro e w' ⟨rfl, rfl⟩
          go_wp2_with fail
          refine HC2.out.mono ?_
          rintro e w' ⟨rfl, rfl⟩
          go_wp2_with fail
          go_round
          case rel => exact ⟨p + 1, by omega, by go_num, HE⟩
          case measure => simp [intOf]; omega
        · rw [h2] at hc2
          have HC2 := Lib.hid hc2
          have HE := Lib.hid (HT2.out.1 (.inr h2))
          clear h1 h2 hc1 hc2 HT2
          go_wp2_with fail
          refine HC1.out.mono ?_
          rintro e w' ⟨rfl, rfl⟩
          go_wp2_with fail
          refine HC2.out.mono ?_
          rintro e w' ⟨rfl, rfl⟩
          go_wp2_with fail
          go_ret
          exact ⟨ret_i64 HE.out.symm, rfl⟩
      · rw [h1] at hc1
        have HC1 := Lib.hid hc1
        have HE := Lib.hid (HT2.out.1 (.inl h1))
        clear h1 hc1 hc2 HT2
        go_wp2_with fail
        refine HC1.out.mono ?_
        rintro e w' ⟨rfl, rfl⟩
        go_wp2_with fail
        go_ret
        exact ⟨ret_i64 HE.out.symm, rfl⟩
    · obtain rfl : p = 16 := by omega
      have HE : Hid (hexAt s i = -1) := Lib.hid (by have h1 := HR.out; have h2 := H.out; omega)
      go_wp2_with fail
      go_ret
      exact ⟨ret_i64 HE.out.symm, rfl⟩
set_option maxRecDepth 20000 in
set_option maxHeartbeats 1000000 in
theorem four5_any (s : ByteArray) (i : Int) (w : World) (h0 : 0 ≤ i) (h1 : i ≤ 4611686018427388000) :
    Calls Tryz.prog 156 #[.string s, .int .i64 i] w fun e w' => e = .returned (.tuple #[.int .i64 (four s i).1, .int .i64 (four s i).2]) ∧ w = w' := by
  go_enter Tryz.func156, Tryz.ntmps156
  go_wp2
  go_loop [1, 6, 7] (fun a n t => ∃ (k : Nat) (m : Int), k ≤ 4 ∧ 0 ≤ m ∧ m < 16 ^ k ∧ a = .int .i64 (i + k) ∧ n = .int .i64 m ∧ t = .int .i64 k ∧ Hid (four s i = fourF s (4 - k) m (i + k))) (fun _ _ t => 4 - (intOf t).toNat)
  case atStart => exact ⟨0, 0, by omega, by omega, by omega, by simp, rfl, rfl, Lib.hid (by simp [four])⟩
  case round =>
    obtain ⟨k, m, hk, hm0, hm1, rfl, rfl, rfl, H⟩ := hrel
    have hm2 : m < 65536 := by
      have : (16 : Int) ^ k ≤ 65536 := by
        match k, hk with
        | 0, _ => decide
        | 1, _ => decide
        | 2, _ => decide
        | 3, _ => decide
        | 4, _ => decide
      omega
    have HM := Lib.hid hm1
    clear hm1
    by_cases hlt : k < 4
    · have hI : (k : Int) < 4 := by omega
      have hr := hexAt_range s (i + k)
      have hst : fourF s (4 - k) m (i + k) = if hexAt s (i + k) < 0 then (-1, i + k) else fourF s (4 - (k + 1)) (m * 16 + hexAt s (i + k)) (i + k + 1) := by
        rw [show 4 - k = (4 - (k + 1)) + 1 from by omega]; rfl
      have HS := Lib.hid (H.out.trans hst)
      have HX := Lib.hid (hex5_any s (i + k) w (by omega))
      clear hst
      generalize hexAt s (i + k) = d at *
      by_cases hd : d < 0
      · have HE := Lib.hid (HS.out.trans (if_pos hd))
        go_wp2_with (go_at_call 167; refine HX.out.mono ?_; rintro e w' ⟨rfl, rfl⟩)
        go_ret2
        rw [HE.out]
        exact ⟨rfl, rfl⟩
      · have HE := Lib.hid (HS.out.trans (if_neg hd))
        go_wp2_with (go_at_call 167; refine HX.out.mono ?_; rintro e w' ⟨rfl, rfl⟩)
        go_round
        case rel =>
          refine ⟨k + 1, m * 16 + d, by omega, by omega, ?_, ?_, rfl, by go_num, Lib.hid ?_⟩
          · have := HM.out; rw [Int.pow_succ]; omega
          · exact congrArg (Value.int .i64) (by omega)
          · rw [HE.out, show i + ((k + 1 : Nat) : Int) = i + k + 1 from by omega]
        case measure => simp [intOf]; omega
    · obtain rfl : k = 4 := by omega
      go_wp2
      go_ret2
      rw [H.out]
      exact ⟨rfl, rfl⟩
end Go.Proofs.YtdlkdecigpaaaaaGreatDoor
namespace Go.Proofs.YtdlkdecigpaaaaaGreatDoor
set_option linter.unusedVariables false
set_option linter.unusedSimpArgs false
open Go.RowKit

def lettersS : ByteArray := ⟨#[34, 92, 47, 98, 102, 110, 114, 116]⟩
def pointsS : ByteArray := ⟨#[34, 92, 47, 8, 12, 10, 13, 9]⟩
theorem letters_bt : ∀ p : Nat, p < 8 → bt lettersS p = ([34, 92, 47, 98, 102, 110, 114, 116] : List Int).getD p 0 ∧ bt pointsS p = escV (bt lettersS p) ∧ 0 ≤ bt pointsS p ∧ bt pointsS p ≤ 92 := by decide +kernel
/-- No letter among the first so many. -/
def noneBefore (c : Int) (p : Nat) : Prop := ∀ q, q < p → bt lettersS q ≠ c
theorem esc_none {c : Int} (h : noneBefore c 8) : escV c = -1 := by
  have h0 := h 0 (by omega); have h1 := h 1 (by omega); have h2 := h 2 (by omega); have h3 := h 3 (by omega)
  have h4 := h 4 (by omega); have h5 := h 5 (by omega); have h6 := h 6 (by omega); have h7 := h 7 (by omega)
  rw [(letters_bt _ (by omega)).1] at h0 h1 h2 h3 h4 h5 h6 h7
  simp only [List.getD_cons_zero, List.getD_cons_succ] at h0 h1 h2 h3 h4 h5 h6 h7
  unfold escV
  rw [if_neg (Ne.symm h0), if_neg (Ne.symm h1), if_neg (Ne.symm h2), if_neg (Ne.symm h3), if_neg (Ne.symm h4), if_neg (Ne.symm h5), if_neg (Ne.symm h6), if_neg (Ne.symm h7)]
theorem esc_step {s : ByteArray} {i : Int} {p : Nat} (hp : p < 8) :
    (isAt s (i + 1) (bt lettersS p) = true → escAt s (i + 1) = bt pointsS p ∧ 0 ≤ bt pointsS p) ∧
    (isAt s (i + 1) (bt lettersS p) = false → (i + 1 < s.size → noneBefore (bt s (i + 1)) p) → (i + 1 < s.size → noneBefore (bt s (i + 1)) (p + 1))) := by
  obtain ⟨h1, h2, h3, h4⟩ := letters_bt p hp
  constructor
  · intro h
    simp only [isAt, Bool.and_eq_true, decide_eq_true_eq, beq_iff_eq] at h
    rw [escAt, if_pos h.1, h.2, h2]
    exact ⟨rfl, by rw [← h2]; exact h3⟩
  · intro h H hlt q hq
    by_cases e : q = p
    · subst e
      simp only [isAt, hlt, decide_true, Bool.true_and, beq_eq_false_iff_ne] at h
      exact fun x => h x.symm
    · exact H hlt q (by omega)
theorem esc_end {s : ByteArray} {i : Int} (H : i + 1 < s.size → noneBefore (bt s (i + 1)) 8) : escAt s (i + 1) = -1 := by
  unfold escAt
  split
  · rename_i h; exact esc_none (H h)
  · rfl
theorem escape_def (s : ByteArray) (i : Int) : escape s i =
  if 0 ≤ escAt s (i + 1) then (escAt s (i + 1), i + 2, 0)
  else if isAt s (i + 1) 117 = false then (0, i + 1, 1)
  else if (four s (i + 2)).1 < 0 then (0, (four s (i + 2)).2, 1)
  else if pointB (four s (i + 2)).1 then ((four s (i + 2)).1, (four s (i + 2)).2, 0)
  else if (four s (i + 2)).1 < 56320 ∧ isAt s (four s (i + 2)).2 92 = true ∧ isAt s ((four s (i + 2)).2 + 1) 117 = true ∧ 56320 ≤ (four s ((four s (i + 2)).2 + 2)).1 ∧ (four s ((four s (i + 2)).2 + 2)).1 ≤ 57343 then
    (65536 + ((four s (i + 2)).1 - 55296) * 1024 + (four s ((four s (i + 2)).2 + 2)).1 - 56320, (four s ((four s (i + 2)).2 + 2)).2, 0)
  else (0, i, 3) := rfl
set_option maxRecDepth 20000 in
set_option maxHeartbeats 4000000 in
theorem escape5_any (s : ByteArray) (i : Int) (w : World) (h0 : 0 ≤ i) (hs : s.size ≤ 4611686018427387904) (hi : i < s.size) :
    Calls Tryz.prog 144 #[.string s, .int .i64 i] w fun e w' => e = .returned (.tuple #[.int .i64 (escape s i).1, .int .i64 (escape s i).2.1, .int .i64 (escape s i).2.2]) ∧ w = w' := by
  have HE := Lib.hid (escape_def s i)
  generalize escape s i = r at *
  go_enter Tryz.func144, Tryz.ntmps144
  go_wp2
  go_loop [9] (fun t => ∃ p : Nat, p ≤ 8 ∧ t = .int .i64 p ∧ Hid (i + 1 < s.size → noneBefore (bt s (i + 1)) p)) (fun t => 8 - (intOf t).toNat)
  case atStart => exact ⟨0, by omega, rfl, Lib.hid (fun _ q hq => by omega)⟩
  case round =>
    obtain ⟨p, hp, rfl, H⟩ := hrel
    by_cases hlt : p < 8
    · have hs1 := bt_nat lettersS p
      have hs2 := bt_nat pointsS p
      unfold lettersS at hs1
      unfold pointsS at hs2
      have hI : (p : Int) < 8 := by omega
      have HT := Lib.hid (esc_step (s := s) (i := i) hlt)
      have hpr := (letters_bt p hlt).2.2
      have hc1 := is5_any s (i + 1) (bt lettersS p) w (by omega)
      unfold lettersS at hc1
      unfold pointsS at hpr
      generalize hq1 : bt ⟨#[34, 92, 47, 98, 102, 110, 114, 116]⟩ (p : Int) = q1 at *
      generalize hq2 : bt ⟨#[34, 92, 47, 8, 12, 10, 13, 9]⟩ (p : Int) = q2 at *
      have HT2 : Hid ((isAt s (i + 1) q1 = true → escAt s (i + 1) = q2 ∧ 0 ≤ q2) ∧ (isAt s (i + 1) q1 = false → (i + 1 < s.size → noneBefore (bt s (i + 1)) p) → (i + 1 < s.size → noneBefore (bt s (i + 1)) (p + 1)))) := by rw [← hq1, ← hq2]; exact HT
      clear HT hq1 hq2
      cases h1 : isAt s (i + 1) q1
      · rw [h1] at hc1
        have HC1 := Lib.hid hc1
        have HN := Lib.hid (HT2.out.2 h1 H.out)
        clear h1 hc1 HT2
        go_wp2_with fail
        refine HC1.out.mono ?_
        rintro e w' ⟨rfl, rfl⟩
        go_wp2_with fail
        go_round
        case rel => exact ⟨p + 1, by omega, by go_num, HN⟩
        case measure => simp [intOf]; omega
      · rw [h1] at hc1
        have HC1 := Lib.hid hc1
        have HN := Lib.hid (HT2.out.1 h1)
        clear h1 hc1 HT2
        go_wp2_with fail
        refine HC1.out.mono ?_
        rintro e w' ⟨rfl, rfl⟩
        go_wp2_with fail
        go_ret3
        rw [HE.out, if_pos (by rw [HN.out.1]; exact HN.out.2), HN.out.1]
        exact ⟨rfl, rfl⟩
    · obtain rfl : p = 8 := by omega
      have he := esc_end H.out
      have HE2 := Lib.hid (HE.out.trans (if_neg (by rw [he]; omega)))
      clear HE he H
      have hI : ¬ ((8 : Nat) : Int) < 8 := by omega
      rw [show ((8 : Nat) : Int) = 8 from rfl]
      clear hI
      have hc := is5_any s (i + 1) 117 w (by omega)
      have HF := Lib.hid (four5_any s (i + 2) w (by omega) (by omega))
      have hfr := four_range s (i + 2)
      cases h2 : isAt s (i + 1) 117
      · rw [h2] at hc
        have HC := Lib.hid hc
        have HR := Lib.hid (HE2.out.trans (if_pos h2))
        clear hc h2 HE2
        go_wp2_with (go_at_call 56; refine HC.out.mono ?_; rintro e w' ⟨rfl, rfl⟩)
        go_ret3
        rw [HR.out]
        exact ⟨rfl, rfl⟩
      · rw [h2] at hc
        have HC := Lib.hid hc
        have HE3 := Lib.hid (HE2.out.trans (if_neg (by rw [h2]; simp)))
        clear hc h2 HE2
        generalize four s (i + 2) = f at *
        obtain ⟨n, e1⟩ := f
        simp only at hfr HE3 HF
        obtain ⟨f1, f2, f3, f4⟩ := hfr
        by_cases c3 : n < 0
        · have HR := Lib.hid (HE3.out.trans (if_pos c3))
          go_wp2_with (first | (go_at_call 56; refine HC.out.mono ?_; rintro e w' ⟨rfl, rfl⟩) | (go_at_call 156; refine HF.out.mono ?_; rintro e w' ⟨rfl, rfl⟩))
          go_ret3
          rw [HR.out]
          exact ⟨rfl, rfl⟩
        · have HE4 := Lib.hid (HE3.out.trans (if_neg c3))
          have hri := ris_any n w
          cases c4 : pointB n
          · rw [c4] at hri
            have HI := Lib.hid hri
            have HE5 := Lib.hid (HE4.out.trans (if_neg (by rw [c4]; simp)))
            clear hri c4 HE4 HE3
            have hca := is5_any s e1 92 w (by omega)
            have hcb := is5_any s (e1 + 1) 117 w (by omega)
            have HG := Lib.hid (four5_any s (e1 + 2) w (by omega) (by omega))
            have hgr := four_range s (e1 + 2)
            generalize four s (e1 + 2) = f at *
            obtain ⟨low, e2⟩ := f
            simp only at hgr HE5 HG
            obtain ⟨g1, g2, g3, g4⟩ := hgr
            by_cases d1 : n < 56320
            · cases d2 : isAt s e1 92
              · rw [d2] at hca
                have HCA := Lib.hid hca
                have HR := Lib.hid (HE5.out.trans (if_neg (by rw [d2]; simp)))
                clear hca hcb d2 HE5
                go_wp2_with fail
                refine HC.out.mono ?_; rintro e w' ⟨rfl, rfl⟩
                go_wp2_with fail
                refine HF.out.mono ?_; rintro e w' ⟨rfl, rfl⟩
                go_wp2_with fail
                refine HI.out.mono ?_; rintro e w' ⟨rfl, rfl⟩
                go_wp2_with fail
                refine HCA.out.mono ?_; rintro e w' ⟨rfl, rfl⟩
                go_wp2_with fail
                go_ret3
                rw [HR.out]
                exact ⟨rfl, rfl⟩
              · rw [d2] at hca
                have HCA := Lib.hid hca
                cases d3 : isAt s (e1 + 1) 117
                · rw [d3] at hcb
                  have HCB := Lib.hid hcb
                  have HR := Lib.hid (HE5.out.trans (if_neg (by rw [d3]; simp)))
                  clear hca hcb d2 d3 HE5
                  go_wp2_with fail
                  refine HC.out.mono ?_; rintro e w' ⟨rfl, rfl⟩
                  go_wp2_with fail
                  refine HF.out.mono ?_; rintro e w' ⟨rfl, rfl⟩
                  go_wp2_with fail
                  refine HI.out.mono ?_; rintro e w' ⟨rfl, rfl⟩
                  go_wp2_with fail
                  refine HCA.out.mono ?_; rintro e w' ⟨rfl, rfl⟩
                  go_wp2_with fail
                  refine HCB.out.mono ?_; rintro e w' ⟨rfl, rfl⟩
                  go_wp2_with fail
                  go_ret3
                  rw [HR.out]
                  exact ⟨rfl, rfl⟩
                · rw [d3] at hcb
                  have HCB := Lib.hid hcb
                  by_cases d4 : 56320 ≤ low ∧ low ≤ 57343
                  · have HR := Lib.hid (HE5.out.trans (if_pos ⟨d1, d2, d3, d4.1, d4.2⟩))
                    obtain ⟨d5, d6⟩ := d4
                    clear hca hcb d2 d3 HE5
                    go_wp2_with fail
                    refine HC.out.mono ?_; rintro e w' ⟨rfl, rfl⟩
                    go_wp2_with fail
                    refine HF.out.mono ?_; rintro e w' ⟨rfl, rfl⟩
                    go_wp2_with fail
                    refine HI.out.mono ?_; rintro e w' ⟨rfl, rfl⟩
                    go_wp2_with fail
                    refine HCA.out.mono ?_; rintro e w' ⟨rfl, rfl⟩
                    go_wp2_with fail
                    refine HCB.out.mono ?_; rintro e w' ⟨rfl, rfl⟩
                    go_wp2_with fail
                    refine HG.out.mono ?_; rintro e w' ⟨rfl, rfl⟩
                    go_wp2_with fail
                    go_ret3
                    rw [HR.out]
                    exact ⟨rfl, rfl⟩
                  · have HR := Lib.hid (HE5.out.trans (if_neg (by rintro ⟨_, _, _, x, y⟩; exact d4 ⟨x, y⟩)))
                    clear hca hcb d2 d3 HE5
                    by_cases d5 : 56320 ≤ low
                    all_goals
                      go_wp2_with fail
                      refine HC.out.mono ?_; rintro e w' ⟨rfl, rfl⟩
                      go_wp2_with fail
                      refine HF.out.mono ?_; rintro e w' ⟨rfl, rfl⟩
                      go_wp2_with fail
                      refine HI.out.mono ?_; rintro e w' ⟨rfl, rfl⟩
                      go_wp2_with fail
                      refine HCA.out.mono ?_; rintro e w' ⟨rfl, rfl⟩
                      go_wp2_with fail
                      refine HCB.out.mono ?_; rintro e w' ⟨rfl, rfl⟩
                      go_wp2_with fail
                      refine HG.out.mono ?_; rintro e w' ⟨rfl, rfl⟩
                      have d6 : 56320 ≤ low → 57343 < low := by omega
                      go_wp2_with fail
                      all_goals
                        first
                        | (exfalso; omega)
                        | (go_ret3; rw [HR.out]; exact ⟨rfl, rfl⟩)
            · have HR := Lib.hid (HE5.out.trans (if_neg (by omega)))
              clear hca hcb HE5
              go_wp2_with fail
              refine HC.out.mono ?_; rintro e w' ⟨rfl, rfl⟩
              go_wp2_with fail
              refine HF.out.mono ?_; rintro e w' ⟨rfl, rfl⟩
              go_wp2_with fail
              refine HI.out.mono ?_; rintro e w' ⟨rfl, rfl⟩
              go_wp2_with fail
              go_ret3
              rw [HR.out]
              exact ⟨rfl, rfl⟩
          · rw [c4] at hri
            have HI := Lib.hid hri
            have HR := Lib.hid (HE4.out.trans (if_pos c4))
            clear hri c4 HE4 HE3
            go_wp2_with (first | (go_at_call 56; refine HC.out.mono ?_; rintro e w' ⟨rfl, rfl⟩) | (go_at_call 156; refine HF.out.mono ?_; rintro e w' ⟨rfl, rfl⟩) | (go_at_call 157; refine HI.out.mono ?_; rintro e w' ⟨rfl, rfl⟩))
            go_ret3
            rw [HR.out]
            exact ⟨rfl, rfl⟩
end Go.Proofs.YtdlkdecigpaaaaaGreatDoor
namespace Go.Proofs.YtdlkdecigpaaaaaGreatDoor
set_option linter.unusedVariables false
set_option linter.unusedSimpArgs false
open Go.RowKit

def isRep (s : ByteArray) : Bool := Lib.hasPrefix s.data.toList [239, 191, 189]
theorem bt_getD (s : ByteArray) (j : Nat) : bt s j = ((s.data.toList.getD j 0).toNat : Int) := by
  unfold bt
  simp only [Int.toNat_natCast]
  by_cases h : j < s.size
  · rw [dif_pos h]
    have : j < s.data.toList.length := by rw [Array.length_toList]; exact h
    rw [List.getD_eq_getElem?_getD, List.getElem?_eq_getElem this]
    simp
    rfl
  · rw [dif_neg h]
    have : s.data.toList.length ≤ j := by rw [Array.length_toList]; exact Nat.le_of_not_lt h
    rw [List.getD_eq_getElem?_getD, List.getElem?_eq_none this]
    rfl
theorem isRep_iff (s : ByteArray) : isRep s = decide (3 ≤ s.size ∧ bt s 0 = 239 ∧ bt s 1 = 191 ∧ bt s 2 = 189) := by
  have e0 := bt_getD s 0
  have e1 := bt_getD s 1
  have e2 := bt_getD s 2
  simp only [Int.natCast_zero, Int.natCast_one, show ((2 : Nat) : Int) = 2 from rfl] at e0 e1 e2
  rw [e0, e1, e2]
  have hs : s.size = s.data.toList.length := by rw [Array.length_toList]; rfl
  rw [hs, isRep, Lib.hasPrefix, Bool.eq_iff_iff]
  have hb : ∀ (x : UInt8) (k : Nat), k < 256 → ((x.toNat : Int) = k ↔ x = UInt8.ofNat k) := by
    intro x k hk
    constructor
    · intro h
      apply UInt8.toNat_inj.1
      have h2 : x.toNat = k := by omega
      rw [h2]; simp; omega
    · intro h; rw [h]; simp; omega
  match s.data.toList with
  | [] => simp
  | [_] => simp
  | [_, _] => simp
  | a :: b :: c :: r =>
    simp only [List.getD_cons_zero, List.getD_cons_succ, List.length_cons, decide_eq_true_eq]
    have ha := hb a 239 (by omega)
    have hbb := hb b 191 (by omega)
    have hc := hb c 189 (by omega)
    simp only [List.isPrefixOf_cons_cons, List.isPrefixOf_nil_left, Bool.and_true, Bool.and_eq_true, beq_iff_eq]
    have h239 : (a.toNat : Int) = 239 ↔ a = 239 := ha
    have h191 : (b.toNat : Int) = 191 ↔ b = 191 := hbb
    have h189 : (c.toNat : Int) = 189 ↔ c = 189 := hc
    rw [h239, h191, h189]
    constructor
    · rintro ⟨rfl, rfl, rfl⟩; exact ⟨by omega, rfl, rfl, rfl⟩
    · rintro ⟨_, rfl, rfl, rfl⟩; exact ⟨rfl, rfl, rfl⟩
/-- How many bytes the model's decoding says, where it is a point. -/
theorem decode_len (s : ByteArray) (h : 0 < s.size) (hn : (Utf8.decode s 0).1 ≠ 65533 ∨ isRep s = true) : Lib.runeLen ((Utf8.decode s 0).1 : Int) = ((Utf8.decode s 0).2 : Int) := by
  have q0 : (s.get! 0).toNat < 256 := (s.get! 0).toNat_lt
  have q1 : (s.get! 1).toNat < 256 := (s.get! 1).toNat_lt
  have q2 : (s.get! 2).toNat < 256 := (s.get! 2).toNat_lt
  have q3 : (s.get! 3).toNat < 256 := (s.get! 3).toNat_lt
  have b0 : ((s.get! 0).toNat : Int) = bt s 0 := get_bt s 0 h
  have b1 : 1 < s.size → ((s.get! 1).toNat : Int) = bt s 1 := get_bt s 1
  have b2 : 2 < s.size → ((s.get! 2).toNat : Int) = bt s 2 := get_bt s 2
  rw [isRep_iff, decide_eq_true_eq] at hn
  rw [decode_decN] at hn ⊢
  unfold Lib.runeLen
  rw [← b0] at hn
  generalize (s.get! 0).toNat = a at *
  generalize (s.get! 1).toNat = b at *
  generalize (s.get! 2).toNat = c at *
  generalize (s.get! 3).toNat = d at *
  generalize bt s 1 = x1 at *
  generalize bt s 2 = x2 at *
  generalize s.size = n at *
  unfold decN at *
  by_cases h1 : a < 128
  · rw [if_pos h1] at hn ⊢
    simp only at hn ⊢
    rw [if_neg (by omega), if_pos (by omega)]; rfl
  · rw [if_neg h1] at hn ⊢
    by_cases h2 : a / 32 = 6 ∧ (1 < n ∧ b / 64 = 2)
    · rw [if_pos h2] at hn ⊢
      by_cases g : 128 ≤ a % 32 * 64 + b % 64
      · rw [if_pos g] at hn ⊢
        simp only at hn ⊢
        rw [if_neg (by omega), if_neg (by omega), if_pos (by omega)]; rfl
      · rw [if_neg g] at hn; simp only at hn; omega
    · rw [if_neg h2] at hn ⊢
      by_cases h3 : a / 16 = 14 ∧ (1 < n ∧ b / 64 = 2) ∧ (2 < n ∧ c / 64 = 2)
      · rw [if_pos h3] at hn ⊢
        have e1 := b1 h3.2.1.1
        have e2 := b2 h3.2.2.1
        by_cases g : 2048 ≤ a % 16 * 4096 + b % 64 * 64 + c % 64 ∧ (a % 16 * 4096 + b % 64 * 64 + c % 64 < 55296 ∨ 57344 ≤ a % 16 * 4096 + b % 64 * 64 + c % 64)
        · rw [if_pos g] at hn ⊢
          simp only at hn ⊢
          rw [if_neg (by omega), if_neg (by omega), if_neg (by omega), if_neg (by omega), if_pos (by omega)]; rfl
        · rw [if_neg g] at hn; simp only at hn; omega
      · rw [if_neg h3] at hn ⊢
        by_cases h4 : a / 8 = 30 ∧ (1 < n ∧ b / 64 = 2) ∧ (2 < n ∧ c / 64 = 2) ∧ (3 < n ∧ d / 64 = 2)
        · rw [if_pos h4] at hn ⊢
          by_cases g : 65536 ≤ a % 8 * 262144 + b % 64 * 4096 + c % 64 * 64 + d % 64 ∧ a % 8 * 262144 + b % 64 * 4096 + c % 64 * 64 + d % 64 ≤ 1114111
          · rw [if_pos g] at hn ⊢
            simp only at hn ⊢
            rw [if_neg (by omega), if_neg (by omega), if_neg (by omega), if_neg (by omega), if_neg (by omega), if_pos (by omega)]; rfl
          · rw [if_neg g] at hn; simp only at hn; omega
        · rw [if_neg h4] at hn
          simp only at hn
          exfalso
          rcases hn with hn | hn
          · exact hn rfl
          · have e1 := b1 (by omega)
            have e2 := b2 (by omega)
            omega
theorem first_bad {s : ByteArray} (h : 0 < s.size) (h1 : (Utf8.decode s 0).1 = 65533) (h2 : isRep s = false) : first s 0 = (-1, 0) := by
  rw [decode_first s h, if_pos]
  rw [isRep_iff, decide_eq_false_iff_not] at h2
  exact ⟨h1, h2⟩
theorem first_good {s : ByteArray} (h : 0 < s.size) (hn : (Utf8.decode s 0).1 ≠ 65533 ∨ isRep s = true) : first s 0 = (((Utf8.decode s 0).1 : Int), Lib.runeLen ((Utf8.decode s 0).1 : Int)) := by
  rw [decode_len s h hn, decode_first s h, if_neg]
  rw [isRep_iff, decide_eq_true_eq] at hn
  rintro ⟨h1, h2⟩
  rcases hn with hn | hn
  · exact hn h1
  · exact h2 hn
theorem first_nil {s : ByteArray} (h : s.size = 0) : first s 0 = (-1, 0) := by
  unfold first; rw [ok1, ok2, ok3, ok4, h]; simp
theorem decode_lt (s : ByteArray) : (Utf8.decode s 0).1 ≤ 1114111 := by
  have q0 : (s.get! 0).toNat < 256 := (s.get! 0).toNat_lt
  rw [decode_decN]; unfold decN
  repeat' split
  all_goals simp only; omega

set_option maxRecDepth 20000 in
set_option maxHeartbeats 1000000 in
theorem dec_any (s : ByteArray) (w : World) : Calls Tryz.prog 204 #[.string s] w fun e w' => e = .returned (.tuple #[.int .i64 (first s 0).1, .int .i64 (first s 0).2]) ∧ Below w.heap.size w w' := by
  by_cases hz : s.size = 0
  · have HR := Lib.hid (first_nil hz)
    generalize first s 0 = r at *
    have hnx := fun ty => Lib.run_next_end_at (P := Tryz.prog) (w.iter s 0) w.heap.size s 0 ty (World.iter_heap w s 0) (by omega)
    clear hz
    go_enter Tryz.func204, Tryz.ntmps204
    go_wp2
    refine wp_loop_rounds 1 ?_
    rw [rounds_succ]
    go_wp2
    go_ret2
    rw [HR.out]
    exact ⟨rfl, bl_alloc (Below.refl _ _) _⟩
  · have hpos : 0 < s.size := by omega
    have hnx := fun ty => Lib.run_next_any_at (P := Tryz.prog) (w.iter s 0) w.heap.size s 0 ty (World.iter_heap w s 0) hpos
    have hlt := decode_lt s
    have hrl := Tryz.utf8_RuneLen (Utf8.decode s 0).1
    have hhp := Tryz.strings_HasPrefix s ⟨#[239, 191, 189]⟩
    have HK : Hid (Below w.heap.size w ((w.iter s 0).iterAt w.heap.size s ((Utf8.decode s 0).2))) := Lib.hid (Lib.below_iterAt (bl_alloc (Below.refl _ _) _) (Nat.le_refl _) s _)
    have Hg := Lib.hid (fun hn => first_good hpos hn)
    have Hb := Lib.hid (fun h1 h2 => first_bad hpos h1 h2)
    have hir : isRep s = Lib.hasPrefix s.data.toList [239, 191, 189] := rfl
    have HP := Lib.hid hhp
    have HL := Lib.hid hrl
    clear hhp hrl
    generalize hd : Utf8.decode s 0 = d at *
    obtain ⟨c, L⟩ := d
    clear hd
    simp only at hlt HL
    have hlt' : (c : Int) ≤ 1114111 := by omega
    have hc0 : 0 ≤ (c : Int) := by omega
    by_cases hc : c = 65533
    · have hce : ((c : Int) == 65533) = true := by subst hc; rfl
      cases hr : isRep s
      · have HR := Lib.hid (Hb.out hc hr)
        rw [hir] at hr
        have hp2 : ∀ w, Calls Tryz.prog 131 #[.string s, .string ⟨#[239, 191, 189]⟩] w fun e w' => e = .returned (.bool false) ∧ w' = w := by
          intro w; have := HP.out w; rw [show (⟨#[239, 191, 189]⟩ : ByteArray).data.toList = [239, 191, 189] from rfl, hr] at this; exact this
        have HP2 := Lib.hid hp2
        clear hp2 hir hr Hb Hg hc
        go_enter Tryz.func204, Tryz.ntmps204
        go_wp2
        refine wp_loop_rounds 1 ?_
        rw [rounds_succ]
        go_wp2_with (first | (go_at_call 214; refine (HL.out _).mono ?_; rintro e w' ⟨rfl, rfl⟩) | (go_at_call 131; refine (HP2.out _).mono ?_; rintro e w' ⟨rfl, rfl⟩))
        go_ret2
        rw [HR.out]
        exact ⟨rfl, HK.out⟩
      · have HR := Lib.hid (Hg.out (.inr hr))
        rw [hir] at hr
        have hp2 : ∀ w, Calls Tryz.prog 131 #[.string s, .string ⟨#[239, 191, 189]⟩] w fun e w' => e = .returned (.bool true) ∧ w' = w := by
          intro w; have := HP.out w; rw [show (⟨#[239, 191, 189]⟩ : ByteArray).data.toList = [239, 191, 189] from rfl, hr] at this; exact this
        have HP2 := Lib.hid hp2
        clear hp2 hir hr Hb Hg hc
        go_enter Tryz.func204, Tryz.ntmps204
        go_wp2
        refine wp_loop_rounds 1 ?_
        rw [rounds_succ]
        go_wp2_with (first | (go_at_call 214; refine (HL.out _).mono ?_; rintro e w' ⟨rfl, rfl⟩) | (go_at_call 131; refine (HP2.out _).mono ?_; rintro e w' ⟨rfl, rfl⟩))
        go_ret2
        rw [HR.out]
        exact ⟨rfl, HK.out⟩
    · have hce : ((c : Int) == 65533) = false := by simp; omega
      have HR := Lib.hid (Hg.out (.inl hc))
      clear Hb Hg hir hc
      go_enter Tryz.func204, Tryz.ntmps204
      go_wp2
      refine wp_loop_rounds 1 ?_
      rw [rounds_succ]
      go_wp2_with (first | (go_at_call 214; refine (HL.out _).mono ?_; rintro e w' ⟨rfl, rfl⟩))
      go_ret2
      rw [HR.out]
      exact ⟨rfl, HK.out⟩
end Go.Proofs.YtdlkdecigpaaaaaGreatDoor
namespace Go.Proofs.YtdlkdecigpaaaaaGreatDoor
set_option linter.unusedVariables false
set_option linter.unusedSimpArgs false
open Go.RowKit

theorem keeps_same {g : Nat} {w w1 : World} (h : Keeps [g] w w1) {b : Nat} {o : Obj} (hb : w.heap[b]? = some o) (hn : g ≠ b) : w1.heap[b]? = some o := h.heap hb (by simpa using fun e => hn e.symm)
theorem lex_setN {s : ByteArray} {i j : Int} {g n : Nat} {w : World} (h : Lex s i g w) : Lex s j g ((w.setCell ⟨g, 1, none⟩ (.int .i64 j)).drewN n) := lex_set h
theorem keeps_setN {g n : Nat} {w w1 : World} {v : Value} (h : Keeps [g] w w1) : Keeps [g] w ((w1.setCell ⟨g, 1, none⟩ v).drewN n) := (h.set (.inl (by simp)) _).drewN _
theorem keeps0 {S : List Nat} {w w1 w2 : World} (h : Keeps S w w1) (k : Keeps [] w1 w2) : Keeps S w w2 := h.step k (by simp)
theorem keepsg {S : List Nat} {g : Nat} {w w1 w2 : World} (h : Keeps S w w1) (k : Keeps [g] w1 w2) (hg : g ∈ S) : Keeps S w w2 := h.step k (fun b hb _ => by simp at hb; exact hb ▸ hg)
theorem has_k {s : ByteArray} {i : Int} {g : Nat} {t : ByteArray} {w : World} {b : Bool} (hl : Lex s i g w) (h0 : 0 ≤ i) (hb : hasB s i t = b) :
    Calls Tryz.prog 194 #[.pointer (some ⟨g, 0, none⟩), .string t] w fun e w' => e = .returned (.bool b) ∧ Lex s i g w' ∧ Keeps [] w w' := by
  subst hb
  refine (has_any s i g t w hl h0).mono ?_
  rintro e w' ⟨rfl, n, rfl⟩
  exact ⟨rfl, hl, (Keeps.refl [] w).drewN n⟩
theorem one_kno {s : ByteArray} {i : Int} {g : Nat} {t : ByteArray} {w : World} (hl : Lex s i g w) (h0 : 0 ≤ i) (hb : hasB s i t = false) :
    Calls Tryz.prog 201 #[.pointer (some ⟨g, 0, none⟩), .string t] w fun e w' => e = .returned (.bool false) ∧ Lex s i g w' ∧ Keeps [] w w' := by
  refine (one_no s i g t w hl h0 hb).mono ?_
  rintro e w' ⟨rfl, n, rfl⟩
  exact ⟨rfl, hl, (Keeps.refl [] w).drewN n⟩
theorem one_kyes {s : ByteArray} {i : Int} {g : Nat} {t : ByteArray} {w : World} (hl : Lex s i g w) (h0 : 0 ≤ i) (hs : s.size ≤ 1000000) (hb : hasB s i t = true) :
    Calls Tryz.prog 201 #[.pointer (some ⟨g, 0, none⟩), .string t] w fun e w' => e = .returned (.bool true) ∧ Lex s (i + 1) g w' ∧ Keeps [g] w w' := by
  refine (one_yes s i g t w hl h0 (by omega) hb).mono ?_
  rintro e w' ⟨rfl, n, rfl⟩
  exact ⟨rfl, lex_setN hl, keeps_setN (Keeps.refl _ _)⟩
/-- one, whatever follows. -/
theorem one_k {s : ByteArray} {i : Int} {g : Nat} {t : ByteArray} {w : World} {b : Bool} (hl : Lex s i g w) (h0 : 0 ≤ i) (hs : s.size ≤ 1000000) (hb : hasB s i t = b) :
    Calls Tryz.prog 201 #[.pointer (some ⟨g, 0, none⟩), .string t] w fun e w' => e = .returned (.bool b) ∧ Lex s (if b then i + 1 else i) g w' ∧ Keeps [g] w w' := by
  cases b with
  | true => exact one_kyes hl h0 hs hb
  | false => exact (one_kno hl h0 hb).mono fun e w' ⟨a, b, c⟩ => ⟨a, b, c.mono (by simp)⟩
set_option maxRecDepth 20000 in
set_option maxHeartbeats 2000000 in
theorem lhex_any (s : ByteArray) (i : Int) (g : Nat) (w : World) (hl : Lex s i g w) (h0 : 0 ≤ i) (h1 : i ≤ s.size) (hs : s.size ≤ 1000000) :
    Calls Tryz.prog 211 #[.pointer (some ⟨g, 0, none⟩)] w fun e w' => e = .returned (.tuple #[.int .i64 (if 0 ≤ (four s i).1 then (four s i).1 else 0), .bool (decide (0 ≤ (four s i).1))]) ∧ Lex s (four s i).2 g w' ∧ Keeps [g] w w' := by
  have HL := Lib.hid hl
  have HR : Hid (∀ r : Int × Int, four s i = r → r.1 = -1 → (if 0 ≤ (four s i).1 then (four s i).1 else 0) = 0 ∧ decide (0 ≤ (four s i).1) = false ∧ (four s i).2 = r.2) := Lib.hid (fun r e h => by rw [e, h]; simp)
  have HS : Hid (∀ r : Int × Int, four s i = r → 0 ≤ r.1 → (if 0 ≤ (four s i).1 then (four s i).1 else 0) = r.1 ∧ decide (0 ≤ (four s i).1) = true ∧ (four s i).2 = r.2) := Lib.hid (fun r e h => by rw [e, if_pos h]; simp [h])
  generalize (if 0 ≤ (four s i).1 then (four s i).1 else 0) = R1 at *
  generalize decide (0 ≤ (four s i).1) = R2 at *
  generalize (four s i).2 = R3 at *
  clear hl
  go_enter Tryz.func211, Tryz.ntmps211
  go_wp2
  go_loopw [4, 5] (fun n k W => ∃ (p : Nat) (m j : Int), p ≤ 4 ∧ 0 ≤ m ∧ m < 16 ^ p ∧ 0 ≤ j ∧ j ≤ s.size ∧ k = .int .i64 p ∧ n = .int .i64 m ∧ Hid (four s i = fourF s (4 - p) m j ∧ Lex s j g W ∧ Keeps [g] w W)) (fun _ k _ => 4 - (intOf k).toNat)
  case atStart => exact ⟨0, 0, i, by omega, by omega, by omega, h0, h1, rfl, rfl, Lib.hid ⟨rfl, HL.out, Keeps.refl _ _⟩⟩
  case round =>
    obtain ⟨p, m, j, hp, hm0, hm1, hj0, hj1, rfl, rfl, H⟩ := hrel
    by_cases hlt : p < 4
    · have hm2 : m < 4096 := by
        have : (16 : Int) ^ p ≤ 16 ^ 3 := by
          have h3 : p = 0 ∨ p = 1 ∨ p = 2 ∨ p = 3 := by omega
          rcases h3 with rfl | rfl | rfl | rfl <;> decide
        omega
      have HM := Lib.hid hm1
      have HF : Hid (four s i = if hexAt s j < 0 then (-1, j) else fourF s (4 - (p + 1)) (m * 16 + hexAt s j) (j + 1)) := Lib.hid (by rw [H.out.1, show 4 - p = (4 - (p + 1)) + 1 from by omega]; rfl)
      clear hm1
      by_cases hx : 0 ≤ hexAt s j
      · have HH := Lib.hid (has_k (t := hexesS) (b := true) H.out.2.1 hj0 (by rw [has_hex]; simpa using hx))
        have hjl := hexAt_lt hx
        have hb := bt_at s j
        have ht := byte_all (p := fun c => 0 ≤ hexV c → Lib.indexByte hexesS.data.toList c.toNat.toUInt8 % 16 = hexV c ∧ 0 ≤ Lib.indexByte hexesS.data.toList c.toNat.toUInt8 ∧ Lib.indexByte hexesS.data.toList c.toNat.toUInt8 ≤ 31) (fun n hn => (hex_tab n hn).2) s j
        have hxe : hexAt s j = hexV (bt s j) := by unfold hexAt; rw [if_pos hjl]
        rw [← hxe] at ht
        obtain ⟨t1, t2, t3⟩ := ht hx
        have HG := Lib.hid (HF.out.trans (if_neg (by omega)))
        have hxr := hexAt_range s j
        have HI := Lib.hid (fun w => Tryz.strings_IndexByte hexesS (bt s j) w)
        generalize Lib.indexByte hexesS.data.toList (bt s j).toNat.toUInt8 = x at *
        have T2 : Hid (m * 16 + x % 16 = m * 16 + hexAt s j) := Lib.hid (by rw [t1])
        clear ht hxe t1
        generalize hexAt s j = y at *
        go_wp2_with (go_at_call 194; refine HH.out.mono ?_; rintro e w1 ⟨rfl, hl1, hk1⟩; have H1 := Lib.hid (And.intro hl1 hk1); clear hl1 hk1; have hc1 := cell_blk H1.out.1; have hf1 := frozen_blk H1.out.1)
        go_quiet ((go_at_call 75; exact Calls.quiet_of_same (HI.out _)))
        go_wp2
        go_roundw
        case rel => exact ⟨p + 1, m * 16 + y, j + 1, by omega, by omega, by have := HM.out; rw [Int.pow_succ]; omega, by omega, by omega, by go_num, by first | exact congrArg (Value.int .i64) T2.out | (rw [← T2.out]; go_num), Lib.hid ⟨HG.out, lex_setN (n := 0) H1.out.1, (keeps0 H.out.2.2 H1.out.2).drewN _ |>.set (.inl (by simp)) _⟩⟩
        case measure => simp [intOf]; omega
      · have HH := Lib.hid (has_k (t := hexesS) (b := false) H.out.2.1 hj0 (by rw [has_hex]; simpa using hx))
        have HZ := Lib.hid (HR.out _ (HF.out.trans (if_pos (by omega))) rfl)
        clear hx
        go_wp2_with (go_at_call 194; refine HH.out.mono ?_; rintro e w1 ⟨rfl, hl1, hk1⟩; have H1 := Lib.hid (And.intro hl1 hk1); clear hl1 hk1)
        go_ret2
        exact ⟨ret2 (by rw [HZ.out.1]; rfl) (by rw [HZ.out.2.1]; rfl), by rw [HZ.out.2.2]; exact H1.out.1, keeps0 H.out.2.2 H1.out.2⟩
    · obtain rfl : p = 4 := by omega
      have HZ := Lib.hid (HS.out _ H.out.1 hm0)
      go_wp2
      go_ret2
      exact ⟨ret2 (by rw [HZ.out.1]; rfl) (by rw [HZ.out.2.1]; rfl), by rw [HZ.out.2.2]; exact H.out.2.1, H.out.2.2⟩
end Go.Proofs.YtdlkdecigpaaaaaGreatDoor
