/- The document's text of a number. -/
import Derived.Test.YtlnmjpacagimnaaDoorRaw
namespace Go.Proofs.YtlnmjpacagimnaaDoor
set_option linter.unusedVariables false
set_option linter.unusedSimpArgs false
open Go.RowKit

def Dec (s : ByteArray) : Prop := digL s.data.toList
def decV (s : ByteArray) : Nat := tenL 0 s.data.toList
theorem tenL_acc (l : List UInt8) : ∀ a : Nat, tenL a l = a * 10 ^ l.length + tenL 0 l := by
  induction l with
  | nil => intro a; rw [tenL_nil, tenL_nil]; simp
  | cons c r ih =>
    intro a
    rw [tenL_cons, tenL_cons, ih (a * 10 + (c.toNat - 48)), ih (0 * 10 + (c.toNat - 48)), List.length_cons, Nat.pow_succ]
    rw [Nat.add_mul, Nat.add_mul, Nat.mul_assoc, Nat.mul_comm 10, Nat.zero_mul]; omega
theorem app_list (a b : ByteArray) : (a ++ b).data.toList = a.data.toList ++ b.data.toList := by simp [ByteArray.data_append]
theorem dig_one : ∀ d : Nat, d < 10 → (digitsS.extract d (d + 1)).data.toList = [(48 + d).toUInt8] := by decide +kernel
theorem pre_says {s : ByteArray} {d : Int} (h0 : 0 ≤ d) (h1 : d ≤ 9) (hs : Dec s) : Dec (digitsS.extract d.toNat (d + 1).toNat ++ s) ∧ (decV (digitsS.extract d.toNat (d + 1).toNat ++ s) : Int) = d * 10 ^ s.size + decV s ∧
    (digitsS.extract d.toNat (d + 1).toNat ++ s).size = s.size + 1 ∧ bt (digitsS.extract d.toNat (d + 1).toNat ++ s) 0 = 48 + d := by
  obtain ⟨n, rfl⟩ := Int.eq_ofNat_of_zero_le h0
  have hn : n < 10 := by omega
  rw [show ((n : Int) + 1).toNat = n + 1 from by omega, Int.toNat_natCast]
  have e := dig_one n hn
  have hl : (digitsS.extract n (n + 1) ++ s).data.toList = (48 + n).toUInt8 :: s.data.toList := by rw [app_list, e]; rfl
  have hc : ((48 + n).toUInt8).toNat = 48 + n := UInt8.toNat_ofNat_of_lt' (by show _ < 256; omega)
  have hz : (digitsS.extract n (n + 1) ++ s).size = s.size + 1 := by
    have := congrArg List.length hl
    rw [List.length_cons, Array.length_toList, Array.length_toList] at this
    exact this
  refine ⟨?_, ?_, hz, ?_⟩
  · unfold Dec; rw [hl]
    intro c hcm
    rcases List.mem_cons.1 hcm with rfl | hcm
    · omega
    · exact hs c hcm
  · unfold decV
    rw [hl, tenL_cons, tenL_acc, hc]
    have hsz : s.data.toList.length = s.size := by rw [Array.length_toList]; rfl
    rw [hsz]
    have : 0 * 10 + (48 + n - 48) = n := by omega
    rw [this]
    simp
  · have hb := bt_getD (digitsS.extract n (n + 1) ++ s) 0
    rw [hl] at hb
    simp only [List.getD_cons_zero, Int.natCast_zero] at hb
    rw [hb, hc]; omega
def fbF : Nat → Int
  | 0 => 9999
  | 1 => 999
  | 2 => 99
  | 3 => 9
  | _ => 0
theorem fb_step {k : Nat} {f : Int} (hk : k < 4) (h0 : 0 ≤ f) (h : f ≤ fbF k) : f / 10 ≤ fbF (k + 1) ∧ f ≤ 9999 := by
  have h4 : k = 0 ∨ k = 1 ∨ k = 2 ∨ k = 3 := by omega
  rcases h4 with rfl | rfl | rfl | rfl <;> simp only [fbF] at h ⊢ <;> omega
theorem val_step (V P f : Int) : V + P * f = (f % 10 * P + V) + P * 10 * (f / 10) := by
  have h : f = 10 * (f / 10) + f % 10 := (Int.mul_ediv_add_emod f 10).symm
  generalize f / 10 = q at *
  generalize f % 10 = r at *
  subst h
  rw [Int.mul_add, Int.mul_comm P r, Int.mul_assoc P 10 q]; omega
/-- A number's text. -/
def IsText (s : ByteArray) (z : Int) : Prop := ∃ d : ByteArray, Dec d ∧ (decV d : Int) = z.natAbs ∧ 1 ≤ d.size ∧ d.size ≤ 400 ∧ (bt d 0 = 48 → d.size = 1) ∧ s = if z < 0 then ⟨#[45]⟩ ++ d else d
def TextSays (z : Int) (w : World) (e : Ending) (w' : World) : Prop := ∃ s, e = .returned (.string s) ∧ IsText s z ∧ Below w.heap.size w w'
/-- What holds inside a figure. -/
structure FigAt (l : List Int) (i k : Nat) (f : Int) (s : ByteArray) : Prop where
  dec : Dec s
  says : (decV s : Int) + 10 ^ s.size * f = valF (l.take (i + 1))
  fb : f ≤ fbF k
  mid : i + 1 < l.length → s.size = 4 * i + k
  last : i + 1 = l.length → f = 0 → s.size ≠ 0 ∧ bt s 0 ≠ 48
theorem FigAt.pre {l : List Int} {i k : Nat} {f : Int} {s : ByteArray} (h : FigAt l i k f s) (hk : k < 4) (h0 : 0 ≤ f) (hl : i + 1 = l.length → 0 < f) : FigAt l i (k + 1) (f / 10) (digitsS.extract (f % 10).toNat (f % 10 + 1).toNat ++ s) := by
  obtain ⟨p1, p2, p3, p4⟩ := pre_says (d := f % 10) (by omega) (by omega) h.dec
  refine ⟨p1, ?_, (fb_step hk h0 h.fb).1, fun hm => by rw [p3, h.mid hm]; omega, fun hm hf => ⟨by omega, by rw [p4]; have := hl hm; omega⟩⟩
  rw [p2, p3, Int.pow_succ, ← val_step]; exact h.says
theorem FigAt.skip {l : List Int} {i k : Nat} {s : ByteArray} (h : FigAt l i k 0 s) (hk : k < 4) (hl : ¬ i + 1 < l.length) : FigAt l i (k + 1) 0 s :=
  ⟨h.dec, h.says, (fb_step hk (Int.le_refl _) h.fb).1, fun hm => absurd hm hl, h.last⟩
set_option maxRecDepth 20000 in
set_option maxHeartbeats 4000000 in
theorem text2_any (va : Value) (z : Int) (w : World) (ha : NumV w va z) (hz1 : -9223372036854775808 ≤ z) (hz2 : z ≤ 9223372036854775807) :
    Calls Tryd.prog 14 #[va] w (TextSays z w) := by
  obtain ⟨fa, l, rfl, ra, ca, xa⟩ := ha
  obtain ⟨A, cA, rfl⟩ := ra.open
  have ll := can_len (k := 5) ca (by rw [xa]; have : (10000 : Int) ^ 5 = 100000000000000000000 := by decide
                                     omega)
  have HA := Lib.hid (ra.below (bl_alloc (Below.refl _ _) (.cells #[.bool (decide (z < 0)), .slice A l.length cA] 39)))
  have HD := Lib.hid ca.1
  have HCN := Lib.hid ca.2
  have HX := Lib.hid xa
  have HW : Hid (Below w.heap.size w (w.alloc (.cells #[.bool (decide (z < 0)), .slice A l.length cA] 39))) := Lib.hid (bl_alloc (Below.refl _ _) _)
  have c1 := cell_blk (new_blk w (.cells #[.bool (decide (z < 0)), .slice A l.length cA] 39))
  clear ra ca xa hz1 hz2
  obtain ⟨p, hp⟩ : ∃ p, decide (z < 0) = p := ⟨_, rfl⟩
  rw [hp] at HA HW c1 ⊢
  have HP := Lib.hid hp
  clear hp
  by_cases hl0 : l.length = 0
  · obtain rfl : l = [] := List.eq_nil_of_length_eq_zero hl0
    have HZ : Hid (z = 0) := Lib.hid (by have := HX.out; simp [valF] at this; omega)
    clear hl0 ll
    go_enter Tryd.func14, Tryd.ntmps14
    go_wp2
    go_ret
    exact ⟨_, rfl, ⟨⟨#[48]⟩, (by intro c hc; simp at hc; subst hc; decide), by rw [HZ.out]; decide +kernel, by decide, by decide, fun _ => rfl, by rw [HZ.out]; rfl⟩, HW.out⟩
  · have hlp : 0 < l.length := by omega
    have hlb : ((l.length : Int) == 0) = false := by rw [beq_eq_false_iff_ne]; omega
    clear hl0
    go_enter Tryd.func14, Tryd.ntmps14
    go_wp2
    generalize w.alloc (.cells #[.bool p, .slice A l.length cA] 39) = W at *
    go_loop [3, 14] (fun sv t => ∃ (i : Nat) (s : ByteArray), i ≤ l.length ∧ t = .int .i64 i ∧ sv = .string s ∧ s.size ≤ 4 * i ∧ Hid (Dec s ∧ (decV s : Int) = valF (l.take i) ∧ (i < l.length → s.size = 4 * i) ∧ (i = l.length → s.size ≠ 0 ∧ bt s 0 ≠ 48))) (fun _ t => l.length - (intOf t).toNat)
    case atStart => exact ⟨0, ⟨#[]⟩, by omega, rfl, rfl, by decide, Lib.hid ⟨by intro c hc; simp at hc, by simp [decV, tenL_nil, valF], fun _ => rfl, fun h => by omega⟩⟩
    case round =>
      obtain ⟨i, s, hi, rfl, rfl, hsz, H⟩ := hrel
      by_cases hlt : i < l.length
      · obtain ⟨g, hA, hc⟩ := HA.out.cell (dgt_at hlt)
        subst hA
        have hiI : (i : Int) < l.length := by omega
        have hd := dgt_range HD.out i
        have HV := Lib.hid (valF_take hlt)
        have HLN : Hid (i + 1 = l.length → 0 < dgt l i) := Lib.hid (fun h => by
          have h2 := HCN.out
          rw [List.getLast?_eq_getElem?, show l.length - 1 = i from by omega, dgt_at hlt] at h2
          have : dgt l i ≠ 0 := fun e => h2 (by rw [e])
          omega)
        obtain ⟨hd0, hd1⟩ := hd
        have HF0 : Hid (FigAt l i 0 (dgt l i) s) := Lib.hid ⟨H.out.1, by rw [H.out.2.1, H.out.2.2.1 hlt, HV.out]; rw [show (10 : Int) ^ (4 * i) = 10000 ^ i from by rw [Int.pow_mul]; rfl], hd1, fun h => by rw [H.out.2.2.1 hlt]; rfl, fun h e => by have := HLN.out h; omega⟩
        generalize dgt l i = x at *
        go_wp2
        go_loop [3, 5, 6] (fun sv fv kv => ∃ (k : Nat) (f : Int) (s : ByteArray), k ≤ 4 ∧ kv = .int .i64 k ∧ fv = .int .i64 f ∧ sv = .string s ∧ 0 ≤ f ∧ f ≤ 9999 ∧ s.size ≤ 4 * i + k ∧ Hid (FigAt l i k f s)) (fun _ _ kv => 4 - (intOf kv).toNat)
        case atStart => exact ⟨0, x, s, by omega, rfl, rfl, rfl, hd0, hd1, by omega, HF0⟩
        case round =>
          obtain ⟨k, f, s2, hk, rfl, rfl, rfl, hf0, hf1, hs2, HF⟩ := hrel
          by_cases hk4 : k < 4
          · have hq0 : 0 ≤ f / 10 ∧ f / 10 ≤ 9999 := by omega
            have hr0 : 0 ≤ f % 10 ∧ f % 10 ≤ 9 := by omega
            obtain ⟨hq1, hq2⟩ := hq0
            obtain ⟨hr1, hr2⟩ := hr0
            by_cases hfp : 0 < f
            · have HF2 := Lib.hid (HF.out.pre hk4 hf0 (fun _ => hfp))
              have HS2 := Lib.hid ((pre_says (d := f % 10) hr1 hr2 HF.out.dec).2.2.1)
              go_wp2
              go_round
              case rel => exact ⟨k + 1, f / 10, _, by omega, by go_num, rfl, rfl, hq1, hq2, by have := HS2.out; unfold digitsS at this; omega, HF2⟩
              case measure => simp [intOf]; omega
            · obtain rfl : f = 0 := by omega
              by_cases hm : i + 1 < l.length
              · have HF2 := Lib.hid (HF.out.pre hk4 (Int.le_refl _) (fun h => by omega))
                have HS2 := Lib.hid ((pre_says (d := (0 : Int) % 10) (by decide) (by decide) HF.out.dec).2.2.1)
                have hmI : (i : Int) + 1 < l.length := by omega
                go_wp2
                go_round
                case rel => exact ⟨k + 1, 0, _, by omega, by go_num, rfl, rfl, Int.le_refl _, by omega, by have := HS2.out; unfold digitsS at this; simpa using (show _ ≤ 4 * i + (k + 1) by omega), HF2⟩
                case measure => simp [intOf]; omega
              · have HF2 := Lib.hid (HF.out.skip hk4 hm)
                have hmI : ¬ (i : Int) + 1 < l.length := by omega
                go_wp2
                go_round
                case rel => exact ⟨k + 1, 0, _, by omega, by go_num, rfl, rfl, Int.le_refl _, by omega, by omega, HF2⟩
                case measure => simp [intOf]; omega
          · obtain rfl : k = 4 := by omega
            have hfz : f = 0 := by have := HF.out.fb; simp only [fbF] at this; omega
            subst hfz
            have HR : Hid (Dec s2 ∧ (decV s2 : Int) = valF (l.take (i + 1)) ∧ (i + 1 < l.length → s2.size = 4 * (i + 1)) ∧ (i + 1 = l.length → s2.size ≠ 0 ∧ bt s2 0 ≠ 48)) := Lib.hid ⟨HF.out.dec, by have := HF.out.says; rw [Int.mul_zero, Int.add_zero] at this; exact this, fun h => by rw [HF.out.mid h]; omega, fun h => HF.out.last h rfl⟩
            go_wp2
            go_round
            case rel => exact ⟨i + 1, s2, by omega, by go_num, rfl, by omega, HR⟩
            case measure => simp [intOf]; omega
      · obtain rfl : i = l.length := by omega
        have hl := H.out.2.2.2 rfl
        have HV : Hid ((decV s : Int) = z.natAbs) := Lib.hid (by rw [H.out.2.1, List.take_length, HX.out])
        have HS := Lib.hid (And.intro H.out.1 hl)
        clear hl
        cases p with
        | true =>
          have hzn : z < 0 := by have := HP.out; simpa using this
          go_wp2
          go_ret
          exact ⟨_, rfl, ⟨s, HS.out.1, HV.out, by have := HS.out.2.1; omega, by omega, fun h => absurd h HS.out.2.2, by rw [if_pos (by omega)]⟩, HW.out⟩
        | false =>
          have hzn : ¬ z < 0 := by have := HP.out; simpa using this
          go_wp2
          go_ret
          exact ⟨_, rfl, ⟨s, HS.out.1, HV.out, by have := HS.out.2.1; omega, by omega, fun h => absurd h HS.out.2.2, by rw [if_neg (by omega)]⟩, HW.out⟩
end Go.Proofs.YtlnmjpacagimnaaDoor
