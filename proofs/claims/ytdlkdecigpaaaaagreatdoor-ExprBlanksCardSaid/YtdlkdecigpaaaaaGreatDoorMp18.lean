/- Put together: The program's Parse of layer 2; Expressions as trees, and what a text's are, by places: plain words; Trees of expressions, and what cells of memory hold one. -/
import Derived.Stop.IfaceNil
import Derived.Test.YtdlkdecigpaaaaaGreatDoorMp17
import Derived.Test.YtdlkdecigpaaaaaGreatDoorMp3
import Derived.Test.YtdlkdecigpaaaaaGreatDoorMp14
import Derived.Test.YtdlkdecigpaaaaaGreatDoorMp1
namespace Go.Proofs.YtdlkdecigpaaaaaGreatDoor
set_option linter.unusedVariables false
set_option linter.unusedSimpArgs false
open Go.RowKit

/-- What the library's variable of ranges holds is an error, or nil. -/
def VarOk (w : World) : Prop := ∃ ev, w.cell? ⟨5, 0, none⟩ = some ev ∧ (ev = .nilIface ∨ ∃ te pe, ev = .iface te pe)
theorem VarOk.keeps {S : List Nat} {w w1 : World} (h : VarOk w) (k : Keeps S w w1) (hS : ∀ b, b ∈ S → 5 < b) : VarOk w1 := by
  obtain ⟨ev, hc, he⟩ := h
  refine ⟨ev, ?_, he⟩
  have hlt := World.block_lt_of_cell? w _ hc
  rw [← hc]
  exact World.cell?_of_block (k.block _ hlt fun hm => by have := hS _ hm; simp at this)
def parseCode (s : ByteArray) : Int := if formB s then (if fitsB (numZ s) then 0 else 4) else 1
def parseVal (s : ByteArray) : Int := if fitsF s then numZ s else 0
theorem isI : Tryz.prog.isIface 122 = true := by kernel_rfl
set_option maxRecDepth 20000 in
set_option maxHeartbeats 2000000 in
theorem wparse_any (s : ByteArray) (w : World) (hs : s.size ≤ 1000000) (hv : VarOk w) :
    Calls Tryz.prog 187 #[.string s] w fun e w' => e = .returned (.tuple #[.int .i64 (parseVal s), .int .i64 (parseCode s)]) ∧ Below w.heap.size w w' := by
  have hneq := fun (u : TypeId) (x : Value) w => run_neq_iface_nil (P := Tryz.prog) w 122 isI u x
  cases hf : formB s with
  | false =>
    have H1 := Lib.hid (show parseVal s = 0 ∧ parseCode s = 1 from by simp [parseVal, parseCode, fitsF, hf])
    have HF := Lib.hid (wform_any s w hs)
    rw [hf] at HF
    clear hf hv
    go_enter Tryz.func187, Tryz.ntmps187
    go_wp2_with (go_at_call 190; refine HF.out.mono ?_; rintro e w1 ⟨rfl, hb1⟩; have HB1 := Lib.hid hb1; clear hb1)
    go_ret2
    rw [H1.out.1, H1.out.2]
    exact ⟨rfl, HB1.out⟩
  | true =>
    have HF := Lib.hid (wform_any s w hs)
    have HP := Lib.hid (parse_num hf)
    cases hz : fitsB (numZ s) with
    | true =>
      have H1 := Lib.hid (show parseVal s = numZ s ∧ parseCode s = 0 from by simp [parseVal, parseCode, fitsF, hf, hz])
      rw [hf] at HF
      have hpz := HP.out
      rw [hz, if_pos rfl] at hpz
      have HPI := Lib.hid (fun w => Tryz.strconv_ParseInt_10_at64_ok s (by omega) _ hpz w)
      clear hf hv HP hz hpz
      generalize numZ s = z at *
      go_enter Tryz.func187, Tryz.ntmps187
      go_wp2_with (go_at_call 190; refine HF.out.mono ?_; rintro e w1 ⟨rfl, hb1⟩; have HB1 := Lib.hid hb1; clear hb1)
      refine (HPI.out _).mono ?_
      rintro e w2 ⟨rfl, hw2⟩
      have HB2 : Hid (Below w.heap.size w w2) := Lib.hid (by
        rcases hw2 with rfl | ⟨t, rfl⟩
        · exact HB1.out
        · unfold Lib.bytesWorld; exact Lib.below_freeze (bl_alloc (bl_drew HB1.out) _) HB1.out.size _)
      clear hw2
      go_wp2
      go_ret2
      rw [H1.out.1, H1.out.2]
      exact ⟨rfl, HB2.out⟩
    | false =>
      have H1 := Lib.hid (show parseVal s = 0 ∧ parseCode s = 4 from by simp [parseVal, parseCode, fitsF, hf, hz])
      rw [hf] at HF
      have hpz := HP.out
      rw [hz, if_neg (by simp)] at hpz
      have HPI := Lib.hid (fun w ev hc he => Tryz.strconv_ParseInt_10_at64_range s (by omega) hpz ev w hc he)
      have HV := Lib.hid hv
      clear hf hv HP hz hpz
      go_enter Tryz.func187, Tryz.ntmps187
      go_wp2_with (go_at_call 190; refine HF.out.mono ?_; rintro e w1 ⟨rfl, hb1⟩; have HB1 := Lib.hid hb1; clear hb1)
      have hv1 := HV.out.keeps (Keeps.below (S := []) HB1.out) (by simp)
      obtain ⟨ev, hc, he⟩ := hv1
      refine (HPI.out _ ev hc he).mono ?_
      clear hc he
      rintro e w2 ⟨N, rfl, _, _, hb2⟩
      have HB2 := Lib.hid (bl_step HB1.out hb2)
      clear hb2
      go_wp2
      go_ret2
      rw [H1.out.1, H1.out.2]
      exact ⟨rfl, HB2.out⟩
end Go.Proofs.YtdlkdecigpaaaaaGreatDoor
namespace Go.Proofs.YtdlkdecigpaaaaaGreatDoor
set_option linter.unusedVariables false
set_option linter.unusedSimpArgs false
open Go.RowKit

/-- A tree: what is done, a name, a literal, its parts. -/
inductive XT where
  | mk (op nm : ByteArray) (lit : VT) (args : List XT)
def XT.op : XT → ByteArray | .mk o _ _ _ => o
def XT.nm : XT → ByteArray | .mk _ n _ _ => n
def XT.lit : XT → VT | .mk _ _ v _ => v
def XT.args : XT → List XT | .mk _ _ _ l => l
abbrev eS : ByteArray := ⟨#[]⟩
def XT.zero : XT := .mk eS eS VT.zero []
/-- A tree and the place behind it; or an error's place and its kind. -/
inductive Res where
  | ok (T : XT) (p : Int)
  | err (p c : Int)
abbrev orS : ByteArray := ⟨#[111, 114]⟩
abbrev andS : ByteArray := ⟨#[97, 110, 100]⟩
abbrev notS : ByteArray := ⟨#[110, 111, 116]⟩
abbrev negS : ByteArray := ⟨#[110, 101, 103]⟩
abbrev getS : ByteArray := ⟨#[103, 101, 116]⟩
abbrev atS : ByteArray := ⟨#[97, 116]⟩
abbrev litS : ByteArray := ⟨#[108, 105, 116]⟩
abbrev varS : ByteArray := ⟨#[118, 97, 114]⟩
abbrev thisS : ByteArray := ⟨#[116, 104, 105, 115]⟩
abbrev trueS : ByteArray := ⟨#[116, 114, 117, 101]⟩
abbrev falseS : ByteArray := ⟨#[102, 97, 108, 115, 101]⟩
abbrev nullS : ByteArray := ⟨#[110, 117, 108, 108]⟩
abbrev lenS : ByteArray := ⟨#[108, 101, 110]⟩
abbrev sumS : ByteArray := ⟨#[115, 117, 109]⟩
abbrev minS : ByteArray := ⟨#[109, 105, 110]⟩
abbrev maxS : ByteArray := ⟨#[109, 97, 120]⟩
abbrev allS : ByteArray := ⟨#[97, 108, 108]⟩
abbrev anyS : ByteArray := ⟨#[97, 110, 121]⟩
abbrev keysS : ByteArray := ⟨#[107, 101, 121, 115]⟩
abbrev hasS : ByteArray := ⟨#[104, 97, 115]⟩
abbrev countS : ByteArray := ⟨#[99, 111, 117, 110, 116]⟩
abbrev startsS : ByteArray := ⟨#[115, 116, 97, 114, 116, 115]⟩
abbrev endsS : ByteArray := ⟨#[101, 110, 100, 115]⟩
abbrev joinS : ByteArray := ⟨#[106, 111, 105, 110]⟩
def oneL : List ByteArray := [lenS, sumS, minS, maxS, allS, anyS, keysS]
def twoL : List ByteArray := [hasS, countS, startsS, endsS, joinS]
def resL : List ByteArray := [orS, andS, notS, trueS, falseS, nullS, thisS]
def memL (w : ByteArray) (l : List ByteArray) : Bool := l.any fun t => decide (w = t)
theorem memL_iff {w : ByteArray} {l : List ByteArray} : memL w l = true ↔ w ∈ l := by simp [memL]
/-- How many a call of a name has; 0: it is none's. -/
def argsN (w : ByteArray) : Nat := if memL w oneL then 1 else if memL w twoL then 2 else 0
def resB (w : ByteArray) : Bool := memL w resL || decide (0 < argsN w)
/-- The place behind a sign that stands behind a place and blanks; below 0: it doesn't. -/
def markAt (s : ByteArray) (i : Int) (t : ByteArray) : Int :=
  if blanks s i + t.size ≤ s.size ∧ s.extract (blanks s i).toNat ((blanks s i).toNat + t.size) = t then blanks s i + t.size else -1
/-- The signs of a level. -/
def signsL : Nat → List ByteArray
  | 0 => [orS]
  | 1 => [andS]
  | 3 => [⟨#[61, 61]⟩, ⟨#[33, 61]⟩, ⟨#[60, 61]⟩, ⟨#[62, 61]⟩, ⟨#[60]⟩, ⟨#[62]⟩]
  | 4 => [⟨#[43]⟩, ⟨#[45]⟩]
  | 5 => [⟨#[42]⟩, ⟨#[47]⟩, ⟨#[37]⟩]
  | _ => []
def firstMark (s : ByteArray) (i : Int) : List ByteArray → Option (ByteArray × Int)
  | [] => none
  | t :: l => if 0 ≤ markAt s i t then some (t, markAt s i t) else firstMark s i l
/-- What stands between expressions on a level, and the place behind it. -/
def betw (s : ByteArray) (i : Int) (n : Nat) : Option (ByteArray × Int) :=
  if n = 0 then (if wordAt s i = orS then some (orS, wordAtEnd s i) else none)
  else if n = 1 then (if wordAt s i = andS then some (andS, wordAtEnd s i) else none)
  else firstMark s i (signsL n)
def binT (op : ByteArray) (T U : XT) : XT := .mk op eS VT.zero [T, U]
def unT (op : ByteArray) (T : XT) : XT := .mk op eS VT.zero [T]
def Res.up (op : ByteArray) : Res → Res
  | .ok T p => .ok (unT op T) p
  | .err p c => .err p c
def litT (v : VT) : XT := .mk litS eS v []
def nrV (n : Int) : VT := .mk 2 false n eS [] []
def boolV (b : Bool) : VT := .mk 1 b 0 eS [] []
def textV (t : ByteArray) : VT := .mk 3 false 0 t [] []
/-- An int that begins at a place. -/
def numR (s : ByteArray) (q : Int) : Res :=
  if bt s q = 48 ∧ q + 1 < digitsEnd s q then .err (q + 1) 1
  else if parseCode (cutS s q (digitsEnd s q)) ≠ 0 then .err q (parseCode (cutS s q (digitsEnd s q)))
  else if goesAt s (digitsEnd s q) = true then .err (digitsEnd s q) 1
  else .ok (litT (nrV (parseVal (cutS s q (digitsEnd s q))))) (digitsEnd s q)
/-- A text that begins at a place. -/
def textR (s : ByteArray) (q : Int) : Res :=
  if (strF s q).2.2 = 0 then .ok (litT (textV (strF s q).1.text)) (strF s q).1.stop else .err (strF s q).2.1 (strF s q).2.2
/-- A word that is no call's. -/
def wordR (s : ByteArray) (i : Int) : Res :=
  if wordAt s i = trueS then .ok (litT (boolV true)) (wordAtEnd s i)
  else if wordAt s i = falseS then .ok (litT (boolV false)) (wordAtEnd s i)
  else if wordAt s i = nullS then .ok (litT VT.zero) (wordAtEnd s i)
  else if wordAt s i = thisS then .ok (.mk thisS eS VT.zero []) (wordAtEnd s i)
  else if wordAt s i = eS ∨ memL (wordAt s i) resL = true then .err (blanks s i) 1
  else .ok (.mk varS (wordAt s i) VT.zero []) (wordAtEnd s i)
/-- What is looked for: a level's expression; what goes on on a level; one with what is taken of it; what is taken; one; a call's parts. -/
inductive G where
  | lev (n : Nat)
  | more (n : Nat) (T : XT)
  | part
  | parts (T : XT)
  | one
  | call (w : ByteArray) (l : List XT)
def lv (n : Nat) : Prop := n = 0 ∨ n = 1 ∨ n = 3 ∨ n = 4 ∨ n = 5
inductive Par (s : ByteArray) : G → Int → Res → Prop where
  | lev_err {n i p c} : lv n → Par s (.lev (n + 1)) i (.err p c) → Par s (.lev n) i (.err p c)
  | lev_ok {n i T p r} : lv n → Par s (.lev (n + 1)) i (.ok T p) → Par s (.more n T) p r → Par s (.lev n) i r
  | not_on {i r} : wordAt s i = notS → Par s (.lev 2) (wordAtEnd s i) r → Par s (.lev 2) i (r.up notS)
  | not_no {i r} : wordAt s i ≠ notS → Par s (.lev 3) i r → Par s (.lev 2) i r
  | neg_on {i r} : 0 ≤ markAt s i ⟨#[45]⟩ → Par s (.lev 6) (markAt s i ⟨#[45]⟩) r → Par s (.lev 6) i (r.up negS)
  | neg_no {i r} : markAt s i ⟨#[45]⟩ < 0 → Par s .part i r → Par s (.lev 6) i r
  | more_end {n T i} : betw s i n = none → Par s (.more n T) i (.ok T i)
  | more_err {n T i op e p c} : betw s i n = some (op, e) → Par s (.lev (n + 1)) e (.err p c) → Par s (.more n T) i (.err p c)
  | more_one {T i op e U p} : betw s i 3 = some (op, e) → Par s (.lev 4) e (.ok U p) → Par s (.more 3 T) i (.ok (binT op T U) p)
  | more_on {n T i op e U p r} : n ≠ 3 → betw s i n = some (op, e) → Par s (.lev (n + 1)) e (.ok U p) → Par s (.more n (binT op T U)) p r → Par s (.more n T) i r
  | part_err {i p c} : Par s .one i (.err p c) → Par s .part i (.err p c)
  | part_ok {i T p r} : Par s .one i (.ok T p) → Par s (.parts T) p r → Par s .part i r
  | parts_end {T i} : markAt s i ⟨#[46]⟩ < 0 → markAt s i ⟨#[91]⟩ < 0 → Par s (.parts T) i (.ok T i)
  | get_word {T i r} : 0 ≤ markAt s i ⟨#[46]⟩ → wordAt s (markAt s i ⟨#[46]⟩) ≠ eS → Par s (.parts (.mk getS (wordAt s (markAt s i ⟨#[46]⟩)) VT.zero [T])) (wordAtEnd s (markAt s i ⟨#[46]⟩)) r → Par s (.parts T) i r
  | get_form {T i} : 0 ≤ markAt s i ⟨#[46]⟩ → wordAt s (markAt s i ⟨#[46]⟩) = eS → isAt s (blanks s (markAt s i ⟨#[46]⟩)) 34 = false → Par s (.parts T) i (.err (blanks s (markAt s i ⟨#[46]⟩)) 1)
  | get_err {T i q} : 0 ≤ markAt s i ⟨#[46]⟩ → wordAt s (markAt s i ⟨#[46]⟩) = eS → q = blanks s (markAt s i ⟨#[46]⟩) → isAt s q 34 = true → (strF s q).2.2 ≠ 0 → Par s (.parts T) i (.err (strF s q).2.1 (strF s q).2.2)
  | get_text {T i q r} : 0 ≤ markAt s i ⟨#[46]⟩ → wordAt s (markAt s i ⟨#[46]⟩) = eS → q = blanks s (markAt s i ⟨#[46]⟩) → isAt s q 34 = true → (strF s q).2.2 = 0 → Par s (.parts (.mk getS (strF s q).1.text VT.zero [T])) (strF s q).1.stop r → Par s (.parts T) i r
  | at_err {T i p c} : markAt s i ⟨#[46]⟩ < 0 → 0 ≤ markAt s i ⟨#[91]⟩ → Par s (.lev 0) (markAt s i ⟨#[91]⟩) (.err p c) → Par s (.parts T) i (.err p c)
  | at_form {T i U p} : markAt s i ⟨#[46]⟩ < 0 → 0 ≤ markAt s i ⟨#[91]⟩ → Par s (.lev 0) (markAt s i ⟨#[91]⟩) (.ok U p) → markAt s p ⟨#[93]⟩ < 0 → Par s (.parts T) i (.err (blanks s p) 1)
  | at_on {T i U p r} : markAt s i ⟨#[46]⟩ < 0 → 0 ≤ markAt s i ⟨#[91]⟩ → Par s (.lev 0) (markAt s i ⟨#[91]⟩) (.ok U p) → 0 ≤ markAt s p ⟨#[93]⟩ → Par s (.parts (binT atS T U)) (markAt s p ⟨#[93]⟩) r → Par s (.parts T) i r
  | one_num {i} : digitAt s (blanks s i) = true → Par s .one i (numR s (blanks s i))
  | one_text {i} : isAt s (blanks s i) 34 = true → Par s .one i (textR s (blanks s i))
  | one_err {i p c} : 0 ≤ markAt s i ⟨#[40]⟩ → Par s (.lev 0) (markAt s i ⟨#[40]⟩) (.err p c) → Par s .one i (.err p c)
  | one_form {i T p} : 0 ≤ markAt s i ⟨#[40]⟩ → Par s (.lev 0) (markAt s i ⟨#[40]⟩) (.ok T p) → markAt s p ⟨#[41]⟩ < 0 → Par s .one i (.err (blanks s p) 1)
  | one_in {i T p} : 0 ≤ markAt s i ⟨#[40]⟩ → Par s (.lev 0) (markAt s i ⟨#[40]⟩) (.ok T p) → 0 ≤ markAt s p ⟨#[41]⟩ → Par s .one i (.ok T (markAt s p ⟨#[41]⟩))
  | one_word {i} : digitAt s (blanks s i) = false → isAt s (blanks s i) 34 = false → markAt s i ⟨#[40]⟩ < 0 → argsN (wordAt s i) = 0 → Par s .one i (wordR s i)
  | one_open {i} : 0 < argsN (wordAt s i) → markAt s (wordAtEnd s i) ⟨#[40]⟩ < 0 → Par s .one i (.err (blanks s (wordAtEnd s i)) 1)
  | one_call {i r} : 0 < argsN (wordAt s i) → 0 ≤ markAt s (wordAtEnd s i) ⟨#[40]⟩ → Par s (.call (wordAt s i) []) (markAt s (wordAtEnd s i) ⟨#[40]⟩) r → Par s .one i r
  | call_err {w l i p c} : Par s (.lev 0) i (.err p c) → Par s (.call w l) i (.err p c)
  | call_few {w l i U p} : Par s (.lev 0) i (.ok U p) → 0 ≤ markAt s p ⟨#[41]⟩ → l.length + 1 < argsN w → Par s (.call w l) i (.err (blanks s p) 12)
  | call_end {w l i U p} : Par s (.lev 0) i (.ok U p) → 0 ≤ markAt s p ⟨#[41]⟩ → argsN w ≤ l.length + 1 → Par s (.call w l) i (.ok (.mk w eS VT.zero (l ++ [U])) (markAt s p ⟨#[41]⟩))
  | call_form {w l i U p} : Par s (.lev 0) i (.ok U p) → markAt s p ⟨#[41]⟩ < 0 → markAt s p ⟨#[44]⟩ < 0 → Par s (.call w l) i (.err (blanks s p) 1)
  | call_many {w l i U p} : Par s (.lev 0) i (.ok U p) → markAt s p ⟨#[41]⟩ < 0 → 0 ≤ markAt s p ⟨#[44]⟩ → l.length + 1 = argsN w → Par s (.call w l) i (.err (blanks s p) 12)
  | call_on {w l i U p r} : Par s (.lev 0) i (.ok U p) → markAt s p ⟨#[41]⟩ < 0 → 0 ≤ markAt s p ⟨#[44]⟩ → l.length + 1 ≠ argsN w → Par s (.call w (l ++ [U])) (markAt s p ⟨#[44]⟩) r → Par s (.call w l) i r
end Go.Proofs.YtdlkdecigpaaaaaGreatDoor
namespace Go.Proofs.YtdlkdecigpaaaaaGreatDoor
set_option linter.unusedVariables false
set_option linter.unusedSimpArgs false
open Go.RowKit

def XT.head (T : XT) (vi vk va : Value) : List Value := [.string T.op, .string T.nm, .int .i64 T.lit.k, .bool T.lit.b, .int .i64 T.lit.n, .string T.lit.s, vi, vk, va]
/-- It, as a value of its nine cells. -/
abbrev XT.agg (T : XT) (vi vk va : Value) : Value := .agg #[.string T.op, .string T.nm, .int .i64 T.lit.k, .bool T.lit.b, .int .i64 T.lit.n, .string T.lit.s, vi, vk, va]
/-- Cells hold a tree's literal's rows and its parts: it is no deeper than so much. -/
def XT.RepN (w : World) (S : Nat → Prop) : Nat → XT → Value → Value → Value → Prop
  | 0, _, _, _, _ => False
  | d + 1, T, vi, vk, va => T.lit.Rep w S vi vk ∧ ∃ cs, Sl w S 9 va T.args.length cs ∧ Rows (fun U x => ∃ vi vk va, x = XT.head U vi vk va ∧ XT.RepN w S d U vi vk va) T.args cs
def XT.Rep (w : World) (S : Nat → Prop) (T : XT) (vi vk va : Value) : Prop := ∃ d, XT.RepN w S d T vi vk va
/-- Nine cells hold a tree. -/
def XT.Nine (w : World) (S : Nat → Prop) (T : XT) (x : List Value) : Prop := ∃ vi vk va, x = T.head vi vk va ∧ T.Rep w S vi vk va
theorem nine_len {w : World} {S : Nat → Prop} (T : XT) (x : List Value) (h : T.Nine w S x) : x.length = 9 := by obtain ⟨_, _, _, rfl, _⟩ := h; rfl
section
variable {S S' : Nat → Prop} {w w' : World}
theorem xrepN_up : ∀ {d e : Nat} {T : XT} {vi vk va : Value}, d ≤ e → XT.RepN w S d T vi vk va → XT.RepN w S e T vi vk va
  | 0, _, _, _, _, _, _, h => h.elim
  | d + 1, 0, _, _, _, _, he, _ => by omega
  | d + 1, e + 1, _, _, _, _, he, ⟨h0, cs, h1, h2⟩ => ⟨h0, cs, h1, h2.mono fun _ _ ⟨vi, vk, va, k1, k2⟩ => ⟨vi, vk, va, k1, xrepN_up (by omega) k2⟩⟩
theorem xrows_depth : ∀ {l : List XT} {cs : List Value}, Rows (XT.Nine w S) l cs → ∃ d, Rows (fun U x => ∃ vi vk va, x = XT.head U vi vk va ∧ XT.RepN w S d U vi vk va) l cs
  | [], _, h => ⟨0, h⟩
  | _ :: _, _, ⟨x, r, h1, ⟨vi, vk, va, h2, d, h3⟩, h4⟩ => by
    obtain ⟨e, h5⟩ := xrows_depth h4
    exact ⟨max d e, x, r, h1, ⟨vi, vk, va, h2, xrepN_up (Nat.le_max_left _ _) h3⟩, h5.mono fun _ _ ⟨vi, vk, va, k1, k2⟩ => ⟨vi, vk, va, k1, xrepN_up (Nat.le_max_right _ _) k2⟩⟩
theorem xrep_iff {T : XT} {vi vk va : Value} : T.Rep w S vi vk va ↔ T.lit.Rep w S vi vk ∧ ∃ cs, Sl w S 9 va T.args.length cs ∧ Rows (XT.Nine w S) T.args cs := by
  constructor
  · rintro ⟨d, h⟩
    cases d with
    | zero => exact h.elim
    | succ d =>
      obtain ⟨h0, cs, h1, h2⟩ := h
      exact ⟨h0, cs, h1, h2.mono fun _ _ ⟨vi, vk, va, k1, k2⟩ => ⟨vi, vk, va, k1, d, k2⟩⟩
  · rintro ⟨h0, cs, h1, h2⟩
    obtain ⟨d, h4⟩ := xrows_depth h2
    exact ⟨d + 1, h0, cs, h1, h4⟩
theorem xrepN_go (k : Kc S w w') (j : ∀ g x t fr, S g → w'.heap[g]? = some (.cells x t fr) → S' g) : ∀ {d : Nat} {T : XT} {vi vk va : Value}, XT.RepN w S d T vi vk va → XT.RepN w' S' d T vi vk va
  | 0, _, _, _, _, h => h
  | d + 1, _, _, _, _, ⟨h0, cs, h1, h2⟩ => ⟨h0.go k j, cs, (h1.keep k).into j, h2.mono fun _ _ ⟨vi, vk, va, k1, k2⟩ => ⟨vi, vk, va, k1, xrepN_go k j k2⟩⟩
theorem XT.Rep.go (k : Kc S w w') (j : ∀ g x t fr, S g → w'.heap[g]? = some (.cells x t fr) → S' g) {T : XT} {vi vk va : Value} (h : T.Rep w S vi vk va) : T.Rep w' S' vi vk va := by
  obtain ⟨d, h⟩ := h; exact ⟨d, xrepN_go k j h⟩
theorem XT.Rep.keep {T : XT} {vi vk va : Value} (h : T.Rep w S vi vk va) (k : Kc S w w') : T.Rep w' S vi vk va := h.go k fun _ _ _ _ h _ => h
theorem XT.Rep.mono {T : XT} {vi vk va : Value} (h : T.Rep w S vi vk va) (k : ∀ g, S g → S' g) : T.Rep w S' vi vk va := h.go (Kc.refl _ _) fun g _ _ _ h _ => k g h
theorem XT.Rep.into {T : XT} {vi vk va : Value} (h : T.Rep w S vi vk va) (k : ∀ g x t fr, S g → w.heap[g]? = some (.cells x t fr) → S' g) : T.Rep w S' vi vk va := h.go (Kc.refl _ _) k
theorem XT.Nine.go (k : Kc S w w') (j : ∀ g x t fr, S g → w'.heap[g]? = some (.cells x t fr) → S' g) {T : XT} {x : List Value} (h : T.Nine w S x) : T.Nine w' S' x := by
  obtain ⟨vi, vk, va, h1, h2⟩ := h; exact ⟨vi, vk, va, h1, h2.go k j⟩
theorem nine_go (k : Kc S w w') (j : ∀ g x t fr, S g → w'.heap[g]? = some (.cells x t fr) → S' g) {l : List XT} {cs : List Value} (h : Rows (XT.Nine w S) l cs) : Rows (XT.Nine w' S') l cs := h.mono fun _ _ => XT.Nine.go k j
end
theorem xrep_shape {w : World} {S : Nat → Prop} {T : XT} {vi vk va : Value} (h : T.Rep w S vi vk va) : ∃ a1 c1 a2 c2 a3 c3, vi = .slice a1 T.lit.its.length c1 ∧ vk = .slice a2 T.lit.ks.length c2 ∧ va = .slice a3 T.args.length c3 := by
  obtain ⟨h0, cs, h1, _⟩ := xrep_iff.1 h
  obtain ⟨a1, c1, a2, c2, e1, e2⟩ := rep_shape h0
  obtain ⟨a3, c3, e3, _⟩ := h1.shape
  exact ⟨a1, c1, a2, c2, a3, c3, e1, e2, e3⟩
/-- A tree without a literal's rows and without parts. -/
theorem leaf_xrep (w : World) (S : Nat → Prop) (op nm : ByteArray) (k : Int) (b : Bool) (n : Int) (s : ByteArray) : (XT.mk op nm (VT.mk k b n s [] []) []).Rep w S (.slice none 0 0) (.slice none 0 0) (.slice none 0 0) := by
  refine xrep_iff.2 ⟨?_, [], Sl.nil, rfl⟩
  rw [rep_iff]; exact ⟨⟨[], Sl.nil, rfl⟩, Sl.nil⟩
theorem XT.zero_rep (w : World) (S : Nat → Prop) : XT.zero.Rep w S (.slice none 0 0) (.slice none 0 0) (.slice none 0 0) := leaf_xrep w S _ _ _ _ _ _
/-- The parts, laid as a row. -/
theorem node_xrep {w : World} {S : Nat → Prop} {op nm : ByteArray} {l : List XT} {va : Value} {cs : List Value} (h1 : Sl w S 9 va l.length cs) (h2 : Rows (XT.Nine w S) l cs) : (XT.mk op nm VT.zero l).Rep w S (.slice none 0 0) (.slice none 0 0) va :=
  xrep_iff.2 ⟨VT.zero_rep _ _, cs, h1, h2⟩
theorem kc_keeps {S : Nat → Prop} {L : List Nat} {w w' : World} (h : Keeps L w w') (hd : ∀ g, S g → g ∉ L) : Kc S w w' := fun g x t fr hs hx => h.heap hx (hd g hs)
end Go.Proofs.YtdlkdecigpaaaaaGreatDoor
