/- The document's next token, in plain words. -/
import Derived.Test.YtdlkdecigpaaaaaGreatDoorMp8
import Derived.Test.YtdlkdecigpaaaaaGreatDoorMp10
import Derived.Test.YtdlkdecigpaaaaaGreatDoorMp11
import Derived.Test.YtdlkdecigpaaaaaGreatDoorMp13
namespace Go.Proofs.YtdlkdecigpaaaaaGreatDoor
set_option linter.unusedVariables false
set_option linter.unusedSimpArgs false
open Go.RowKit

/-- A token: its kind, its text, its number, where it begins, the place behind it. -/
structure Tk where
  kind : Int
  text : ByteArray
  val : Int
  head : Int
  stop : Int
def Tk.zero : Tk := ⟨0, ByteArray.empty, 0, 0, 0⟩
def Tk.cells (t : Tk) : Array Value := #[.int .i64 t.kind, .string t.text, .int .i64 t.val, .int .i64 t.head, .int .i64 t.stop]
abbrev cutS (s : ByteArray) (a b : Int) : ByteArray := s.extract a.toNat b.toNat
/-- The place of the first byte that isn't a word's; below 0: there is none. -/
def litF (s : ByteArray) : Int → List Int → Int
  | _, [] => -1
  | p, c :: r => if isAt s p c then litF s (p + 1) r else p
def trueL : List Int := [116, 114, 117, 101]
def falseL : List Int := [102, 97, 108, 115, 101]
def nullL : List Int := [110, 117, 108, 108]
def wordOf (s : ByteArray) (p : Int) (l : List Int) (k : Int) : Tk × Int × Int :=
  if litF s p l < 0 then (⟨k, ByteArray.empty, 0, p, p + l.length⟩, 0, 0) else (Tk.zero, litF s p l, 1)
def wordF (s : ByteArray) (p : Int) : Tk × Int × Int :=
  if bt s p = 116 then wordOf s p trueL 4 else if bt s p = 102 then wordOf s p falseL 5 else if bt s p = 110 then wordOf s p nullL 6 else (Tk.zero, p, 1)
def markF (s : ByteArray) (p : Int) : Tk × Int × Int := (⟨1, byteS (bt s p), 0, p, p + 1⟩, 0, 0)
def strF (s : ByteArray) (p : Int) : Tk × Int × Int :=
  if (textOf s p).2.2 = 0 then (⟨2, textS (textOf s p).1, 0, p, (textOf s p).2.1⟩, 0, 0) else (Tk.zero, (textOf s p).2.1, (textOf s p).2.2)
def fitsF (s : ByteArray) : Bool := formB s && fitsB (numZ s)
def numF (s : ByteArray) (p : Int) : Tk × Int × Int :=
  if (numberF s p).2.2 = false then (Tk.zero, (numberF s p).1, 1)
  else if (numberF s p).2.1 = false then (Tk.zero, p, 4)
  else if fitsF (cutS s p (numberF s p).1) = true then (⟨3, ByteArray.empty, numZ (cutS s p (numberF s p).1), p, (numberF s p).1⟩, 0, 0)
  else (Tk.zero, p, 4)
def tokF (s : ByteArray) (p : Int) : Tk × Int × Int :=
  if markB (bt s p) = true then markF s p
  else if bt s p = 34 then strF s p
  else if (bt s p == 45 || digitB (bt s p)) = true then numF s p
  else wordF s p
/-- The token behind a place; the error's place; the error. -/
def nextF (s : ByteArray) (i : Int) : Tk × Int × Int :=
  if blanks s i < s.size then tokF s (blanks s i) else (⟨0, ByteArray.empty, 0, blanks s i, blanks s i⟩, 0, 0)
end Go.Proofs.YtdlkdecigpaaaaaGreatDoor
