/- Where a number ends, and whether it is plain, in plain words. -/
import Derived.Test.YtlnmjpacagimnaaDoorTok
namespace Go.Proofs.YtlnmjpacagimnaaDoor
set_option linter.unusedVariables false
set_option linter.unusedSimpArgs false
open Go.RowKit

def signEnd (s : ByteArray) (i : Int) : Int := if isAt s i 45 then i + 1 else i
def wholeEnd (s : ByteArray) (a : Int) : Int := if bt s a = 48 then a + 1 else digitsEnd s a
def fracEnd (s : ByteArray) (b : Int) : Int := if isAt s b 46 then digitsEnd s (b + 1) else b
def expSign (s : ByteArray) (c : Int) : Int := if isAt s c 43 || isAt s c 45 then c + 1 else c
/-- What stands behind the whole part. -/
def numberE (s : ByteArray) (c : Int) (plain : Bool) : Int × Bool × Bool :=
  if isAt s c 101 || isAt s c 69 then (if digitAt s (expSign s (c + 1)) then (digitsEnd s (expSign s (c + 1)), false, true) else (expSign s (c + 1), false, false)) else (c, plain, true)
def numberD (s : ByteArray) (b : Int) : Int × Bool × Bool :=
  if isAt s b 46 then (if digitAt s (b + 1) then numberE s (digitsEnd s (b + 1)) false else (b + 1, false, false)) else numberE s b true
def numberF (s : ByteArray) (i : Int) : Int × Bool × Bool :=
  if digitAt s (signEnd s i) then numberD s (wholeEnd s (signEnd s i)) else (signEnd s i, false, false)
theorem digitsEnd_le {s : ByteArray} {i : Int} (h0 : 0 ≤ i) (h : i ≤ s.size) : digitsEnd s i ≤ s.size := upTo_le h0 h
theorem digitsEnd_ge {s : ByteArray} {i : Int} : i ≤ digitsEnd s i := upTo_ge
def numV (t : Int × Bool × Bool) : Value := .tuple #[.int .i64 t.1, .bool t.2.1, .bool t.2.2]
end Go.Proofs.YtlnmjpacagimnaaDoor
