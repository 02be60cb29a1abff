/-
  No cell of these rows narrows 'for every input' (looked for: loops, veiled, ifaces, maps, wideKeys, modest, calm, conditions, laid).
  DERIVED. THE GIVEN ROWS OF THIS SEAT. 6 by the template 'for every input the law returns true; each argument reads behind the call as it read before'; 0 by the template 'total and deterministic' (their statements: YtbajghjdnjodmaaTotals.lean).
  GIVEN WITH THE SEED: the statements are not yours to turn. If you find one false, say at which input.
  Laid BY PROGRAM, IN A SANDBOX (cutbox-rows.mjs): the forced cells as the released guide's own fill.sh prints them over the translation 03cfdebc764c3f3b… (all of the seat's roots in one cut). By AI agents, Wed Nov 11 2026. No macro, syntax, notation, axiom, sorry.
-/
import Derived.Test.YtbajghjdnjodmaaChecked
import GoSem.Claim
import GoSem.ClaimJoined
import GoSem.ClaimMapViews
import Derived.JoinedTies
import Derived.KernelRfl
namespace Go.Proofs.Ytbajghjdnjodmaa
/- THE CELL 'sum', in the pinned program and in every row, IS THE sha256 OF THE DUMP (.gsa) THAT YtbajghjdnjodmaaProg.lean LOADS. Nothing in Lean hashes anything: it is a label: what it is worth is what the hold of that sum in a sandbox is worth. -/
noncomputable def Try.pinned : Pinned := { name := "ytbajghjdnjodmaa", sum := "03cfdebc764c3f3ba171585ef10cccc4ddfbc9b83c646cdbbedbdf3cfa0eb674", checked := Try.checked }
namespace Rows
def none {H : Type} : Left H := { results := [], args := [] }

/-- 'chevallaw24.CorpusNames': WHATEVER THE INPUT: true; the input reads as it did. -/
def corpusNamesSpec : ChangeSpec := { name := "corpusNames", fn := fun _ => fun
  | [d] => { results := [.lit (.bool true)], args := [d] }
  | _ => none }
def corpusNamesRow : OpenClaim := { program := "ytbajghjdnjodmaa", sum := "03cfdebc764c3f3ba171585ef10cccc4ddfbc9b83c646cdbbedbdf3cfa0eb674", func := "cheval/chevallaw24.CorpusNames", spec := "corpusNames", recurses := true, apart := false }
def CorpusNamesSaid : Prop := corpusNamesRow.holds Try.pinned (OpenSpec.ofChange corpusNamesSpec)

/-- ITS FALSE NEIGHBOUR: 'it returns false'. Refute it at one input. -/
def corpusNamesWrong : ChangeSpec := { name := "corpusNames", fn := fun _ => fun
  | [d] => { results := [.lit (.bool false)], args := [d] }
  | _ => none }
def CorpusNamesWrongFalsely : Prop := corpusNamesRow.holds Try.pinned (OpenSpec.ofChange corpusNamesWrong)

/-- 'chevallaw24.CorpusFulls': WHATEVER THE INPUT: true; the input reads as it did. -/
def corpusFullsSpec : ChangeSpec := { name := "corpusFulls", fn := fun _ => fun
  | [d1, d2] => { results := [.lit (.bool true)], args := [d1, d2] }
  | _ => none }
def corpusFullsRow : OpenClaim := { program := "ytbajghjdnjodmaa", sum := "03cfdebc764c3f3ba171585ef10cccc4ddfbc9b83c646cdbbedbdf3cfa0eb674", func := "cheval/chevallaw24.CorpusFulls", spec := "corpusFulls", recurses := true, apart := false }
def CorpusFullsSaid : Prop := corpusFullsRow.holds Try.pinned (OpenSpec.ofChange corpusFullsSpec)

/-- ITS FALSE NEIGHBOUR: 'it returns false'. Refute it at one input. -/
def corpusFullsWrong : ChangeSpec := { name := "corpusFulls", fn := fun _ => fun
  | [d1, d2] => { results := [.lit (.bool false)], args := [d1, d2] }
  | _ => none }
def CorpusFullsWrongFalsely : Prop := corpusFullsRow.holds Try.pinned (OpenSpec.ofChange corpusFullsWrong)

/-- 'chevallaw24.CorpusOwn': WHATEVER THE INPUT: true; the input reads as it did. -/
def corpusOwnSpec : ChangeSpec := { name := "corpusOwn", fn := fun _ => fun
  | [d] => { results := [.lit (.bool true)], args := [d] }
  | _ => none }
def corpusOwnRow : OpenClaim := { program := "ytbajghjdnjodmaa", sum := "03cfdebc764c3f3ba171585ef10cccc4ddfbc9b83c646cdbbedbdf3cfa0eb674", func := "cheval/chevallaw24.CorpusOwn", spec := "corpusOwn", unfollowed := true, recurses := true, apart := false }
def CorpusOwnSaid : Prop := corpusOwnRow.holds Try.pinned (OpenSpec.ofChange corpusOwnSpec)

/-- ITS FALSE NEIGHBOUR: 'it returns false'. Refute it at one input. -/
def corpusOwnWrong : ChangeSpec := { name := "corpusOwn", fn := fun _ => fun
  | [d] => { results := [.lit (.bool false)], args := [d] }
  | _ => none }
def CorpusOwnWrongFalsely : Prop := corpusOwnRow.holds Try.pinned (OpenSpec.ofChange corpusOwnWrong)

/-- 'chevallaw24.CorpusPlays': WHATEVER THE INPUT: true; the input reads as it did. -/
def corpusPlaysSpec : ChangeSpec := { name := "corpusPlays", fn := fun _ => fun
  | [d] => { results := [.lit (.bool true)], args := [d] }
  | _ => none }
def corpusPlaysRow : OpenClaim := { program := "ytbajghjdnjodmaa", sum := "03cfdebc764c3f3ba171585ef10cccc4ddfbc9b83c646cdbbedbdf3cfa0eb674", func := "cheval/chevallaw24.CorpusPlays", spec := "corpusPlays", unfollowed := true, recurses := true, apart := false }
def CorpusPlaysSaid : Prop := corpusPlaysRow.holds Try.pinned (OpenSpec.ofChange corpusPlaysSpec)

/-- ITS FALSE NEIGHBOUR: 'it returns false'. Refute it at one input. -/
def corpusPlaysWrong : ChangeSpec := { name := "corpusPlays", fn := fun _ => fun
  | [d] => { results := [.lit (.bool false)], args := [d] }
  | _ => none }
def CorpusPlaysWrongFalsely : Prop := corpusPlaysRow.holds Try.pinned (OpenSpec.ofChange corpusPlaysWrong)

/-- 'chevallaw24.CorpusCopies': WHATEVER THE INPUT: true; the input reads as it did. -/
def corpusCopiesSpec : ChangeSpec := { name := "corpusCopies", fn := fun _ => fun
  | [d1, d2] => { results := [.lit (.bool true)], args := [d1, d2] }
  | _ => none }
def corpusCopiesRow : OpenClaim := { program := "ytbajghjdnjodmaa", sum := "03cfdebc764c3f3ba171585ef10cccc4ddfbc9b83c646cdbbedbdf3cfa0eb674", func := "cheval/chevallaw24.CorpusCopies", spec := "corpusCopies", unfollowed := true, recurses := true, apart := false }
def CorpusCopiesSaid : Prop := corpusCopiesRow.holds Try.pinned (OpenSpec.ofChange corpusCopiesSpec)

/-- ITS FALSE NEIGHBOUR: 'it returns false'. Refute it at one input. -/
def corpusCopiesWrong : ChangeSpec := { name := "corpusCopies", fn := fun _ => fun
  | [d1, d2] => { results := [.lit (.bool false)], args := [d1, d2] }
  | _ => none }
def CorpusCopiesWrongFalsely : Prop := corpusCopiesRow.holds Try.pinned (OpenSpec.ofChange corpusCopiesWrong)

/-- 'chevallaw24.CorpusWhile': WHATEVER THE INPUT: true; the input reads as it did. -/
def corpusWhileSpec : ChangeSpec := { name := "corpusWhile", fn := fun _ => fun
  | [d1, d2, d3] => { results := [.lit (.bool true)], args := [d1, d2, d3] }
  | _ => none }
def corpusWhileRow : OpenClaim := { program := "ytbajghjdnjodmaa", sum := "03cfdebc764c3f3ba171585ef10cccc4ddfbc9b83c646cdbbedbdf3cfa0eb674", func := "cheval/chevallaw24.CorpusWhile", spec := "corpusWhile", unfollowed := true, recurses := true, apart := false }
def CorpusWhileSaid : Prop := corpusWhileRow.holds Try.pinned (OpenSpec.ofChange corpusWhileSpec)

/-- ITS FALSE NEIGHBOUR: 'it returns false'. Refute it at one input. -/
def corpusWhileWrong : ChangeSpec := { name := "corpusWhile", fn := fun _ => fun
  | [d1, d2, d3] => { results := [.lit (.bool false)], args := [d1, d2, d3] }
  | _ => none }
def CorpusWhileWrongFalsely : Prop := corpusWhileRow.holds Try.pinned (OpenSpec.ofChange corpusWhileWrong)

/- THE SECOND FORM. 'bulk': how many values and letters a reading holds, each counted each time it is reached (what is shared counts as often as it is met; a slice's spare places count too). A statement '..UptoSaid' is the law's where the arguments, and the package variables that the reading takes, are together of bulk at most 1048576: NARROWER than '..Said'. Prove '..Said' where nothing that the law and all that it calls make is longer than what came in: it says more and counts as full. Else prove '..UptoSaid'. A law counts once. -/
mutual
def uptoBulk {H : Type} : DataW H → Nat
  | .lit (.string bytes) => bytes.length + 1
  | .lit _ => 1
  | .nil => 1
  | .ptr d => uptoBulk d + 1
  | .slice elems spare => uptoBulkAll elems + uptoBulkAll spare + 1
  | .agg parts => uptoBulkAll parts + 1
  | .iface _ d => uptoBulk d + 1
  | .map entries => uptoBulkEntries entries + 1
  | .held _ => 1
def uptoBulkAll {H : Type} : List (DataW H) → Nat
  | [] => 0
  | d :: r => uptoBulk d + uptoBulkAll r
def uptoBulkEntries {H : Type} : List (Lit × DataW H) → Nat
  | [] => 0
  | x :: r => uptoBulkEntry x + uptoBulkEntries r
def uptoBulkEntry {H : Type} : Lit × DataW H → Nat
  | (.string bytes, d) => bytes.length + uptoBulk d + 1
  | (_, d) => uptoBulk d + 1
 end
def uptoSmall : (H : Type) → List (DataW H) → Bool := fun _ ds => decide (uptoBulkAll ds ≤ 1048576)
def OpenSpec.upto (s : _root_.Go.ChangeSpec) : _root_.Go.OpenSpec := { _root_.Go.OpenSpec.ofChange s with cond := some uptoSmall }

/-- 'chevallaw24.CorpusNames', WHERE WHAT IT READS IS OF BULK AT MOST 1048576: true; the input reads as it did. -/
def corpusNamesUptoRow : OpenClaim := { program := "ytbajghjdnjodmaa", sum := "03cfdebc764c3f3ba171585ef10cccc4ddfbc9b83c646cdbbedbdf3cfa0eb674", func := "cheval/chevallaw24.CorpusNames", spec := "corpusNames", recurses := true, apart := false, narrowed := true }
def CorpusNamesUptoSaid : Prop := corpusNamesUptoRow.holds Try.pinned (OpenSpec.upto corpusNamesSpec)

/-- 'chevallaw24.CorpusFulls', WHERE WHAT IT READS IS OF BULK AT MOST 1048576: true; the input reads as it did. -/
def corpusFullsUptoRow : OpenClaim := { program := "ytbajghjdnjodmaa", sum := "03cfdebc764c3f3ba171585ef10cccc4ddfbc9b83c646cdbbedbdf3cfa0eb674", func := "cheval/chevallaw24.CorpusFulls", spec := "corpusFulls", recurses := true, apart := false, narrowed := true }
def CorpusFullsUptoSaid : Prop := corpusFullsUptoRow.holds Try.pinned (OpenSpec.upto corpusFullsSpec)

/-- 'chevallaw24.CorpusOwn', WHERE WHAT IT READS IS OF BULK AT MOST 1048576: true; the input reads as it did. -/
def corpusOwnUptoRow : OpenClaim := { program := "ytbajghjdnjodmaa", sum := "03cfdebc764c3f3ba171585ef10cccc4ddfbc9b83c646cdbbedbdf3cfa0eb674", func := "cheval/chevallaw24.CorpusOwn", spec := "corpusOwn", unfollowed := true, recurses := true, apart := false, narrowed := true }
def CorpusOwnUptoSaid : Prop := corpusOwnUptoRow.holds Try.pinned (OpenSpec.upto corpusOwnSpec)

/-- 'chevallaw24.CorpusPlays', WHERE WHAT IT READS IS OF BULK AT MOST 1048576: true; the input reads as it did. -/
def corpusPlaysUptoRow : OpenClaim := { program := "ytbajghjdnjodmaa", sum := "03cfdebc764c3f3ba171585ef10cccc4ddfbc9b83c646cdbbedbdf3cfa0eb674", func := "cheval/chevallaw24.CorpusPlays", spec := "corpusPlays", unfollowed := true, recurses := true, apart := false, narrowed := true }
def CorpusPlaysUptoSaid : Prop := corpusPlaysUptoRow.holds Try.pinned (OpenSpec.upto corpusPlaysSpec)

/-- 'chevallaw24.CorpusCopies', WHERE WHAT IT READS IS OF BULK AT MOST 1048576: true; the input reads as it did. -/
def corpusCopiesUptoRow : OpenClaim := { program := "ytbajghjdnjodmaa", sum := "03cfdebc764c3f3ba171585ef10cccc4ddfbc9b83c646cdbbedbdf3cfa0eb674", func := "cheval/chevallaw24.CorpusCopies", spec := "corpusCopies", unfollowed := true, recurses := true, apart := false, narrowed := true }
def CorpusCopiesUptoSaid : Prop := corpusCopiesUptoRow.holds Try.pinned (OpenSpec.upto corpusCopiesSpec)

/-- 'chevallaw24.CorpusWhile', WHERE WHAT IT READS IS OF BULK AT MOST 1048576: true; the input reads as it did. -/
def corpusWhileUptoRow : OpenClaim := { program := "ytbajghjdnjodmaa", sum := "03cfdebc764c3f3ba171585ef10cccc4ddfbc9b83c646cdbbedbdf3cfa0eb674", func := "cheval/chevallaw24.CorpusWhile", spec := "corpusWhile", unfollowed := true, recurses := true, apart := false, narrowed := true }
def CorpusWhileUptoSaid : Prop := corpusWhileUptoRow.holds Try.pinned (OpenSpec.upto corpusWhileSpec)

end Rows
end Go.Proofs.Ytbajghjdnjodmaa
