/-
  DERIVED. GIVEN WITH THE SEED: THE CARDS: each row of YtdlkdecigpaaaaaGreatDoorRows.lean that lists a variable, with what it lists TIED to the program's text (the seventh form; the later family's looks); each row that meets fmt, with fmt's text TOLD by the authors' own Lean function (tested against real Go, not proved from fmt's source: count such statements apart). THE CARD IS WHAT COUNTS. Prove the row's statement (the work); the ties are given (YtdlkdecigpaaaaaGreatDoorTie.lean); close each card by the builder's one call (the guide's Derived/Test/ToyasCard.lean, 'card_holds'). Laid BY PROGRAM, IN A SANDBOX (cutbox-door.mjs). By AI agents, Wed Nov 11 2026. No macro, syntax, notation, axiom, sorry.
-/
import Derived.Test.YtdlkdecigpaaaaaGreatDoorRows
import GoSem.ClaimSeven
namespace Go.Proofs.YtdlkdecigpaaaaaGreatDoor
namespace Rows

/-- THE TIED CARD OF 'chevallaw09.SortsGrow'. -/
def sortsGrowCard : Claim7 := { stood := { row := sortsGrowRow, standIns := [], harness := (true, "769a803817ba6a196dd3aab1ed3b35c6e7a42d12841e28acf83f1ea40b52bbcc"), looks := true }, kinds := [], alts := [], laidByText := true, laidKinds := [.data, .data, .data, .sentinel, .sentinel], laidTests := true, laidLooks := .later }
def SortsGrowCardSaid : Prop := Claim7.holds Tryz.pinned (.plain (OpenSpec.ofChange sortsGrowSpec)) sortsGrowCard

/-- THE TIED CARD OF 'chevallaw09.SortsNames'. -/
def sortsNamesCard : Claim7 := { stood := { row := sortsNamesRow, standIns := [], harness := (true, "769a803817ba6a196dd3aab1ed3b35c6e7a42d12841e28acf83f1ea40b52bbcc"), looks := true }, kinds := [], alts := [], laidByText := true, laidKinds := [.data, .data, .data, .sentinel, .sentinel], laidTests := true, laidLooks := .later }
def SortsNamesCardSaid : Prop := Claim7.holds Tryz.pinned (.plain (OpenSpec.ofChange sortsNamesSpec)) sortsNamesCard

/-- THE TIED CARD OF 'chevallaw09.SortsWords'. -/
def sortsWordsCard : Claim7 := { stood := { row := sortsWordsRow, standIns := [], harness := (true, "769a803817ba6a196dd3aab1ed3b35c6e7a42d12841e28acf83f1ea40b52bbcc"), looks := true }, kinds := [], alts := [], laidByText := true, laidKinds := [.data, .data, .data, .sentinel, .sentinel], laidTests := true, laidLooks := .later }
def SortsWordsCardSaid : Prop := Claim7.holds Tryz.pinned (.plain (OpenSpec.ofChange sortsWordsSpec)) sortsWordsCard

/-- THE TIED CARD OF 'chevallaw08.ExprParses'. -/
def exprParsesCard : Claim7 := { stood := { row := exprParsesRow, standIns := [], harness := (true, "769a803817ba6a196dd3aab1ed3b35c6e7a42d12841e28acf83f1ea40b52bbcc"), looks := true }, kinds := [], alts := [], laidByText := true, laidKinds := [.data, .data, .data, .sentinel, .sentinel], laidTests := true, laidLooks := .later }
def ExprParsesCardSaid : Prop := Claim7.holds Tryz.pinned (.plain (OpenSpec.ofChange exprParsesSpec)) exprParsesCard

/-- THE TIED CARD OF 'chevallaw08.ExprPrints'. -/
def exprPrintsCard : Claim7 := { stood := { row := exprPrintsRow, standIns := [], harness := (true, "769a803817ba6a196dd3aab1ed3b35c6e7a42d12841e28acf83f1ea40b52bbcc"), looks := true }, kinds := [], alts := [], laidByText := true, laidKinds := [.data, .data, .data, .sentinel, .sentinel], laidTests := true, laidLooks := .later }
def ExprPrintsCardSaid : Prop := Claim7.holds Tryz.pinned (.plain (OpenSpec.ofChange exprPrintsSpec)) exprPrintsCard

/-- THE TIED CARD OF 'chevallaw08.ExprBlanks'. -/
def exprBlanksCard : Claim7 := { stood := { row := exprBlanksRow, standIns := [], harness := (true, "769a803817ba6a196dd3aab1ed3b35c6e7a42d12841e28acf83f1ea40b52bbcc"), looks := true }, kinds := [], alts := [], laidByText := true, laidKinds := [.data, .data, .data, .sentinel, .sentinel], laidTests := true, laidLooks := .later }
def ExprBlanksCardSaid : Prop := Claim7.holds Tryz.pinned (.plain (OpenSpec.ofChange exprBlanksSpec)) exprBlanksCard

/-- THE TIED CARD OF 'chevallaw08.ExprBrackets'. -/
def exprBracketsCard : Claim7 := { stood := { row := exprBracketsRow, standIns := [], harness := (true, "769a803817ba6a196dd3aab1ed3b35c6e7a42d12841e28acf83f1ea40b52bbcc"), looks := true }, kinds := [], alts := [], laidByText := true, laidKinds := [.data, .data, .data, .sentinel, .sentinel], laidTests := true, laidLooks := .later }
def ExprBracketsCardSaid : Prop := Claim7.holds Tryz.pinned (.plain (OpenSpec.ofChange exprBracketsSpec)) exprBracketsCard

/-- THE TIED CARD OF 'chevallaw08.ExprDeeps'. -/
def exprDeepsCard : Claim7 := { stood := { row := exprDeepsRow, standIns := [], harness := (true, "769a803817ba6a196dd3aab1ed3b35c6e7a42d12841e28acf83f1ea40b52bbcc"), looks := true }, kinds := [], alts := [], laidByText := true, laidKinds := [.data, .data, .data, .sentinel, .sentinel], laidTests := true, laidLooks := .later }
def ExprDeepsCardSaid : Prop := Claim7.holds Tryz.pinned (.plain (OpenSpec.ofChange exprDeepsSpec)) exprDeepsCard

/-- THE TIED CARD OF 'chevallaw08.ExprNames'. -/
def exprNamesCard : Claim7 := { stood := { row := exprNamesRow, standIns := [], harness := (true, "769a803817ba6a196dd3aab1ed3b35c6e7a42d12841e28acf83f1ea40b52bbcc"), looks := true }, kinds := [], alts := [], laidByText := true, laidKinds := [.data, .data, .data, .sentinel, .sentinel], laidTests := true, laidLooks := .later }
def ExprNamesCardSaid : Prop := Claim7.holds Tryz.pinned (.plain (OpenSpec.ofChange exprNamesSpec)) exprNamesCard

/-- THE TIED CARD OF 'chevallaw08.ExprPrefixes'. -/
def exprPrefixesCard : Claim7 := { stood := { row := exprPrefixesRow, standIns := [], harness := (true, "769a803817ba6a196dd3aab1ed3b35c6e7a42d12841e28acf83f1ea40b52bbcc"), looks := true }, kinds := [], alts := [], laidByText := true, laidKinds := [.data, .data, .data, .sentinel, .sentinel], laidTests := true, laidLooks := .later }
def ExprPrefixesCardSaid : Prop := Claim7.holds Tryz.pinned (.plain (OpenSpec.ofChange exprPrefixesSpec)) exprPrefixesCard

/-- THE TIED CARD OF 'chevallaw08.ExprAsks'. -/
def exprAsksCard : Claim7 := { stood := { row := exprAsksRow, standIns := [], harness := (true, "769a803817ba6a196dd3aab1ed3b35c6e7a42d12841e28acf83f1ea40b52bbcc"), looks := true }, kinds := [], alts := [], laidByText := true, laidKinds := [.data, .data, .data, .sentinel, .sentinel], laidTests := true, laidLooks := .later }
def ExprAsksCardSaid : Prop := Claim7.holds Tryz.pinned (.plain (OpenSpec.ofChange exprAsksSpec)) exprAsksCard

/-- THE SECOND FORM's CARD OF 'chevallaw09.SortsGrow'. -/
def sortsGrowUptoCard : Claim7 := { stood := { row := sortsGrowUptoRow, standIns := [], harness := (true, "769a803817ba6a196dd3aab1ed3b35c6e7a42d12841e28acf83f1ea40b52bbcc"), looks := true }, kinds := [], alts := [], laidByText := true, laidKinds := [.data, .data, .data, .sentinel, .sentinel], laidTests := true, laidLooks := .later }
def SortsGrowUptoCardSaid : Prop := Claim7.holds Tryz.pinned (.plain (OpenSpec.upto sortsGrowSpec)) sortsGrowUptoCard

/-- THE SECOND FORM's CARD OF 'chevallaw09.SortsNames'. -/
def sortsNamesUptoCard : Claim7 := { stood := { row := sortsNamesUptoRow, standIns := [], harness := (true, "769a803817ba6a196dd3aab1ed3b35c6e7a42d12841e28acf83f1ea40b52bbcc"), looks := true }, kinds := [], alts := [], laidByText := true, laidKinds := [.data, .data, .data, .sentinel, .sentinel], laidTests := true, laidLooks := .later }
def SortsNamesUptoCardSaid : Prop := Claim7.holds Tryz.pinned (.plain (OpenSpec.upto sortsNamesSpec)) sortsNamesUptoCard

/-- THE SECOND FORM's CARD OF 'chevallaw09.SortsWords'. -/
def sortsWordsUptoCard : Claim7 := { stood := { row := sortsWordsUptoRow, standIns := [], harness := (true, "769a803817ba6a196dd3aab1ed3b35c6e7a42d12841e28acf83f1ea40b52bbcc"), looks := true }, kinds := [], alts := [], laidByText := true, laidKinds := [.data, .data, .data, .sentinel, .sentinel], laidTests := true, laidLooks := .later }
def SortsWordsUptoCardSaid : Prop := Claim7.holds Tryz.pinned (.plain (OpenSpec.upto sortsWordsSpec)) sortsWordsUptoCard

/-- THE SECOND FORM's CARD OF 'chevallaw08.ExprParses'. -/
def exprParsesUptoCard : Claim7 := { stood := { row := exprParsesUptoRow, standIns := [], harness := (true, "769a803817ba6a196dd3aab1ed3b35c6e7a42d12841e28acf83f1ea40b52bbcc"), looks := true }, kinds := [], alts := [], laidByText := true, laidKinds := [.data, .data, .data, .sentinel, .sentinel], laidTests := true, laidLooks := .later }
def ExprParsesUptoCardSaid : Prop := Claim7.holds Tryz.pinned (.plain (OpenSpec.upto exprParsesSpec)) exprParsesUptoCard

/-- THE SECOND FORM's CARD OF 'chevallaw08.ExprPrints'. -/
def exprPrintsUptoCard : Claim7 := { stood := { row := exprPrintsUptoRow, standIns := [], harness := (true, "769a803817ba6a196dd3aab1ed3b35c6e7a42d12841e28acf83f1ea40b52bbcc"), looks := true }, kinds := [], alts := [], laidByText := true, laidKinds := [.data, .data, .data, .sentinel, .sentinel], laidTests := true, laidLooks := .later }
def ExprPrintsUptoCardSaid : Prop := Claim7.holds Tryz.pinned (.plain (OpenSpec.upto exprPrintsSpec)) exprPrintsUptoCard

/-- THE SECOND FORM's CARD OF 'chevallaw08.ExprBlanks'. -/
def exprBlanksUptoCard : Claim7 := { stood := { row := exprBlanksUptoRow, standIns := [], harness := (true, "769a803817ba6a196dd3aab1ed3b35c6e7a42d12841e28acf83f1ea40b52bbcc"), looks := true }, kinds := [], alts := [], laidByText := true, laidKinds := [.data, .data, .data, .sentinel, .sentinel], laidTests := true, laidLooks := .later }
def ExprBlanksUptoCardSaid : Prop := Claim7.holds Tryz.pinned (.plain (OpenSpec.upto exprBlanksSpec)) exprBlanksUptoCard

/-- THE SECOND FORM's CARD OF 'chevallaw08.ExprBrackets'. -/
def exprBracketsUptoCard : Claim7 := { stood := { row := exprBracketsUptoRow, standIns := [], harness := (true, "769a803817ba6a196dd3aab1ed3b35c6e7a42d12841e28acf83f1ea40b52bbcc"), looks := true }, kinds := [], alts := [], laidByText := true, laidKinds := [.data, .data, .data, .sentinel, .sentinel], laidTests := true, laidLooks := .later }
def ExprBracketsUptoCardSaid : Prop := Claim7.holds Tryz.pinned (.plain (OpenSpec.upto exprBracketsSpec)) exprBracketsUptoCard

/-- THE SECOND FORM's CARD OF 'chevallaw08.ExprDeeps'. -/
def exprDeepsUptoCard : Claim7 := { stood := { row := exprDeepsUptoRow, standIns := [], harness := (true, "769a803817ba6a196dd3aab1ed3b35c6e7a42d12841e28acf83f1ea40b52bbcc"), looks := true }, kinds := [], alts := [], laidByText := true, laidKinds := [.data, .data, .data, .sentinel, .sentinel], laidTests := true, laidLooks := .later }
def ExprDeepsUptoCardSaid : Prop := Claim7.holds Tryz.pinned (.plain (OpenSpec.upto exprDeepsSpec)) exprDeepsUptoCard

/-- THE SECOND FORM's CARD OF 'chevallaw08.ExprNames'. -/
def exprNamesUptoCard : Claim7 := { stood := { row := exprNamesUptoRow, standIns := [], harness := (true, "769a803817ba6a196dd3aab1ed3b35c6e7a42d12841e28acf83f1ea40b52bbcc"), looks := true }, kinds := [], alts := [], laidByText := true, laidKinds := [.data, .data, .data, .sentinel, .sentinel], laidTests := true, laidLooks := .later }
def ExprNamesUptoCardSaid : Prop := Claim7.holds Tryz.pinned (.plain (OpenSpec.upto exprNamesSpec)) exprNamesUptoCard

/-- THE SECOND FORM's CARD OF 'chevallaw08.ExprPrefixes'. -/
def exprPrefixesUptoCard : Claim7 := { stood := { row := exprPrefixesUptoRow, standIns := [], harness := (true, "769a803817ba6a196dd3aab1ed3b35c6e7a42d12841e28acf83f1ea40b52bbcc"), looks := true }, kinds := [], alts := [], laidByText := true, laidKinds := [.data, .data, .data, .sentinel, .sentinel], laidTests := true, laidLooks := .later }
def ExprPrefixesUptoCardSaid : Prop := Claim7.holds Tryz.pinned (.plain (OpenSpec.upto exprPrefixesSpec)) exprPrefixesUptoCard

/-- THE SECOND FORM's CARD OF 'chevallaw08.ExprAsks'. -/
def exprAsksUptoCard : Claim7 := { stood := { row := exprAsksUptoRow, standIns := [], harness := (true, "769a803817ba6a196dd3aab1ed3b35c6e7a42d12841e28acf83f1ea40b52bbcc"), looks := true }, kinds := [], alts := [], laidByText := true, laidKinds := [.data, .data, .data, .sentinel, .sentinel], laidTests := true, laidLooks := .later }
def ExprAsksUptoCardSaid : Prop := Claim7.holds Tryz.pinned (.plain (OpenSpec.upto exprAsksSpec)) exprAsksUptoCard
end Rows
end Go.Proofs.YtdlkdecigpaaaaaGreatDoor
