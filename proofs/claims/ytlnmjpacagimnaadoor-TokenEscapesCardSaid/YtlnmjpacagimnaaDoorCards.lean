/-
  DERIVED. GIVEN WITH THE SEED: THE CARDS: each row of YtlnmjpacagimnaaDoorRows.lean that lists a variable, with what it lists TIED to the program's text (the seventh form; the later family's looks); each row that meets fmt, with fmt's text TOLD by the authors' own Lean function (tested against real Go, not proved from fmt's source: count such statements apart). THE CARD IS WHAT COUNTS. Prove the row's statement (the work); the ties are given (YtlnmjpacagimnaaDoorTie.lean); close each card by the builder's one call (the guide's Derived/Test/ToyasCard.lean, 'card_holds'). Laid BY PROGRAM, IN A SANDBOX (cutbox-door.mjs). By AI agents, Wed Nov 11 2026. No macro, syntax, notation, axiom, sorry.
-/
import Derived.Test.YtlnmjpacagimnaaDoorRows
import GoSem.ClaimSeven
namespace Go.Proofs.YtlnmjpacagimnaaDoor
namespace Rows

/-- THE TIED CARD OF 'chevallaw05.TokenAlls'. -/
def tokenAllsCard : Claim7 := { stood := { row := tokenAllsRow, standIns := [], harness := (true, "a37295a86615e9a1b7afedafbb33f9c315c69900dbdd6021abff8e30049cf5b7"), looks := true }, kinds := [], alts := [], laidByText := true, laidKinds := [.data, .data, .data, .sentinel, .sentinel], laidTests := true, laidLooks := .later }
def TokenAllsCardSaid : Prop := Claim7.holds Tryd.pinned (.plain (OpenSpec.ofChange tokenAllsSpec)) tokenAllsCard

/-- THE TIED CARD OF 'chevallaw05.TokenApart'. -/
def tokenApartCard : Claim7 := { stood := { row := tokenApartRow, standIns := [], harness := (true, "a37295a86615e9a1b7afedafbb33f9c315c69900dbdd6021abff8e30049cf5b7"), looks := true }, kinds := [], alts := [], laidByText := true, laidKinds := [.data, .data, .data, .sentinel, .sentinel], laidTests := true, laidLooks := .later }
def TokenApartCardSaid : Prop := Claim7.holds Tryd.pinned (.plain (OpenSpec.ofChange tokenApartSpec)) tokenApartCard

/-- THE TIED CARD OF 'chevallaw05.TokenNumbers'. -/
def tokenNumbersCard : Claim7 := { stood := { row := tokenNumbersRow, standIns := [], harness := (true, "a37295a86615e9a1b7afedafbb33f9c315c69900dbdd6021abff8e30049cf5b7"), looks := true }, kinds := [], alts := [], laidByText := true, laidKinds := [.data, .data, .data, .sentinel, .sentinel], laidTests := true, laidLooks := .later }
def TokenNumbersCardSaid : Prop := Claim7.holds Tryd.pinned (.plain (OpenSpec.ofChange tokenNumbersSpec)) tokenNumbersCard

/-- THE TIED CARD OF 'chevallaw05.TokenEscapes'. -/
def tokenEscapesCard : Claim7 := { stood := { row := tokenEscapesRow, standIns := [], harness := (true, "a37295a86615e9a1b7afedafbb33f9c315c69900dbdd6021abff8e30049cf5b7"), looks := true }, kinds := [], alts := [], laidByText := true, laidKinds := [.data, .data, .data, .sentinel, .sentinel], laidTests := true, laidLooks := .later }
def TokenEscapesCardSaid : Prop := Claim7.holds Tryd.pinned (.plain (OpenSpec.ofChange tokenEscapesSpec)) tokenEscapesCard

/-- THE TIED CARD OF 'chevallaw05.TokenRaw'. -/
def tokenRawCard : Claim7 := { stood := { row := tokenRawRow, standIns := [], harness := (true, "a37295a86615e9a1b7afedafbb33f9c315c69900dbdd6021abff8e30049cf5b7"), looks := true }, kinds := [], alts := [], laidByText := true, laidKinds := [.data, .data, .data, .sentinel, .sentinel], laidTests := true, laidLooks := .later }
def TokenRawCardSaid : Prop := Claim7.holds Tryd.pinned (.plain (OpenSpec.ofChange tokenRawSpec)) tokenRawCard

/-- THE TIED CARD OF 'chevallaw05.TokenSteps'. -/
def tokenStepsCard : Claim7 := { stood := { row := tokenStepsRow, standIns := [], harness := (true, "a37295a86615e9a1b7afedafbb33f9c315c69900dbdd6021abff8e30049cf5b7"), looks := true }, kinds := [], alts := [], laidByText := true, laidKinds := [.data, .data, .data, .sentinel, .sentinel], laidTests := true, laidLooks := .later }
def TokenStepsCardSaid : Prop := Claim7.holds Tryd.pinned (.plain (OpenSpec.ofChange tokenStepsSpec)) tokenStepsCard

/-- THE SECOND FORM's CARD OF 'chevallaw05.TokenAlls'. -/
def tokenAllsUptoCard : Claim7 := { stood := { row := tokenAllsUptoRow, standIns := [], harness := (true, "a37295a86615e9a1b7afedafbb33f9c315c69900dbdd6021abff8e30049cf5b7"), looks := true }, kinds := [], alts := [], laidByText := true, laidKinds := [.data, .data, .data, .sentinel, .sentinel], laidTests := true, laidLooks := .later }
def TokenAllsUptoCardSaid : Prop := Claim7.holds Tryd.pinned (.plain (OpenSpec.upto tokenAllsSpec)) tokenAllsUptoCard

/-- THE SECOND FORM's CARD OF 'chevallaw05.TokenApart'. -/
def tokenApartUptoCard : Claim7 := { stood := { row := tokenApartUptoRow, standIns := [], harness := (true, "a37295a86615e9a1b7afedafbb33f9c315c69900dbdd6021abff8e30049cf5b7"), looks := true }, kinds := [], alts := [], laidByText := true, laidKinds := [.data, .data, .data, .sentinel, .sentinel], laidTests := true, laidLooks := .later }
def TokenApartUptoCardSaid : Prop := Claim7.holds Tryd.pinned (.plain (OpenSpec.upto tokenApartSpec)) tokenApartUptoCard

/-- THE SECOND FORM's CARD OF 'chevallaw05.TokenNumbers'. -/
def tokenNumbersUptoCard : Claim7 := { stood := { row := tokenNumbersUptoRow, standIns := [], harness := (true, "a37295a86615e9a1b7afedafbb33f9c315c69900dbdd6021abff8e30049cf5b7"), looks := true }, kinds := [], alts := [], laidByText := true, laidKinds := [.data, .data, .data, .sentinel, .sentinel], laidTests := true, laidLooks := .later }
def TokenNumbersUptoCardSaid : Prop := Claim7.holds Tryd.pinned (.plain (OpenSpec.upto tokenNumbersSpec)) tokenNumbersUptoCard

/-- THE SECOND FORM's CARD OF 'chevallaw05.TokenEscapes'. -/
def tokenEscapesUptoCard : Claim7 := { stood := { row := tokenEscapesUptoRow, standIns := [], harness := (true, "a37295a86615e9a1b7afedafbb33f9c315c69900dbdd6021abff8e30049cf5b7"), looks := true }, kinds := [], alts := [], laidByText := true, laidKinds := [.data, .data, .data, .sentinel, .sentinel], laidTests := true, laidLooks := .later }
def TokenEscapesUptoCardSaid : Prop := Claim7.holds Tryd.pinned (.plain (OpenSpec.upto tokenEscapesSpec)) tokenEscapesUptoCard

/-- THE SECOND FORM's CARD OF 'chevallaw05.TokenRaw'. -/
def tokenRawUptoCard : Claim7 := { stood := { row := tokenRawUptoRow, standIns := [], harness := (true, "a37295a86615e9a1b7afedafbb33f9c315c69900dbdd6021abff8e30049cf5b7"), looks := true }, kinds := [], alts := [], laidByText := true, laidKinds := [.data, .data, .data, .sentinel, .sentinel], laidTests := true, laidLooks := .later }
def TokenRawUptoCardSaid : Prop := Claim7.holds Tryd.pinned (.plain (OpenSpec.upto tokenRawSpec)) tokenRawUptoCard

/-- THE SECOND FORM's CARD OF 'chevallaw05.TokenSteps'. -/
def tokenStepsUptoCard : Claim7 := { stood := { row := tokenStepsUptoRow, standIns := [], harness := (true, "a37295a86615e9a1b7afedafbb33f9c315c69900dbdd6021abff8e30049cf5b7"), looks := true }, kinds := [], alts := [], laidByText := true, laidKinds := [.data, .data, .data, .sentinel, .sentinel], laidTests := true, laidLooks := .later }
def TokenStepsUptoCardSaid : Prop := Claim7.holds Tryd.pinned (.plain (OpenSpec.upto tokenStepsSpec)) tokenStepsUptoCard
end Rows
end Go.Proofs.YtlnmjpacagimnaaDoor
