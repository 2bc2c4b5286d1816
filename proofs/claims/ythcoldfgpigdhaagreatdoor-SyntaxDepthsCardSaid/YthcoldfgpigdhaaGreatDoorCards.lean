/-
  DERIVED. GIVEN WITH THE SEED: THE CARDS: each row of YthcoldfgpigdhaaGreatDoorRows.lean that lists a variable, with what it lists TIED to the program's text (the seventh form; the later family's looks); each row that meets fmt, with fmt's text TOLD by the authors' own Lean function (tested against real Go, not proved from fmt's source: count such statements apart). THE CARD IS WHAT COUNTS. Prove the row's statement (the work); the ties are given (YthcoldfgpigdhaaGreatDoorTie.lean); close each card by the builder's one call (the guide's Derived/Test/ToyasCard.lean, 'card_holds'). Laid BY PROGRAM, IN A SANDBOX (cutbox-door.mjs). By AI agents, Wed Nov 11 2026. No macro, syntax, notation, axiom, sorry.
-/
import Derived.Test.YthcoldfgpigdhaaGreatDoorRows
import GoSem.ClaimSeven
namespace Go.Proofs.YthcoldfgpigdhaaGreatDoor
namespace Rows

/-- THE TIED CARD OF 'libevolutionlaw02.SyntaxDepths'. -/
def syntaxDepthsCard : Claim7 := { stood := { row := syntaxDepthsRow, standIns := [], harness := (true, "5098df805bf6c56c1de85f79052fde70afafd71ba4ef207c2ed68a35f98e3e5e"), looks := true }, kinds := [], alts := [], laidByText := true, laidKinds := [.data, .data, .data, .sentinel, .sentinel], laidTests := true, laidLooks := .later }
def SyntaxDepthsCardSaid : Prop := Claim7.holds Tryz.pinned (.plain (OpenSpec.ofChange syntaxDepthsSpec)) syntaxDepthsCard

/-- THE TIED CARD OF 'libevolutionlaw03.PrinterCases'. -/
def printerCasesCard : Claim7 := { stood := { row := printerCasesRow, standIns := [], harness := (true, "5098df805bf6c56c1de85f79052fde70afafd71ba4ef207c2ed68a35f98e3e5e"), looks := true }, kinds := [], alts := [], laidByText := true, laidKinds := [.data, .data, .data, .sentinel, .sentinel], laidTests := true, laidLooks := .later }
def PrinterCasesCardSaid : Prop := Claim7.holds Tryz.pinned (.plain (OpenSpec.ofChange printerCasesSpec)) printerCasesCard

/-- THE SECOND FORM's CARD OF 'libevolutionlaw02.SyntaxDepths'. -/
def syntaxDepthsUptoCard : Claim7 := { stood := { row := syntaxDepthsUptoRow, standIns := [], harness := (true, "5098df805bf6c56c1de85f79052fde70afafd71ba4ef207c2ed68a35f98e3e5e"), looks := true }, kinds := [], alts := [], laidByText := true, laidKinds := [.data, .data, .data, .sentinel, .sentinel], laidTests := true, laidLooks := .later }
def SyntaxDepthsUptoCardSaid : Prop := Claim7.holds Tryz.pinned (.plain (OpenSpec.upto syntaxDepthsSpec)) syntaxDepthsUptoCard

/-- THE SECOND FORM's CARD OF 'libevolutionlaw03.PrinterCases'. -/
def printerCasesUptoCard : Claim7 := { stood := { row := printerCasesUptoRow, standIns := [], harness := (true, "5098df805bf6c56c1de85f79052fde70afafd71ba4ef207c2ed68a35f98e3e5e"), looks := true }, kinds := [], alts := [], laidByText := true, laidKinds := [.data, .data, .data, .sentinel, .sentinel], laidTests := true, laidLooks := .later }
def PrinterCasesUptoCardSaid : Prop := Claim7.holds Tryz.pinned (.plain (OpenSpec.upto printerCasesSpec)) printerCasesUptoCard
end Rows
end Go.Proofs.YthcoldfgpigdhaaGreatDoor
