/-
  DERIVED. GIVEN WITH THE SEED: THE CARDS: each row of YthcmkipbdgndoaaGreatDoorRows.lean that lists a variable, with what it lists TIED to the program's text (the seventh form; the later family's looks); each row that meets fmt, with fmt's text TOLD by the authors' own Lean function (tested against real Go, not proved from fmt's source: count such statements apart). THE CARD IS WHAT COUNTS. Prove the row's statement (the work); the ties are given (YthcmkipbdgndoaaGreatDoorTie.lean); close each card by the builder's one call (the guide's Derived/Test/ToyasCard.lean, 'card_holds'). Laid BY PROGRAM, IN A SANDBOX (cutbox-door.mjs). By AI agents, Wed Nov 11 2026. No macro, syntax, notation, axiom, sorry.
-/
import Derived.Test.YthcmkipbdgndoaaGreatDoorRows
import GoSem.ClaimSeven
namespace Go.Proofs.YthcmkipbdgndoaaGreatDoor
namespace Rows

/-- THE TIED CARD OF 'precentorlaw24.ToolBytes'. -/
def toolBytesCard : Claim7 := { stood := { row := toolBytesRow, standIns := [], harness := (true, "c16df9cca5ac45bc449d3fbe7059fd90cf3eab43a757a5d7ec078c43121d5520"), looks := true }, kinds := [], alts := [], laidByText := true, laidKinds := [.data, .data, .data, .data, .data, .pinned], laidTests := true, laidLooks := .later }
def ToolBytesCardSaid : Prop := Claim7.holds Tryz.pinned (.plain (OpenSpec.ofChange toolBytesSpec)) toolBytesCard

/-- THE TIED CARD OF 'precentorlaw24.ToolNumbers'. -/
def toolNumbersCard : Claim7 := { stood := { row := toolNumbersRow, standIns := [], harness := (true, "c16df9cca5ac45bc449d3fbe7059fd90cf3eab43a757a5d7ec078c43121d5520"), looks := true }, kinds := [], alts := [], laidByText := true, laidKinds := [.data, .data, .data, .data, .data, .pinned], laidTests := true, laidLooks := .later }
def ToolNumbersCardSaid : Prop := Claim7.holds Tryz.pinned (.plain (OpenSpec.ofChange toolNumbersSpec)) toolNumbersCard

/-- THE SECOND FORM's CARD OF 'precentorlaw24.ToolBytes'. -/
def toolBytesUptoCard : Claim7 := { stood := { row := toolBytesUptoRow, standIns := [], harness := (true, "c16df9cca5ac45bc449d3fbe7059fd90cf3eab43a757a5d7ec078c43121d5520"), looks := true }, kinds := [], alts := [], laidByText := true, laidKinds := [.data, .data, .data, .data, .data, .pinned], laidTests := true, laidLooks := .later }
def ToolBytesUptoCardSaid : Prop := Claim7.holds Tryz.pinned (.plain (OpenSpec.upto toolBytesSpec)) toolBytesUptoCard

/-- THE SECOND FORM's CARD OF 'precentorlaw24.ToolNumbers'. -/
def toolNumbersUptoCard : Claim7 := { stood := { row := toolNumbersUptoRow, standIns := [], harness := (true, "c16df9cca5ac45bc449d3fbe7059fd90cf3eab43a757a5d7ec078c43121d5520"), looks := true }, kinds := [], alts := [], laidByText := true, laidKinds := [.data, .data, .data, .data, .data, .pinned], laidTests := true, laidLooks := .later }
def ToolNumbersUptoCardSaid : Prop := Claim7.holds Tryz.pinned (.plain (OpenSpec.upto toolNumbersSpec)) toolNumbersUptoCard
end Rows
end Go.Proofs.YthcmkipbdgndoaaGreatDoor
