/-
  DERIVED. GIVEN WITH THE SEED: THE CARDS: each row of YtndomnacflndmaaGreatDoorRows.lean that lists a variable, with what it lists TIED to the program's text (the seventh form; the later family's looks); each row that meets fmt, with fmt's text TOLD by the authors' own Lean function (tested against real Go, not proved from fmt's source: count such statements apart). THE CARD IS WHAT COUNTS. Prove the row's statement (the work); the ties are given (YtndomnacflndmaaGreatDoorTie.lean); close each card by the builder's one call (the guide's Derived/Test/ToyasCard.lean, 'card_holds'). Laid BY PROGRAM, IN A SANDBOX (cutbox-door.mjs). By AI agents, Wed Nov 11 2026. No macro, syntax, notation, axiom, sorry.
-/
import Derived.Test.YtndomnacflndmaaGreatDoorRows
import GoSem.ClaimSeven
namespace Go.Proofs.YtndomnacflndmaaGreatDoor
namespace Rows

/-- THE TIED CARD OF 'precentorlaw21.MembFits'. -/
def membFitsCard : Claim7 := { stood := { row := membFitsRow, standIns := [], harness := (true, "4c1154447ad009bcdc44a77e7dbf1f26441ec0b8ef3be59f58fc0fbbb8b5fa3c"), looks := true }, kinds := [], alts := [], laidByText := true, laidKinds := [.data], laidTests := true, laidLooks := .later }
def MembFitsCardSaid : Prop := Claim7.holds Tryz.pinned (.plain (OpenSpec.ofChange membFitsSpec)) membFitsCard

/-- THE SECOND FORM's CARD OF 'precentorlaw21.MembFits'. -/
def membFitsUptoCard : Claim7 := { stood := { row := membFitsUptoRow, standIns := [], harness := (true, "4c1154447ad009bcdc44a77e7dbf1f26441ec0b8ef3be59f58fc0fbbb8b5fa3c"), looks := true }, kinds := [], alts := [], laidByText := true, laidKinds := [.data], laidTests := true, laidLooks := .later }
def MembFitsUptoCardSaid : Prop := Claim7.holds Tryz.pinned (.plain (OpenSpec.upto membFitsSpec)) membFitsUptoCard
end Rows
end Go.Proofs.YtndomnacflndmaaGreatDoor
