/-
  DERIVED. GIVEN WITH THE SEED: THE CARDS: each row of YtdhipjoplkpgmaaGreatDoorRows.lean that lists a variable, with what it lists TIED to the program's text (the seventh form; the later family's looks); each row that meets fmt, with fmt's text TOLD by the authors' own Lean function (tested against real Go, not proved from fmt's source: count such statements apart). THE CARD IS WHAT COUNTS. Prove the row's statement (the work); the ties are given (YtdhipjoplkpgmaaGreatDoorTie.lean); close each card by the builder's one call (the guide's Derived/Test/ToyasCard.lean, 'card_holds'). Laid BY PROGRAM, IN A SANDBOX (cutbox-door.mjs). By AI agents, Wed Nov 11 2026. No macro, syntax, notation, axiom, sorry.
-/
import Derived.Test.YtdhipjoplkpgmaaGreatDoorRows
import GoSem.ClaimSeven
namespace Go.Proofs.YtdhipjoplkpgmaaGreatDoor
namespace Rows

/-- THE TIED CARD OF 'keylaw2.HousesFound'. -/
def housesFoundCard : Claim7 := { stood := { row := housesFoundRow, standIns := [], harness := (true, "bc075536ea3f50f80a3c399d419665fde60b5931873e351af1e4339f4b604830"), looks := true }, kinds := [], alts := [], laidByText := true, laidKinds := [.pinned, .data, .data, .listed, .data, .data, .data, .sentinel, .sentinel], laidTests := true, laidLooks := .later }
def HousesFoundCardSaid : Prop := Claim7.holds Tryz.pinned (.plain (OpenSpec.ofChange housesFoundSpec)) housesFoundCard

/-- THE SECOND FORM's CARD OF 'keylaw2.HousesFound'. -/
def housesFoundUptoCard : Claim7 := { stood := { row := housesFoundUptoRow, standIns := [], harness := (true, "bc075536ea3f50f80a3c399d419665fde60b5931873e351af1e4339f4b604830"), looks := true }, kinds := [], alts := [], laidByText := true, laidKinds := [.pinned, .data, .data, .listed, .data, .data, .data, .sentinel, .sentinel], laidTests := true, laidLooks := .later }
def HousesFoundUptoCardSaid : Prop := Claim7.holds Tryz.pinned (.plain (OpenSpec.upto housesFoundSpec)) housesFoundUptoCard
end Rows
end Go.Proofs.YtdhipjoplkpgmaaGreatDoor
