/-
  DERIVED. GIVEN WITH THE SEED: THE CARDS: each row of YtbjmadcbhkeenaaDoorRows.lean that lists a variable, with what it lists TIED to the program's text (the seventh form; the later family's looks); each row that meets fmt, with fmt's text TOLD by the authors' own Lean function (tested against real Go, not proved from fmt's source: count such statements apart). THE CARD IS WHAT COUNTS. Prove the row's statement (the work); the ties are given (YtbjmadcbhkeenaaDoorTie.lean); close each card by the builder's one call (the guide's Derived/Test/ToyasCard.lean, 'card_holds'). Laid BY PROGRAM, IN A SANDBOX (cutbox-door.mjs). By AI agents, Wed Nov 11 2026. No macro, syntax, notation, axiom, sorry.
-/
import Derived.Test.YtbjmadcbhkeenaaDoorRows
import GoSem.ClaimSeven
namespace Go.Proofs.YtbjmadcbhkeenaaDoor
namespace Rows

/-- THE TIED CARD OF 'keylaw2.IDsMatch'. -/
def iDsMatchCard : Claim7 := { stood := { row := iDsMatchRow, standIns := [], harness := (true, "c9a65037469ec6dc91b71ebb120246986ed4974bb24a64c08316ff58c8930c84"), looks := false }, kinds := [], alts := [], laidByText := true, laidKinds := [.data, .pinned], laidTests := true, laidLooks := .later }
def IDsMatchCardSaid : Prop := Claim7.holds Tryd.pinned (.plain (OpenSpec.ofChange iDsMatchSpec)) iDsMatchCard

/-- THE SECOND FORM's CARD OF 'keylaw2.IDsMatch'. -/
def iDsMatchUptoCard : Claim7 := { stood := { row := iDsMatchUptoRow, standIns := [], harness := (true, "c9a65037469ec6dc91b71ebb120246986ed4974bb24a64c08316ff58c8930c84"), looks := false }, kinds := [], alts := [], laidByText := true, laidKinds := [.data, .pinned], laidTests := true, laidLooks := .later }
def IDsMatchUptoCardSaid : Prop := Claim7.holds Tryd.pinned (.plain (OpenSpec.upto iDsMatchSpec)) iDsMatchUptoCard
end Rows
end Go.Proofs.YtbjmadcbhkeenaaDoor
