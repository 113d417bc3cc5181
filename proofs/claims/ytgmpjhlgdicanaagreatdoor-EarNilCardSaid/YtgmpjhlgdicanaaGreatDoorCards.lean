/-
  DERIVED. GIVEN WITH THE SEED: THE CARDS: each row of YtgmpjhlgdicanaaGreatDoorRows.lean that lists a variable, with what it lists TIED to the program's text (the seventh form; the later family's looks); each row that meets fmt, with fmt's text TOLD by the authors' own Lean function (tested against real Go, not proved from fmt's source: count such statements apart). THE CARD IS WHAT COUNTS. Prove the row's statement (the work); the ties are given (YtgmpjhlgdicanaaGreatDoorTie.lean); close each card by the builder's one call (the guide's Derived/Test/ToyasCard.lean, 'card_holds'). Laid BY PROGRAM, IN A SANDBOX (cutbox-door.mjs). By AI agents, Wed Nov 11 2026. No macro, syntax, notation, axiom, sorry.
-/
import Derived.Test.YtgmpjhlgdicanaaGreatDoorRows
import GoSem.ClaimSeven
namespace Go.Proofs.YtgmpjhlgdicanaaGreatDoor
namespace Rows

/-- THE TIED CARD OF 'tidewaterlaw22.EarNil'. -/
def earNilCard : Claim7 := { stood := { row := earNilRow, standIns := [], harness := (true, "8dc482925d73fba14505339afb97e73dbc0c7de1ad1ae98bdb28669c664a6006"), looks := true }, kinds := [], alts := [], laidByText := true, laidKinds := [.data, .data, .data, .data, .pinned], laidTests := true, laidLooks := .later }
def EarNilCardSaid : Prop := Claim7.holds Tryz.pinned (.plain (OpenSpec.ofChange earNilSpec)) earNilCard

/-- THE SECOND FORM's CARD OF 'tidewaterlaw22.EarNil'. -/
def earNilUptoCard : Claim7 := { stood := { row := earNilUptoRow, standIns := [], harness := (true, "8dc482925d73fba14505339afb97e73dbc0c7de1ad1ae98bdb28669c664a6006"), looks := true }, kinds := [], alts := [], laidByText := true, laidKinds := [.data, .data, .data, .data, .pinned], laidTests := true, laidLooks := .later }
def EarNilUptoCardSaid : Prop := Claim7.holds Tryz.pinned (.plain (OpenSpec.upto earNilSpec)) earNilUptoCard
end Rows
end Go.Proofs.YtgmpjhlgdicanaaGreatDoor
