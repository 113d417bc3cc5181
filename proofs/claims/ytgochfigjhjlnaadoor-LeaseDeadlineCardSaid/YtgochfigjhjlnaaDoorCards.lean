/-
  DERIVED. GIVEN WITH THE SEED: THE CARDS: each row of YtgochfigjhjlnaaDoorRows.lean that lists a variable, with what it lists TIED to the program's text (the seventh form; the later family's looks); each row that meets fmt, with fmt's text TOLD by the authors' own Lean function (tested against real Go, not proved from fmt's source: count such statements apart). THE CARD IS WHAT COUNTS. Prove the row's statement (the work); the ties are given (YtgochfigjhjlnaaDoorTie.lean); close each card by the builder's one call (the guide's Derived/Test/ToyasCard.lean, 'card_holds'). Laid BY PROGRAM, IN A SANDBOX (cutbox-door.mjs). By AI agents, Wed Nov 11 2026. No macro, syntax, notation, axiom, sorry.
-/
import Derived.Test.YtgochfigjhjlnaaDoorRows
import GoSem.ClaimSeven
namespace Go.Proofs.YtgochfigjhjlnaaDoor
namespace Rows

/-- THE TIED CARD OF 'tidewaterlaw15.LeaseDeadline'. -/
def leaseDeadlineCard : Claim7 := { stood := { row := leaseDeadlineRow, standIns := [], harness := (true, "417332d95ee163d96b61b56d8404cca178a7a267e2b92f4eb3718f73ededb92c"), looks := false }, kinds := [], alts := [], laidByText := true, laidKinds := [.data, .pinned], laidTests := true, laidLooks := .later }
def LeaseDeadlineCardSaid : Prop := Claim7.holds Tryd.pinned (.plain (OpenSpec.ofChange leaseDeadlineSpec)) leaseDeadlineCard

/-- THE TIED CARD OF 'tidewaterlaw15.LeaseStays'. -/
def leaseStaysCard : Claim7 := { stood := { row := leaseStaysRow, standIns := [], harness := (true, "417332d95ee163d96b61b56d8404cca178a7a267e2b92f4eb3718f73ededb92c"), looks := false }, kinds := [], alts := [], laidByText := true, laidKinds := [.data, .pinned], laidTests := true, laidLooks := .later }
def LeaseStaysCardSaid : Prop := Claim7.holds Tryd.pinned (.plain (OpenSpec.ofChange leaseStaysSpec)) leaseStaysCard

/-- THE SECOND FORM's CARD OF 'tidewaterlaw15.LeaseDeadline'. -/
def leaseDeadlineUptoCard : Claim7 := { stood := { row := leaseDeadlineUptoRow, standIns := [], harness := (true, "417332d95ee163d96b61b56d8404cca178a7a267e2b92f4eb3718f73ededb92c"), looks := false }, kinds := [], alts := [], laidByText := true, laidKinds := [.data, .pinned], laidTests := true, laidLooks := .later }
def LeaseDeadlineUptoCardSaid : Prop := Claim7.holds Tryd.pinned (.plain (OpenSpec.upto leaseDeadlineSpec)) leaseDeadlineUptoCard

/-- THE SECOND FORM's CARD OF 'tidewaterlaw15.LeaseStays'. -/
def leaseStaysUptoCard : Claim7 := { stood := { row := leaseStaysUptoRow, standIns := [], harness := (true, "417332d95ee163d96b61b56d8404cca178a7a267e2b92f4eb3718f73ededb92c"), looks := false }, kinds := [], alts := [], laidByText := true, laidKinds := [.data, .pinned], laidTests := true, laidLooks := .later }
def LeaseStaysUptoCardSaid : Prop := Claim7.holds Tryd.pinned (.plain (OpenSpec.upto leaseStaysSpec)) leaseStaysUptoCard
end Rows
end Go.Proofs.YtgochfigjhjlnaaDoor
