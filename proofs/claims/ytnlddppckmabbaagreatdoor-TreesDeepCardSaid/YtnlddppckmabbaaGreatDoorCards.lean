/-
  DERIVED. GIVEN WITH THE SEED: THE CARDS: each row of YtnlddppckmabbaaGreatDoorRows.lean that lists a variable, with what it lists TIED to the program's text (the seventh form; the later family's looks); each row that meets fmt, with fmt's text TOLD by the authors' own Lean function (tested against real Go, not proved from fmt's source: count such statements apart). THE CARD IS WHAT COUNTS. Prove the row's statement (the work); the ties are given (YtnlddppckmabbaaGreatDoorTie.lean); close each card by the builder's one call (the guide's Derived/Test/ToyasCard.lean, 'card_holds'). Laid BY PROGRAM, IN A SANDBOX (cutbox-door.mjs). By AI agents, Wed Nov 11 2026. No macro, syntax, notation, axiom, sorry.
-/
import Derived.Test.YtnlddppckmabbaaGreatDoorRows
import GoSem.ClaimSeven
namespace Go.Proofs.YtnlddppckmabbaaGreatDoor
namespace Rows

/-- THE TIED CARD OF 'tidewaterlaw03.TreesStuck'. -/
def treesStuckCard : Claim7 := { stood := { row := treesStuckRow, standIns := [], harness := (true, "04494e4bc737e2d14ffaefe7d6469cbf76b633e9b39c96973ac08cb4f201214a"), looks := true }, kinds := [], alts := [], laidByText := true, laidKinds := [.data, .pinned], laidTests := true, laidLooks := .later }
def TreesStuckCardSaid : Prop := Claim7.holds Tryz.pinned (.plain (OpenSpec.ofChange treesStuckSpec)) treesStuckCard

/-- THE TIED CARD OF 'tidewaterlaw03.TreesDeep'. -/
def treesDeepCard : Claim7 := { stood := { row := treesDeepRow, standIns := [], harness := (true, "04494e4bc737e2d14ffaefe7d6469cbf76b633e9b39c96973ac08cb4f201214a"), looks := true }, kinds := [], alts := [], laidByText := true, laidKinds := [.data, .pinned], laidTests := true, laidLooks := .later }
def TreesDeepCardSaid : Prop := Claim7.holds Tryz.pinned (.plain (OpenSpec.ofChange treesDeepSpec)) treesDeepCard

/-- THE TIED CARD OF 'tidewaterlaw03.TreesSame'. -/
def treesSameCard : Claim7 := { stood := { row := treesSameRow, standIns := [], harness := (true, "04494e4bc737e2d14ffaefe7d6469cbf76b633e9b39c96973ac08cb4f201214a"), looks := true }, kinds := [], alts := [], laidByText := true, laidKinds := [.data, .pinned], laidTests := true, laidLooks := .later }
def TreesSameCardSaid : Prop := Claim7.holds Tryz.pinned (.plain (OpenSpec.ofChange treesSameSpec)) treesSameCard

/-- THE TIED CARD OF 'tidewaterlaw03.TreesWrite'. -/
def treesWriteCard : Claim7 := { stood := { row := treesWriteRow, standIns := [], harness := (true, "04494e4bc737e2d14ffaefe7d6469cbf76b633e9b39c96973ac08cb4f201214a"), looks := true }, kinds := [], alts := [], laidByText := true, laidKinds := [.data, .pinned], laidTests := true, laidLooks := .later }
def TreesWriteCardSaid : Prop := Claim7.holds Tryz.pinned (.plain (OpenSpec.ofChange treesWriteSpec)) treesWriteCard

/-- THE SECOND FORM's CARD OF 'tidewaterlaw03.TreesStuck'. -/
def treesStuckUptoCard : Claim7 := { stood := { row := treesStuckUptoRow, standIns := [], harness := (true, "04494e4bc737e2d14ffaefe7d6469cbf76b633e9b39c96973ac08cb4f201214a"), looks := true }, kinds := [], alts := [], laidByText := true, laidKinds := [.data, .pinned], laidTests := true, laidLooks := .later }
def TreesStuckUptoCardSaid : Prop := Claim7.holds Tryz.pinned (.plain (OpenSpec.upto treesStuckSpec)) treesStuckUptoCard

/-- THE SECOND FORM's CARD OF 'tidewaterlaw03.TreesDeep'. -/
def treesDeepUptoCard : Claim7 := { stood := { row := treesDeepUptoRow, standIns := [], harness := (true, "04494e4bc737e2d14ffaefe7d6469cbf76b633e9b39c96973ac08cb4f201214a"), looks := true }, kinds := [], alts := [], laidByText := true, laidKinds := [.data, .pinned], laidTests := true, laidLooks := .later }
def TreesDeepUptoCardSaid : Prop := Claim7.holds Tryz.pinned (.plain (OpenSpec.upto treesDeepSpec)) treesDeepUptoCard

/-- THE SECOND FORM's CARD OF 'tidewaterlaw03.TreesSame'. -/
def treesSameUptoCard : Claim7 := { stood := { row := treesSameUptoRow, standIns := [], harness := (true, "04494e4bc737e2d14ffaefe7d6469cbf76b633e9b39c96973ac08cb4f201214a"), looks := true }, kinds := [], alts := [], laidByText := true, laidKinds := [.data, .pinned], laidTests := true, laidLooks := .later }
def TreesSameUptoCardSaid : Prop := Claim7.holds Tryz.pinned (.plain (OpenSpec.upto treesSameSpec)) treesSameUptoCard

/-- THE SECOND FORM's CARD OF 'tidewaterlaw03.TreesWrite'. -/
def treesWriteUptoCard : Claim7 := { stood := { row := treesWriteUptoRow, standIns := [], harness := (true, "04494e4bc737e2d14ffaefe7d6469cbf76b633e9b39c96973ac08cb4f201214a"), looks := true }, kinds := [], alts := [], laidByText := true, laidKinds := [.data, .pinned], laidTests := true, laidLooks := .later }
def TreesWriteUptoCardSaid : Prop := Claim7.holds Tryz.pinned (.plain (OpenSpec.upto treesWriteSpec)) treesWriteUptoCard
end Rows
end Go.Proofs.YtnlddppckmabbaaGreatDoor
