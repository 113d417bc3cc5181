/- A row's closed facts, one by one. -/
import Derived.Test.YtacbfdokeiechaaGreatDoorTie
import Derived.JoinedOf
namespace Go.Proofs.YtacbfdokeiechaaGreatDoor.houseNil
open Go
set_option maxRecDepth 100000

theorem fact12 : (Rows.houseNilRow.named == Tryz.prog.varsNamed 3) = true := by kernel_rfl
end Go.Proofs.YtacbfdokeiechaaGreatDoor.houseNil
