/- A row's closed facts, one by one. -/
import Derived.Test.YtacbfdokeiechaaGreatDoorTie
import Derived.JoinedOf
namespace Go.Proofs.YtacbfdokeiechaaGreatDoor.houseNil
open Go
set_option maxRecDepth 100000

theorem fact24 : Tryz.prog.stopsHeard = true := by kernel_rfl
theorem fact25 : Tryz.prog.mayEnter = true := by kernel_rfl
theorem fact26 : (Rows.houseNilRow.lifted == Tryz.prog.liftsFinal) = true := by kernel_rfl
theorem fact27 : (Tryz.prog.make == some Rows.houseNilRow.make) = true := by kernel_rfl
theorem fact28 : (Rows.houseNilRow.kinds == (if Rows.houseNilRow.domain.isEmpty then [] else Tryz.f3.params.toList.map fun t => match Tryz.prog.underlying t with | some (.int k) => some k | _ => none)) = true := by kernel_rfl
theorem fact29 : (Rows.houseNilRow.pinned == Rows.houseNilRow.pinnedBy) = true := by kernel_rfl
theorem fact30 : (Rows.houseNilRow.veiled == (Tryz.f3.params.toList ++ Rows.houseNilSpec.plain.varTypes Tryz.prog ++ Tryz.f3.resultTypes.toList).any (Tryz.prog.veiledRec ·)) = true := by kernel_rfl
theorem fact31 : Rows.houseNilRow.veiledFits Tryz.prog Tryz.f3.params.toList (Tryz.f3.params.toList ++ Rows.houseNilSpec.plain.varTypes Tryz.prog ++ Tryz.f3.resultTypes.toList) = true := by kernel_rfl
end Go.Proofs.YtacbfdokeiechaaGreatDoor.houseNil
