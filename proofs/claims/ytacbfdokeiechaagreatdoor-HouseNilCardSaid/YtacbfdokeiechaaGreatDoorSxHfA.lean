/- A row's closed facts, one by one. -/
import Derived.Test.YtacbfdokeiechaaGreatDoorTie
import Derived.JoinedOf
namespace Go.Proofs.YtacbfdokeiechaaGreatDoor.houseNil
open Go
set_option maxRecDepth 100000

theorem fact0 : Rows.houseNilRow.wf (OpenSpec.ofChange Rows.houseNilSpec) = true := by kernel_rfl
theorem fact1 : laidOutB Tryz.prog = true := by kernel_rfl
theorem fact2 : mapsRowed Tryz.prog = true := by kernel_rfl
theorem fact3 : Tryz.f3.params.all (Tryz.prog.readableRec ·) = true := by kernel_rfl
theorem fact4 : namedTie Tryz.prog Rows.houseNilRow.named Rows.houseNilSpec.vars = true := by kernel_rfl
theorem fact5 : (Rows.houseNilRow.stops == []) = true := by kernel_rfl
theorem fact6 : (Tryz.prog.stops == []) = true := by kernel_rfl
theorem fact7 : (Rows.houseNilRow.knobs == []) = true := by kernel_rfl
theorem fact8 : (Tryz.prog.stopKnobs == []) = true := by kernel_rfl
theorem fact13 : (Rows.houseNilRow.maps == (Tryz.f3.params.toList ++ Rows.houseNilSpec.plain.varTypes Tryz.prog).any (Tryz.prog.mapsRec ·)) = true := by kernel_rfl
theorem fact14 : (Rows.houseNilRow.ifaces == (Tryz.f3.params.toList ++ Rows.houseNilSpec.plain.varTypes Tryz.prog).any (Tryz.prog.ifacesRec ·)) = true := by kernel_rfl
theorem fact15 : (Rows.houseNilRow.mapsOut == Tryz.prog.mapsAmong Tryz.f3.resultTypes.toList) = true := by kernel_rfl
theorem fact16 : (Rows.houseNilRow.loops == (Tryz.f3.params.toList ++ Rows.houseNilSpec.plain.varTypes Tryz.prog).any (Tryz.prog.loopsFrom ·)) = true := by kernel_rfl
theorem fact17 : (Rows.houseNilRow.wideKeys == (Tryz.f3.params.toList ++ Rows.houseNilSpec.plain.varTypes Tryz.prog ++ Tryz.f3.resultTypes.toList).any (Tryz.prog.wideKeysFrom ·)) = true := by kernel_rfl
theorem fact18 : Rows.houseNilSpec.vars.all (Tryz.prog.varReadable ·) = true := by kernel_rfl
theorem fact19 : Tryz.f3.resultTypes.all (fun t => Tryz.prog.readableRec t && decide (t < Tryz.prog.types.size)) = true := by kernel_rfl
theorem fact20 : (Rows.houseNilRow.ifacesOut == Tryz.f3.resultTypes.toList.any (Tryz.prog.ifacesRec ·)) = true := by kernel_rfl
theorem fact21 : (Rows.houseNilRow.loopsOut == Tryz.f3.resultTypes.toList.any (Tryz.prog.loopsFrom ·)) = true := by kernel_rfl
theorem fact22 : (Rows.houseNilRow.plainKeys == Tryz.prog.plainKeys) = true := by kernel_rfl
theorem fact23 : Rows.houseNilRow.shortTexts.isNone = true := by kernel_rfl
end Go.Proofs.YtacbfdokeiechaaGreatDoor.houseNil
