/- The card's closed facts, one by one. -/
import Derived.Test.YtacbfdokeiechaaGreatDoorTie
import Derived.Test.YtacbfdokeiechaaGreatDoorCards
namespace Go.Proofs.YtacbfdokeiechaaGreatDoor.houseNil
open Go
set_option maxRecDepth 100000
theorem cardWf : Rows.houseNilRow.wfByText (OpenSpec.ofChange Rows.houseNilSpec) = true := by kernel_rfl
theorem cardMain : Tryz.prog.mainIs = some (true, "ba2f1de95bdc86284c67312792778b37fbe8166849b75ad47b326fbeb50ef217".toList) := by kernel_rfl
theorem cardFunc : Tryz.prog.funcNamed "tidewater/tidewaterlaw19.HouseNil" = some 3 := by kernel_rfl
theorem cardLooks : true = Tryz.prog.looks [] := by kernel_rfl
theorem cardStand : ([24].all fun u => !Tryz.prog.wantsStandIn u) = true := by kernel_rfl
theorem noneGo : Tryz.prog.funcs.any Func.goes = false := by kernel_rfl
theorem goes_none {P : Program} (h : P.funcs.any Func.goes = false) (f : FuncId) : P.goes f = false := by
  unfold Program.goes
  rw [h, Bool.and_false, Bool.or_false]
  rw [List.any_eq_false]
  intro g _
  cases hg : P.funcs[g]? with
  | none => simp
  | some fn =>
    have := Array.any_eq_false.1 h g (Array.getElem?_eq_some_iff.1 hg).1
    rw [(Array.getElem?_eq_some_iff.1 hg).2] at this
    simpa using this
theorem cardGoes : false = Rows.houseNilRow.goesBy Tryz.prog := by
  have h : ∀ o : Option FuncId, o.any Tryz.prog.goes = false := fun o => by cases o <;> simp [goes_none noneGo]
  unfold OpenClaim.goesBy Program.goesAt Program.goesFrom
  rw [h]
  rfl
end Go.Proofs.YtacbfdokeiechaaGreatDoor.houseNil
