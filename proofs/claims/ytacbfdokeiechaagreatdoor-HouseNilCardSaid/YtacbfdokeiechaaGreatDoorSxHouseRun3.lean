/- HouseNil: the runner takes the law to true: one evaluation by the kernel a way. -/
import Derived.Test.YtacbfdokeiechaaGreatDoorSxHouseRun0
namespace Go.Proofs.YtacbfdokeiechaaGreatDoor.houseNil
open Go Go.Sx
theorem runs3 : (call (cx ev [(eK, .lit 3)] []) 1000000 3 [arg] { blocks := .nil, next := 1 }).map (·.1) = some (.bool (.lit true)) := by kernel_rfl
end Go.Proofs.YtacbfdokeiechaaGreatDoor.houseNil
