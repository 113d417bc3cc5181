/- HouseNil: the runner takes the law to true: one evaluation by the kernel a way. -/
import Derived.Test.YtacbfdokeiechaaGreatDoorSxHouseMemo
namespace Go.Proofs.YtacbfdokeiechaaGreatDoor.houseNil
open Go Go.Sx
def eK : IE := .tmod (.wrap .u64 (.var 0)) (.lit 6)
def arg : SV := .agg [.int .i64 (.var 0), .int .i64 (.var 1), .int .i64 (.var 2), .str (.var 0), .dyn 0]
theorem runs0 : (call (cx ev [(eK, .lit 0)] []) 1000000 3 [arg] { blocks := .nil, next := 1 }).map (·.1) = some (.bool (.lit true)) := by kernel_rfl
end Go.Proofs.YtacbfdokeiechaaGreatDoor.houseNil
