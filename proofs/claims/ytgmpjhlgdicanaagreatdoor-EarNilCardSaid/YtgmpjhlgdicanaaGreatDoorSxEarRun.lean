/- EarNil: the runner takes the law to true: one evaluation by the kernel. -/
import Derived.Test.YtgmpjhlgdicanaaGreatDoorSxEar
namespace Go.Proofs.YtgmpjhlgdicanaaGreatDoor.earNil
open Go Go.Sx
theorem runs : (call (cx []) 1000000 3 [.str (.var 0)] { blocks := .nil, next := 0 }).map (·.1) = some (.bool (.lit true)) := by kernel_rfl
end Go.Proofs.YtgmpjhlgdicanaaGreatDoor.earNil
