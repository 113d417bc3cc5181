/- So deep, and not deeper: by the runner: one of the nine cases: the number leaves 1. -/
import Derived.Test.YtnlddppckmabbaaGreatDoorSxTree
namespace Go.Proofs.YtnlddppckmabbaaGreatDoor
open Go Go.Sx
theorem deep1 (t0 t1 : TypeId) : (call (cx [(.tmod (.wrap .u64 (.var 0)) (.lit 9), 1)] []) 1000000 4 [.int .i64 (.var 0)] (h0 t0 t1)).map (·.1) = some (.bool (.lit true)) := by kernel_rfl
end Go.Proofs.YtnlddppckmabbaaGreatDoor
