/- A row's closed facts, one by one. -/
import Derived.Test.YtacbfdokeiechaaGreatDoorTie
import Derived.JoinedOf
import Derived.Test.YtacbfdokeiechaaGreatDoorSxHf9
import Derived.Test.YtacbfdokeiechaaGreatDoorSxHf10
import Derived.Test.YtacbfdokeiechaaGreatDoorSxHf11
import Derived.Test.YtacbfdokeiechaaGreatDoorSxHf12
import Derived.Test.YtacbfdokeiechaaGreatDoorSxHfA
import Derived.Test.YtacbfdokeiechaaGreatDoorSxHfB
namespace Go.Proofs.YtacbfdokeiechaaGreatDoor.houseNil
open Go
set_option maxRecDepth 100000

theorem facts : joinedFacts Tryz.prog 3 Tryz.f3 Rows.houseNilSpec Rows.houseNilRow = true := by
  unfold joinedFacts
  simp only [Bool.and_eq_true]
  exact ⟨⟨⟨⟨⟨⟨⟨⟨⟨⟨⟨⟨⟨⟨⟨⟨⟨⟨⟨⟨⟨⟨⟨⟨⟨⟨⟨⟨⟨⟨⟨fact0, fact1⟩, fact2⟩, fact3⟩, fact4⟩, fact5⟩, fact6⟩, fact7⟩, fact8⟩, fact9⟩, fact10⟩, fact11⟩, fact12⟩, fact13⟩, fact14⟩, fact15⟩, fact16⟩, fact17⟩, fact18⟩, fact19⟩, fact20⟩, fact21⟩, fact22⟩, fact23⟩, fact24⟩, fact25⟩, fact26⟩, fact27⟩, fact28⟩, fact29⟩, fact30⟩, fact31⟩
end Go.Proofs.YtacbfdokeiechaaGreatDoor.houseNil
