/- HouseNil: whatever step is given, the law returns true, and its argument reads as it did; what the listed tables hold is tied to the program's text. -/
import Derived.Test.YtacbfdokeiechaaGreatDoorSxHouseLift
import Derived.Test.YtacbfdokeiechaaGreatDoorSxHf
import Derived.Test.YtacbfdokeiechaaGreatDoorSxHfC
namespace Go.Proofs.YtacbfdokeiechaaGreatDoor.houseNil
open Go Go.Sx Go.ChangeMaps Go.ChangeShapes Go.WideShapes Go.ChangeAt Go.RowKit

theorem over : Rows.HouseNilSaid :=
  OpenClaim.holds_of_wide 3 Tryz.f3 rfl rfl rfl rfl rfl rfl rfl ⟨rfl, rfl, rfl, rfl, rfl⟩ rfl rfl rfl rfl rfl cardFunc Tryz.func3 facts
    (of_decide_eq_true (by kernel_rfl)) (by unfold Func.isWrapper; first | (rw [if_pos (by decide +kernel)]; kernel_rfl) | (rw [if_neg (by decide +kernel)]; exact ⟨rfl, rfl⟩))
    (fun os started H enc _ => lifted os started H enc)

theorem proved : Rows.HouseNilCardSaid :=
  Claim7.holds_tied_plain_at .later [] [.data, .data, .data, .data, .pinned] true (true, "ba2f1de95bdc86284c67312792778b37fbe8166849b75ad47b326fbeb50ef217") true
    over (fun _ h => by cases h) cardWf (fun _ h => by cases h) houseNil_row_tie rfl ⟨rfl, rfl⟩ cardMain rfl
    (fun f fn hf hfn => by
      obtain rfl : f = 3 := Option.some.inj (cardFunc.symm.trans hf) |>.symm
      obtain rfl : fn = Tryz.f3 := (Option.some.inj (Tryz.func3.symm.trans hfn)).symm
      exact ⟨cardLooks, fun j t ht => by
        rw [Tryz.params3] at ht
        have hm : t ∈ [24] := by simpa using Array.mem_of_getElem? ht
        exact (show Tryz.prog.wantsStandIn t = false by simpa using List.all_eq_true.1 cardStand t hm)⟩)
    cardGoes
#print axioms proved
end Go.Proofs.YtacbfdokeiechaaGreatDoor.houseNil
