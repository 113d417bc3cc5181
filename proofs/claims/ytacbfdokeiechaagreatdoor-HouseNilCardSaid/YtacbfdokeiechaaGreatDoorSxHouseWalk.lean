/- HouseNil: the call, whatever step is given. -/
import Derived.Test.YtacbfdokeiechaaGreatDoorSxHouseRun0
import Derived.Test.YtacbfdokeiechaaGreatDoorSxHouseRun1
import Derived.Test.YtacbfdokeiechaaGreatDoorSxHouseRun2
import Derived.Test.YtacbfdokeiechaaGreatDoorSxHouseRun3
import Derived.Test.YtacbfdokeiechaaGreatDoorSxHouseRun4
import Derived.Test.YtacbfdokeiechaaGreatDoorSxHouseRun5
namespace Go.Proofs.YtacbfdokeiechaaGreatDoor.houseNil
open Go Go.Sx Go.ChangeMaps Go.ChangeShapes Go.WideShapes Go.ChangeAt Go.RowKit
set_option linter.unusedVariables false

theorem u64_nonneg (n : Int) : 0 ≤ IntKind.u64.wrap n := by simp [IntKind.wrap, IntKind.bits, IntKind.signed]; omega

theorem walk (z0 z1 z2 : Int) (s0 : ByteArray) (d : Value) (hd : d.oneCell' = true) (W : World) :
    Calls Tryz.prog 3 #[.agg #[.int .i64 z0, .int .i64 z1, .int .i64 z2, .string s0, d]] W fun e w' => e = .returned (.bool true) ∧ Below W.heap.size W w' := by
  let ρ : Env := { i := fun i => if i = 0 then some z0 else if i = 1 then some z1 else some z2, s := fun _ => some s0 }
  let σ : Sg := ⟨fun _ => none, fun i => if i = 0 then some d else none⟩
  have hev : eK.ev ρ = some ((IntKind.u64.wrap z0).tmod 6) := rfl
  have h0 := Int.tmod_nonneg 6 (u64_nonneg z0)
  have h1 := Int.tmod_lt_of_pos (IntKind.u64.wrap z0) (show (0 : Int) < 6 by decide)
  have hA : VRels σ ρ [arg] (#[.agg #[.int .i64 z0, .int .i64 z1, .int .i64 z2, .string s0, d]] : Array Value).toList := by
    simp only [arg, VRels, VRel]
    exact ⟨_, [], rfl, ⟨_, rfl, _, _, rfl, ⟨z0, rfl, rfl⟩, _, _, rfl, ⟨z1, rfl, rfl⟩, _, _, rfl, ⟨z2, rfl, rfl⟩, _, _, rfl, ⟨s0, rfl, rfl⟩, _, _, rfl, ⟨rfl, hd⟩, rfl⟩, rfl⟩
  have hv : ∀ id V, σ.v id = some V → id < 1 := by
    intro id V h
    by_cases e : id = 0
    · omega
    · simp [σ, e] at h
  have hh : ∀ c : Int, (IntKind.u64.wrap z0).tmod 6 = c → Hints (cx ev [(eK, .lit c)] []) ρ := by
    intro c hc
    refine ⟨fun x hx => ?_, (fun _ h => by cases h), (fun _ h => by cases h), (fun _ h => by cases h)⟩
    replace hx : x ∈ [(eK, IE.lit c)] := hx
    simp only [List.mem_singleton] at hx
    subst hx
    rw [hev, hc]; rfl
  have hk : (IntKind.u64.wrap z0).tmod 6 = 0 ∨ (IntKind.u64.wrap z0).tmod 6 = 1 ∨ (IntKind.u64.wrap z0).tmod 6 = 2 ∨ (IntKind.u64.wrap z0).tmod 6 = 3 ∨ (IntKind.u64.wrap z0).tmod 6 = 4 ∨ (IntKind.u64.wrap z0).tmod 6 = 5 := by omega
  rcases hk with hk | hk | hk | hk | hk | hk
  · exact ran (fun W => ev_told ρ _ _ W) (hh _ hk) (fun _ => rfl) hv hA runs0
  · exact ran (fun W => ev_told ρ _ _ W) (hh _ hk) (fun _ => rfl) hv hA runs1
  · exact ran (fun W => ev_told ρ _ _ W) (hh _ hk) (fun _ => rfl) hv hA runs2
  · exact ran (fun W => ev_told ρ _ _ W) (hh _ hk) (fun _ => rfl) hv hA runs3
  · exact ran (fun W => ev_told ρ _ _ W) (hh _ hk) (fun _ => rfl) hv hA runs4
  · exact ran (fun W => ev_told ρ _ _ W) (hh _ hk) (fun _ => rfl) hv hA runs5

end Go.Proofs.YtacbfdokeiechaaGreatDoor.houseNil
