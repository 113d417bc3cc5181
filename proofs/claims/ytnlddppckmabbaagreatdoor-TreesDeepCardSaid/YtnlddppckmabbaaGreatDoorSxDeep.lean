/- TreesDeep: whatever number is given, the law returns true, and its argument reads as it did; what the two tables of utf8 hold is tied to the program's text. -/
import Derived.Test.YtnlddppckmabbaaGreatDoorSxDeep0
import Derived.Test.YtnlddppckmabbaaGreatDoorSxDeep1
import Derived.Test.YtnlddppckmabbaaGreatDoorSxDeep2
import Derived.Test.YtnlddppckmabbaaGreatDoorSxDeep3
import Derived.Test.YtnlddppckmabbaaGreatDoorSxDeep4
import Derived.Test.YtnlddppckmabbaaGreatDoorSxDeep5
import Derived.Test.YtnlddppckmabbaaGreatDoorSxDeep6
import Derived.Test.YtnlddppckmabbaaGreatDoorSxDeep7
import Derived.Test.YtnlddppckmabbaaGreatDoorSxDeep8
import Derived.SevenTiedAt
namespace Go.Proofs.YtnlddppckmabbaaGreatDoor.treesDeep
open Go Go.Sx Go.ChangeShapes Go.WideShapes Go.ChangeAt Go.RowKit
set_option linter.unusedVariables false

theorem walk (a0 : Int) (W : World) (hL : laidMetH Tryz.prog laid W) :
    Calls Tryz.prog 4 #[.int .i64 a0] W fun e w' => e = .returned (.bool true) ∧ Below W.heap.size W w' := by
  let ρ : Env := { i := fun _ => some a0, s := fun _ => none }
  have hA : VRels (sg0 256 32) ρ [.int .i64 (.var 0)] (#[.int .i64 a0] : Array Value).toList := by simp [VRels, VRel, ρ, IE.ev]
  have hev : (IE.tmod (.wrap .u64 (.var 0)) (.lit 9)).ev ρ = some ((IntKind.u64.wrap a0).tmod 9) := rfl
  have hb : 0 ≤ (IntKind.u64.wrap a0).tmod 9 ∧ (IntKind.u64.wrap a0).tmod 9 < 9 := by
    have : 0 ≤ IntKind.u64.wrap a0 := by simp [IntKind.wrap, IntKind.bits, IntKind.signed]; omega
    exact ⟨Int.tmod_nonneg _ this, Int.tmod_lt_of_pos _ (by decide)⟩
  have hh : ∀ c : Int, (IntKind.u64.wrap a0).tmod 9 = c → Hints (cx [(.tmod (.wrap .u64 (.var 0)) (.lit 9), c)] []) ρ := by
    intro c hc
    refine ⟨fun x hx => ?_, fun x hx => ?_⟩
    · replace hx : x ∈ [((IE.tmod (.wrap .u64 (.var 0)) (.lit 9)), c)] := hx
      simp only [List.mem_singleton] at hx
      subst hx
      rw [hev, hc]
    · replace hx : x ∈ ([] : List (BE × Bool)) := hx
      cases hx
  generalize (IntKind.u64.wrap a0).tmod 9 = n at hb hh
  obtain ⟨h1, h2⟩ := hb
  have hn : n = 0 ∨ n = 1 ∨ n = 2 ∨ n = 3 ∨ n = 4 ∨ n = 5 ∨ n = 6 ∨ n = 7 ∨ n = 8 := by omega
  rcases hn with rfl | rfl | rfl | rfl | rfl | rfl | rfl | rfl | rfl
  · exact ran hL (hh _ rfl) hA deep0
  · exact ran hL (hh _ rfl) hA deep1
  · exact ran hL (hh _ rfl) hA deep2
  · exact ran hL (hh _ rfl) hA deep3
  · exact ran hL (hh _ rfl) hA deep4
  · exact ran hL (hh _ rfl) hA deep5
  · exact ran hL (hh _ rfl) hA deep6
  · exact ran hL (hh _ rfl) hA deep7
  · exact ran hL (hh _ rfl) hA deep8

set_option maxRecDepth 100000 in
theorem lifted (os : Os) (started : os.Started) (H : Type) (enc : TypeId × Value → H) :
    ReturnsInHanded {} Tryz.checked os 4 .any (fun w args => (Rows.treesDeepSpec.pre enc Tryz.prog Tryz.f4 Rows.treesDeepRow.domain false w args ∧ laidMetH Tryz.prog laid w) ∧ sizedMet enc Tryz.prog Tryz.f4 (OpenSpec.ofChange Rows.treesDeepSpec) false w args)
      (Rows.treesDeepSpec.post enc Tryz.prog Tryz.f4 false true false false) := by
  refine returnsInHanded_of_change_and (C := Tryz.checked) (X := fun w _ => laidMetH Tryz.prog laid w) (fun _ _ _ hh h => h.of_heap hh) own started (by kernel_rfl) Tryz.func4
    (ChangeSpec.witness_shaped (enc := enc) (C := Tryz.checked) (os := os) (X := fun w _ => laidMetH Tryz.prog laid w) false (World.laidAll Tryz.prog os laid) #[.int .i64 0] 8 (World.laidAll_os _ _ _)
      (World.shaped_of_ZipB (by kernel_rfl) (by kernel_rfl)) (by kernel_rfl) (by kernel_rfl) (by kernel_rfl)
      (by rw [MakeChecks.laidMetH_plain _ _ _ (by kernel_rfl)]; exact laidMet_laidAll _ (by kernel_rfl) (by kernel_rfl))) ?_
  intro W base args ds gs before hval0 hW _ _ hL _
  have hval : ∀ (j : Nat) t v, Tryz.f4.params[j]? = some t → args[j]? = some v → Value.okWide Tryz.prog W .any base t v := hval0
  have hW' := hW
  obtain ⟨p, q, hA0, hV, rfl, hfz, hnd⟩ := hW
  have hA : DataW.TrodAll enc Tryz.prog W 0 (fun _ => true) true Tryz.f4.params.toList args.toList ds p := hA0
  rw [Tryz.params4] at hA hval
  obtain ⟨v0, vs0, d0, ds0, p0, q0, hargs, rfl, rfl, h0, r0⟩ := trodAll_cons hA
  obtain ⟨rfl, rfl, rfl⟩ := trodAll_nil r0
  obtain rfl : args = #[v0] := by cases args; simp_all
  obtain ⟨rfl, rfl⟩ := trodVars_none hV
  obtain ⟨a0, rfl, rfl, rfl, w0⟩ := open_int Tryz.underlying3 (hval 0 3 v0 rfl rfl) h0
  clear hA0 hval0
  simp only [List.append_nil] at hW'
  refine (walk a0 W hL).mono fun e W' ⟨he, hg⟩ => ?_
  subst he
  exact ⟨_, rfl, post_of_below (pa := []) (pv := []) hW' (fun _ _ _ => (trodAll_cons_mk (shut_bool Tryz.underlying4 _) trodAll_mk0)) (fun sp _ => (trodAll_cons_mk (shut_int Tryz.underlying3 w0) trodAll_mk0)) (fun _ _ => rfl) rfl
    hg (ok_one (by kernel_rfl) rfl (okWide_bool_mk Tryz.underlying4 _))⟩

theorem over : Rows.TreesDeepSaid :=
  OpenClaim.holds_of_wide 4 Tryz.f4 rfl rfl rfl rfl rfl rfl rfl ⟨rfl, rfl, rfl, rfl, rfl⟩ rfl rfl rfl rfl rfl (by kernel_rfl) Tryz.func4 (by kernel_rfl)
    (of_decide_eq_true (by kernel_rfl)) (by unfold Func.isWrapper; first | (rw [if_pos (by decide +kernel)]; kernel_rfl) | (rw [if_neg (by decide +kernel)]; exact ⟨rfl, rfl⟩))
    (fun os started H enc _ => lifted os started H enc)

theorem proved : Rows.TreesDeepCardSaid :=
  Claim7.holds_tied_plain_at .later [] [.data, .pinned] true (true, "04494e4bc737e2d14ffaefe7d6469cbf76b633e9b39c96973ac08cb4f201214a") true
    over (fun _ h => by cases h) (by kernel_rfl) (fun _ h => by cases h) treesDeep_row_tie rfl ⟨rfl, rfl⟩ (by kernel_rfl) rfl
    (fun f fn hf hfn => by
      obtain rfl : f = 4 := Option.some.inj ((show Tryz.prog.funcNamed "tidewater/tidewaterlaw03.TreesDeep" = some 4 by kernel_rfl).symm.trans hf) |>.symm
      obtain rfl : fn = Tryz.f4 := (Option.some.inj (Tryz.func4.symm.trans hfn)).symm
      exact ⟨by kernel_rfl, fun j t ht => by
        rw [Tryz.params4] at ht
        have hm : t ∈ [3] := by simpa using Array.mem_of_getElem? ht
        have hall : ([3].all fun u => !Tryz.prog.wantsStandIn u) = true := by kernel_rfl
        exact (show Tryz.prog.wantsStandIn t = false by simpa using List.all_eq_true.1 hall t hm)⟩)
    (by kernel_rfl)
#print axioms proved
end Go.Proofs.YtnlddppckmabbaaGreatDoor.treesDeep
