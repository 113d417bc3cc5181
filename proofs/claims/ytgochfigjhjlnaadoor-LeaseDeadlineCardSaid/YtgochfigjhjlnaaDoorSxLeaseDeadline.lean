/- LeaseDeadline: whatever three numbers are given, the law returns true, and its arguments read as they did; what the two tables of utf8 hold is tied to the program's text. -/
import Derived.Test.YtgochfigjhjlnaaDoorSxLeaseD
namespace Go.Proofs.YtgochfigjhjlnaaDoor.leaseDeadline
open Go Go.Sx Go.ChangeShapes Go.WideShapes Go.ChangeAt Go.RowKit
set_option linter.unusedVariables false

def eL : IE := .imin (.imax (.var 0) (.lit 1)) (.lit 1000)
def eA : IE := .wrap .i64 (.tmod (.wrap .u64 (.var 1)) (.lit 100000))
def eB : IE := .wrap .i64 (.tmod (.wrap .u64 (.var 2)) (.lit 2000))
def eAB : IE := .wrap .i64 (.add eA eB)
def eAL : IE := .wrap .i64 (.add eA eL)
def eAB5 : IE := .wrap .i64 (.add eAB (.lit 5000))
def far : IE := .lit 1099511627776
def late : List (BE × Bool) := [(.le eL eB, true), (.le eAL eAB, true), (.lt far eAB, false), (.lt far eA, false), (.lt eAB (.lit 0), false), (.lt eA (.lit 0), false)]
def early : List (BE × Bool) := [(.le eL eB, false), (.le eAL eAB, false), (.lt far eAB, false), (.lt far eA, false), (.lt far eAB5, false), (.lt eAB5 (.lit 0), false), (.lt eAB (.lit 0), false), (.lt eA (.lit 0), false)]

theorem runsLate : (call (cx late) 1000000 3 [.int .i64 (.var 0), .int .i64 (.var 1), .int .i64 (.var 2)] { blocks := .nil, next := 0 }).map (·.1) = some (.bool (.lit true)) := by kernel_rfl
theorem runsEarly : (call (cx early) 1000000 3 [.int .i64 (.var 0), .int .i64 (.var 1), .int .i64 (.var 2)] { blocks := .nil, next := 0 }).map (·.1) = some (.bool (.lit true)) := by kernel_rfl

theorem w64 {n : Int} (h1 : -9223372036854775808 ≤ n) (h2 : n < 9223372036854775808) : IntKind.i64.wrap n = n := by
  simp [IntKind.wrap, IntKind.bits, IntKind.signed]; omega
theorem u64_nonneg (n : Int) : 0 ≤ IntKind.u64.wrap n := by simp [IntKind.wrap, IntKind.bits, IntKind.signed]; omega

theorem walk (z0 z1 z2 : Int) (W : World) :
    Calls Tryd.prog 3 #[.int .i64 z0, .int .i64 z1, .int .i64 z2] W fun e w' => e = .returned (.bool true) ∧ Below W.heap.size W w' := by
  let ρ : Env := { i := fun i => if i = 0 then some z0 else if i = 1 then some z1 else some z2, s := fun _ => none }
  have hA : VRels (fun _ => none) ρ [.int .i64 (.var 0), .int .i64 (.var 1), .int .i64 (.var 2)] (#[.int .i64 z0, .int .i64 z1, .int .i64 z2] : Array Value).toList := by
    simp [VRels, VRel, ρ, IE.ev]
  obtain ⟨a, ha, ha0, ha1⟩ : ∃ a, eA.ev ρ = some a ∧ 0 ≤ a ∧ a < 100000 := by
    have h0 := Int.tmod_nonneg 100000 (u64_nonneg z1)
    have h1 := Int.tmod_lt_of_pos (IntKind.u64.wrap z1) (show (0 : Int) < 100000 by decide)
    refine ⟨IntKind.i64.wrap ((IntKind.u64.wrap z1).tmod 100000), rfl, ?_⟩
    rw [w64 (by omega) (by omega)]; exact ⟨h0, h1⟩
  obtain ⟨b, hb, hb0, hb1⟩ : ∃ b, eB.ev ρ = some b ∧ 0 ≤ b ∧ b < 2000 := by
    have h0 := Int.tmod_nonneg 2000 (u64_nonneg z2)
    have h1 := Int.tmod_lt_of_pos (IntKind.u64.wrap z2) (show (0 : Int) < 2000 by decide)
    refine ⟨IntKind.i64.wrap ((IntKind.u64.wrap z2).tmod 2000), rfl, ?_⟩
    rw [w64 (by omega) (by omega)]; exact ⟨h0, h1⟩
  obtain ⟨l, hl, hl0, hl1⟩ : ∃ l, eL.ev ρ = some l ∧ 1 ≤ l ∧ l ≤ 1000 := by
    refine ⟨if 1000 < (if 1 > z0 then 1 else z0) then 1000 else (if 1 > z0 then 1 else z0), rfl, ?_, ?_⟩ <;> (repeat' split) <;> omega
  have hab : eAB.ev ρ = some (a + b) := by
    have : eAB.ev ρ = ((op2 (· + ·) (eA.ev ρ) (eB.ev ρ)).map IntKind.i64.wrap) := rfl
    rw [this, ha, hb]
    show some (IntKind.i64.wrap (a + b)) = _
    rw [w64 (by omega) (by omega)]
  have hal : eAL.ev ρ = some (a + l) := by
    have : eAL.ev ρ = ((op2 (· + ·) (eA.ev ρ) (eL.ev ρ)).map IntKind.i64.wrap) := rfl
    rw [this, ha, hl]
    show some (IntKind.i64.wrap (a + l)) = _
    rw [w64 (by omega) (by omega)]
  have hab5 : eAB5.ev ρ = some (a + b + 5000) := by
    have : eAB5.ev ρ = ((op2 (· + ·) (eAB.ev ρ) (some 5000)).map IntKind.i64.wrap) := rfl
    rw [this, hab]
    show some (IntKind.i64.wrap (a + b + 5000)) = _
    rw [w64 (by omega) (by omega)]
  have hfar : far.ev ρ = some 1099511627776 := rfl
  have hz : (IE.lit 0).ev ρ = some 0 := rfl
  by_cases hc : l ≤ b
  · refine ran (b := late) (ρ := ρ) ⟨fun x hx => ?_, fun x hx => ?_⟩ hA runsLate
    · replace hx : x ∈ ([] : List (IE × Int)) := hx
      cases hx
    · replace hx : x ∈ late := hx
      simp only [late, List.mem_cons, List.mem_nil_iff, or_false] at hx
      rcases hx with rfl | rfl | rfl | rfl | rfl | rfl <;> simp only [BE.ev, ha, hb, hl, hab, hal, hfar, hz, op2b, Option.some.injEq, decide_eq_true_eq, decide_eq_false_iff_not] <;> omega
  · refine ran (b := early) (ρ := ρ) ⟨fun x hx => ?_, fun x hx => ?_⟩ hA runsEarly
    · replace hx : x ∈ ([] : List (IE × Int)) := hx
      cases hx
    · replace hx : x ∈ early := hx
      simp only [early, List.mem_cons, List.mem_nil_iff, or_false] at hx
      rcases hx with rfl | rfl | rfl | rfl | rfl | rfl | rfl | rfl <;> simp only [BE.ev, ha, hb, hl, hab, hal, hab5, hfar, hz, op2b, Option.some.injEq, decide_eq_false_iff_not] <;> omega

set_option maxRecDepth 100000 in
theorem lifted (os : Os) (started : os.Started) (H : Type) (enc : TypeId × Value → H) :
    ReturnsInHanded {} Tryd.checked os 3 .any (fun w args => (Rows.leaseDeadlineSpec.pre enc Tryd.prog Tryd.f3 Rows.leaseDeadlineRow.domain false w args ∧ laidMetH Tryd.prog Rows.leaseDeadlineRow.laid w) ∧ sizedMet enc Tryd.prog Tryd.f3 (OpenSpec.ofChange Rows.leaseDeadlineSpec) false w args)
      (Rows.leaseDeadlineSpec.post enc Tryd.prog Tryd.f3 false true false false) := by
  refine returnsInHanded_of_change_and (C := Tryd.checked) (X := fun w _ => laidMetH Tryd.prog Rows.leaseDeadlineRow.laid w) (fun _ _ _ hh h => h.of_heap hh) own started (by kernel_rfl) Tryd.func3
    (ChangeSpec.witness_shaped (enc := enc) (C := Tryd.checked) (os := os) (X := fun w _ => laidMetH Tryd.prog Rows.leaseDeadlineRow.laid w) false (World.laidAll Tryd.prog os Rows.leaseDeadlineRow.laid) #[.int .i64 0, .int .i64 0, .int .i64 0] 8 (World.laidAll_os _ _ _)
      (World.shaped_of_ZipB (by kernel_rfl) (by kernel_rfl)) (by kernel_rfl) (by kernel_rfl) (by kernel_rfl)
      (by rw [MakeChecks.laidMetH_plain _ _ _ (by kernel_rfl)]; exact laidMet_laidAll _ (by kernel_rfl) (by kernel_rfl))) ?_
  intro W base args ds gs before hval0 hW _ _ _ _
  have hval : ∀ (j : Nat) t v, Tryd.f3.params[j]? = some t → args[j]? = some v → Value.okWide Tryd.prog W .any base t v := hval0
  have hW' := hW
  obtain ⟨p, q, hA0, hV, rfl, hfz, hnd⟩ := hW
  have hA : DataW.TrodAll enc Tryd.prog W 0 (fun _ => true) true Tryd.f3.params.toList args.toList ds p := hA0
  rw [Tryd.params3] at hA hval
  obtain ⟨v0, vs0, d0, ds0, p0, q0, hargs, rfl, rfl, h0, r0⟩ := trodAll_cons hA
  obtain ⟨v1, vs1, d1, ds1, p1, q1, rfl, rfl, rfl, h1, r1⟩ := trodAll_cons r0
  obtain ⟨v2, vs2, d2, ds2, p2, q2, rfl, rfl, rfl, h2, r2⟩ := trodAll_cons r1
  obtain ⟨rfl, rfl, rfl⟩ := trodAll_nil r2
  obtain rfl : args = #[v0, v1, v2] := by cases args; simp_all
  obtain ⟨rfl, rfl⟩ := trodVars_none hV
  obtain ⟨a0, rfl, rfl, rfl, w0⟩ := open_int Tryd.underlying3 (hval 0 3 v0 rfl rfl) h0
  obtain ⟨a1, rfl, rfl, rfl, w1⟩ := open_int Tryd.underlying3 (hval 1 3 v1 rfl rfl) h1
  obtain ⟨a2, rfl, rfl, rfl, w2⟩ := open_int Tryd.underlying3 (hval 2 3 v2 rfl rfl) h2
  refine (walk a0 a1 a2 W).mono fun e W' ⟨he, hg⟩ => ?_
  subst he
  exact ⟨_, rfl, post_true laidOut (by kernel_rfl) Tryd.underlying4 (by kernel_rfl) rfl hW' rfl rfl rfl hg⟩

theorem over : Rows.LeaseDeadlineSaid :=
  OpenClaim.holds_of_wide 3 Tryd.f3 rfl rfl rfl rfl rfl rfl rfl ⟨rfl, rfl, rfl, rfl, rfl⟩ rfl rfl rfl rfl rfl (by kernel_rfl) Tryd.func3 (by kernel_rfl)
    (of_decide_eq_true (by kernel_rfl)) (by unfold Func.isWrapper; first | (rw [if_pos (by decide +kernel)]; kernel_rfl) | (rw [if_neg (by decide +kernel)]; exact ⟨rfl, rfl⟩))
    (fun os started H enc _ => lifted os started H enc)

theorem proved : Rows.LeaseDeadlineCardSaid :=
  Claim7.holds_tied_plain_at .later [] [.data, .pinned] true (true, "417332d95ee163d96b61b56d8404cca178a7a267e2b92f4eb3718f73ededb92c") false
    over (fun _ h => by cases h) (by kernel_rfl) (fun _ h => by cases h) leaseDeadline_row_tie rfl ⟨rfl, rfl⟩ (by kernel_rfl) rfl
    (fun f fn hf hfn => by
      obtain rfl : f = 3 := Option.some.inj ((show Tryd.prog.funcNamed "tidewater/tidewaterlaw15.LeaseDeadline" = some 3 by kernel_rfl).symm.trans hf) |>.symm
      obtain rfl : fn = Tryd.f3 := (Option.some.inj (Tryd.func3.symm.trans hfn)).symm
      exact ⟨by kernel_rfl, fun j t ht => by
        rw [Tryd.params3] at ht
        have hm : t ∈ [3, 3, 3] := by simpa using Array.mem_of_getElem? ht
        have hall : ([3, 3, 3].all fun u => !Tryd.prog.wantsStandIn u) = true := by kernel_rfl
        exact (show Tryd.prog.wantsStandIn t = false by simpa using List.all_eq_true.1 hall t hm)⟩)
    (by kernel_rfl)
#print axioms proved
end Go.Proofs.YtgochfigjhjlnaaDoor.leaseDeadline
