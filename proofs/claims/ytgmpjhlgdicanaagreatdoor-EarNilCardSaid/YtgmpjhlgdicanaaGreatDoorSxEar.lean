/- The seat of the ear: the runner over its program. -/
import Derived.Test.YtgmpjhlgdicanaaGreatDoorTie
import Derived.Test.YtgmpjhlgdicanaaGreatDoorCards
import Derived.Test.YtgmpjhlgdicanaaGreatDoorSxLaid
import Derived.Lay
import Derived.Stop.Joined
import Derived.SevenTiedAt
namespace Go.Proofs.YtgmpjhlgdicanaaGreatDoor
open Go Go.Sx Go.ChangeShapes Go.WideShapes Go.ChangeAt Go.RowKit

theorem own : ownKnob Tryz.prog.godebug = none := by kernel_rfl
theorem laidOut : laidOutB Tryz.prog = true := by kernel_rfl

def exts : List (FuncId × Nat) := [(89, 0), (137, 3), (156, 4), (160, 1), (165, 2), (166, 5), (167, 2), (168, 8), (170, 8), (171, 6), (217, 7)]
def meths : List (TypeId × String × FuncId) := [(208, "Replace", 213)]
noncomputable def cx (b : List (BE × Bool)) : Cx := { P := Tryz.prog, ng := 0, ro := 0, exts := exts, meths := meths, hintI := [], hintB := b }

theorem no_next : Tryz.prog.funcs.toList.all (fun fn => fn.body.isSome || (Extern.findNext fn).isNone) = true := by kernel_rfl
theorem no_named : Tryz.prog.funcs.toList.all (fun fn => !(fn.name == "runtime.NumGoroutine")) = true := by kernel_rfl
theorem next_none {f : Nat} {fn : Func} (h : Tryz.prog.funcs[f]? = some fn) (hb : fn.body = none) : Extern.findNext fn = none := by
  have hm : fn ∈ Tryz.prog.funcs.toList := by simpa using Array.mem_of_getElem? h
  have := List.all_eq_true.1 no_next fn hm
  rw [hb] at this
  simpa using this

theorem cxOk (b : List (BE × Bool)) : CxOk (cx b) := by
  refine ⟨Tryz.checked.mixed, fun f fn h => ?_, fun f x hx fn h hb => ⟨next_none h hb, ?_⟩, fun t n f h a w => ?_⟩
  · replace h : Tryz.prog.funcs[f]? = some fn := h
    have hm : fn ∈ Tryz.prog.funcs.toList := by simpa using Array.mem_of_getElem? h
    simpa using List.all_eq_true.1 no_named fn hm
  · have find : ∀ {g : Nat} {e : Array Value → Sem Value}, (Tryz.prog.funcs[g]?).bind Extern.find = some e → f = g → Extern.find fn = some e := by
      intro g e h1 h2
      subst h2
      rw [show Tryz.prog.funcs[f]? = some fn from h] at h1
      exact h1
    have pick : ∀ {g y : Nat} {r : List (FuncId × Nat)}, lookE ((g, y) :: r) f = some x → (f = g ∧ x = y) ∨ lookE r f = some x := by
      intro g y r h
      simp only [lookE] at h
      cases hc : Nat.beq g f with
      | true => rw [hc] at h; exact .inl ⟨(beq_true.1 hc).symm, (Option.some.inj h).symm⟩
      | false => rw [hc] at h; exact .inr h
    replace hx : lookE exts f = some x := hx
    unfold exts at hx
    rcases pick hx with ⟨h1, rfl⟩ | hx
    · exact ⟨_, find (e := Extern.AbiNoEscape.same) (by kernel_rfl) h1, rfl⟩
    rcases pick hx with ⟨h1, rfl⟩ | hx
    · exact ⟨_, find (e := Extern.Atomic.loadT (.int .u32)) (by kernel_rfl) h1, rfl⟩
    rcases pick hx with ⟨h1, rfl⟩ | hx
    · exact ⟨_, find (e := Extern.Atomic.storeT) (by kernel_rfl) h1, rfl⟩
    rcases pick hx with ⟨h1, rfl⟩ | hx
    · exact ⟨_, find (e := Extern.BytealgIndexByte.indexByte) (by kernel_rfl) h1, rfl⟩
    rcases pick hx with ⟨h1, rfl⟩ | hx
    · exact ⟨_, find (e := fun _ => do mark .disable; pure Extern.Race.none_) (by kernel_rfl) h1, fun _ _ => rfl⟩
    rcases pick hx with ⟨h1, rfl⟩ | hx
    · exact ⟨_, find (e := Extern.Atomic.casT (.int .i32)) (by kernel_rfl) h1, rfl⟩
    rcases pick hx with ⟨h1, rfl⟩ | hx
    · exact ⟨_, find (e := fun _ => do mark .enable; pure Extern.Race.none_) (by kernel_rfl) h1, fun _ _ => rfl⟩
    rcases pick hx with ⟨h1, rfl⟩ | hx
    · exact ⟨_, find (e := Extern.Race.marked .acquire) (by kernel_rfl) h1, fun _ _ => rfl⟩
    rcases pick hx with ⟨h1, rfl⟩ | hx
    · exact ⟨_, find (e := Extern.Race.marked .releaseMerge) (by kernel_rfl) h1, fun _ _ => rfl⟩
    rcases pick hx with ⟨h1, rfl⟩ | hx
    · exact ⟨_, find (e := Extern.Atomic.update (Op.intArith .add) .i32 true) (by kernel_rfl) h1, rfl⟩
    rcases pick hx with ⟨h1, rfl⟩ | hx
    · exact ⟨_, find (e := Extern.BytealgCount.count) (by kernel_rfl) h1, rfl⟩
    cases hx
  · replace h : lookM meths t n = some f := h
    simp only [meths, lookM] at h
    cases hc : (Nat.beq 208 t && decide ("Replace" = n)) with
    | false => rw [hc] at h; cases h
    | true =>
      rw [hc] at h
      simp only [Bool.and_eq_true, decide_eq_true_eq] at hc
      obtain ⟨h1, rfl⟩ := hc
      have := beq_true.1 h1
      subst this
      simp only [cond_true, Option.some.injEq] at h
      subst h
      show (method (Tryz.prog.types.size + Made.depth) 208 (.pointer (some a)) "Replace").run Tryz.prog w = .ok (213, .pointer (some a)) w
      kernel_rfl

theorem begins (W : World) (b : List (BE × Bool)) (ρ : Env) : HRel (cx b) ρ W (fun _ => none) { blocks := .nil, next := 0 } W := by
  refine ⟨?_, ?_, ?_, ?_, Nat.le_refl _, Nat.le_refl _, ?_, fun _ _ => rfl, Nat.le_refl _, rfl, rfl, rfl⟩
  · intro id sb h; cases h
  · intro id p h; cases h
  · intro id p h; cases h
  · intro id id' sb sb' p p' h; cases h
  · intro g h; exact absurd h (Nat.not_lt_zero _)

theorem ran {W : World} {b : List (BE × Bool)} {ρ : Env} (hh : Hints (cx b) ρ) {f : Nat} {g : FuncId} {args : List SV} {A : Array Value} (hA : VRels (fun _ => none) ρ args A.toList)
    (e : (call (cx b) f g args { blocks := .nil, next := 0 }).map (·.1) = some (.bool (.lit true))) :
    Calls Tryz.prog g A W fun e w' => e = .returned (.bool true) ∧ Below W.heap.size W w' := by
  cases hc : call (cx b) f g args { blocks := .nil, next := 0 } with
  | none => rw [hc] at e; cases e
  | some q =>
    obtain ⟨v, h'⟩ := q
    rw [hc] at e
    simp only [Option.map_some, Option.some.injEq] at e
    subst e
    refine (call_sound (cxOk b) hh (fun _ _ _ _ _ h => by cases h) hc hA (begins W b ρ)).mono ?_
    rintro e w' ⟨V, τ, _, rfl, hV, hr'⟩
    simp only [VRel, BE.ev, Option.some.injEq] at hV
    obtain ⟨_, rfl, rfl⟩ := hV
    exact ⟨rfl, hr'.below⟩
end Go.Proofs.YtgmpjhlgdicanaaGreatDoor
