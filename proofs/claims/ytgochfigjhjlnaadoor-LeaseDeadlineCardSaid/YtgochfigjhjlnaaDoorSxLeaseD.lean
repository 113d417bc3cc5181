/- The seat of the leases: the runner over its program. -/
import Derived.Test.YtgochfigjhjlnaaDoorTie
import Derived.Test.YtgochfigjhjlnaaDoorCards
import Derived.Test.YtgochfigjhjlnaaDoorSxKeysD
import Derived.Lay
import Derived.Stop.Joined
import Derived.SevenTiedAt
namespace Go.Proofs.YtgochfigjhjlnaaDoor
open Go Go.Sx Go.ChangeShapes Go.WideShapes Go.ChangeAt Go.RowKit

theorem own : ownKnob Tryd.prog.godebug = none := by kernel_rfl
theorem laidOut : laidOutB Tryd.prog = true := by kernel_rfl

noncomputable def cx (b : List (BE × Bool)) : Cx := { P := Tryd.prog, ng := 0, ro := 0, exts := [(99, 1)], meths := [], hintI := [], hintB := b, told := toldSorted 41 59 3 }

theorem no_next : Tryd.prog.funcs.toList.all (fun fn => fn.body.isSome || (Extern.findNext fn).isNone) = true := by kernel_rfl
theorem no_named : Tryd.prog.funcs.toList.all (fun fn => !(fn.name == "runtime.NumGoroutine")) = true := by kernel_rfl
theorem next_none {f : Nat} {fn : Func} (h : Tryd.prog.funcs[f]? = some fn) (hb : fn.body = none) : Extern.findNext fn = none := by
  have hm : fn ∈ Tryd.prog.funcs.toList := by simpa using Array.mem_of_getElem? h
  have := List.all_eq_true.1 no_next fn hm
  rw [hb] at this
  simpa using this

theorem cxOk (b : List (BE × Bool)) : CxOk (cx b) := by
  refine ⟨Tryd.checked.mixed, fun f fn h => ?_, fun f x hx fn h hb => ⟨next_none h hb, ?_⟩, fun t n f h a w => ?_⟩
  · replace h : Tryd.prog.funcs[f]? = some fn := h
    have hm : fn ∈ Tryd.prog.funcs.toList := by simpa using Array.mem_of_getElem? h
    simpa using List.all_eq_true.1 no_named fn hm
  · have find : ∀ {g : Nat} {e : Array Value → Sem Value}, (Tryd.prog.funcs[g]?).bind Extern.find = some e → f = g → Extern.find fn = some e := by
      intro g e h1 h2
      subst h2
      rw [show Tryd.prog.funcs[f]? = some fn from h] at h1
      exact h1
    have pick : ∀ {g y : Nat} {r : List (FuncId × Nat)}, lookE ((g, y) :: r) f = some x → (f = g ∧ x = y) ∨ lookE r f = some x := by
      intro g y r h
      simp only [lookE] at h
      cases hc : Nat.beq g f with
      | true => rw [hc] at h; exact .inl ⟨(beq_true.1 hc).symm, (Option.some.inj h).symm⟩
      | false => rw [hc] at h; exact .inr h
    replace hx : lookE [(99, 1)] f = some x := hx
    rcases pick hx with ⟨h1, rfl⟩ | hx
    · exact ⟨_, find (e := Extern.BytealgIndexByte.indexByte) (by kernel_rfl) h1, rfl⟩
    cases hx
  · replace h : lookM [] t n = some f := h
    cases h

theorem begins (W : World) (b : List (BE × Bool)) (ρ : Env) : HRel (cx b) ρ W (fun _ => none) { blocks := .nil, next := 0 } W := by
  refine ⟨?_, ?_, ?_, ?_, Nat.le_refl _, Nat.le_refl _, ?_, fun _ _ => rfl, Nat.le_refl _, rfl, rfl, rfl⟩
  · intro id sb h; cases h
  · intro id p h; cases h
  · intro id p h; cases h
  · intro id id' sb sb' p p' h; cases h
  · intro g h; exact absurd h (Nat.not_lt_zero _)

theorem ran {W : World} {b : List (BE × Bool)} {ρ : Env} (hh : Hints (cx b) ρ) {f : Nat} {g : FuncId} {args : List SV} {A : Array Value} (hA : VRels (fun _ => none) ρ args A.toList)
    (e : (call (cx b) f g args { blocks := .nil, next := 0 }).map (·.1) = some (.bool (.lit true))) :
    Calls Tryd.prog g A W fun e w' => e = .returned (.bool true) ∧ Below W.heap.size W w' := by
  cases hc : call (cx b) f g args { blocks := .nil, next := 0 } with
  | none => rw [hc] at e; cases e
  | some q =>
    obtain ⟨v, h'⟩ := q
    rw [hc] at e
    simp only [Option.map_some, Option.some.injEq] at e
    subst e
    refine (call_sound (cxOk b) hh (fun g args h v h' e σ A w hA hr => told_sorted sortedOk e hA hr) hc hA (begins W b ρ)).mono ?_
    rintro e w' ⟨V, τ, _, rfl, hV, hr'⟩
    simp only [VRel, BE.ev, Option.some.injEq] at hV
    obtain ⟨_, rfl, rfl⟩ := hV
    exact ⟨rfl, hr'.below⟩
end Go.Proofs.YtgochfigjhjlnaaDoor
