/- The runner over a seat's program. -/
import Derived.Test.YtacbfdokeiechaaGreatDoorTie
import Derived.Test.YtacbfdokeiechaaGreatDoorCards
import Derived.Test.YtacbfdokeiechaaGreatDoorSxKeysH
import Derived.Test.YtacbfdokeiechaaGreatDoorSxMemo
import Derived.Lay
import Derived.Stop.Joined
import Derived.SevenTiedAt
namespace Go.Proofs.YtacbfdokeiechaaGreatDoor
open Go Go.Sx Go.ChangeShapes Go.WideShapes Go.ChangeAt Go.RowKit

theorem own : ownKnob Tryz.prog.godebug = none := by kernel_rfl
theorem laidOut : laidOutB Tryz.prog = true := by kernel_rfl

def exts : List (FuncId × Nat) := [(347, 1), (349, 0), (402, 3), (412, 4), (416, 2), (417, 5), (418, 2), (419, 8), (421, 8), (422, 6), (470, 7)]
def meths : List (TypeId × String × FuncId) := [(473, "Replace", 466)]
noncomputable def cx (ms : List Memo) (i : List (IE × IE)) (b : List (BE × Bool)) : Cx := { P := Tryz.prog, ng := 0, ro := 0, exts := exts, meths := meths, hintI := i, hintB := b, told := fun g a h => match toldSorted 83 134 3 g a h with
    | some r => some r
    | none => toldMemos ms g a h }

theorem no_next : Tryz.prog.funcs.toList.all (fun fn => fn.body.isSome || (Extern.findNext fn).isNone) = true := by kernel_rfl
theorem no_named : Tryz.prog.funcs.toList.all (fun fn => !(fn.name == "runtime.NumGoroutine")) = true := by kernel_rfl
theorem next_none {f : Nat} {fn : Func} (h : Tryz.prog.funcs[f]? = some fn) (hb : fn.body = none) : Extern.findNext fn = none := by
  have hm : fn ∈ Tryz.prog.funcs.toList := by simpa using Array.mem_of_getElem? h
  have := List.all_eq_true.1 no_next fn hm
  rw [hb] at this
  simpa using this

theorem cxOk (ms : List Memo) (i : List (IE × IE)) (b : List (BE × Bool)) : CxOk (cx ms i b) := by
  refine ⟨Tryz.checked.mixed, fun f fn h => ?_, fun f x hx fn h hb => ⟨next_none h hb, ?_⟩, fun t n f h a w => ?_⟩
  · replace h : Tryz.prog.funcs[f]? = some fn := h
    have hm : fn ∈ Tryz.prog.funcs.toList := by simpa using Array.mem_of_getElem? h
    simpa using List.all_eq_true.1 no_named fn hm
  · have find : ∀ {g : Nat} {e : Array Value → Sem Value}, (Tryz.prog.funcs[g]?).bind Extern.find = some e → f = g → Extern.find fn = some e := by
      intro g e h1 h2
      subst h2
      rw [show Tryz.prog.funcs[f]? = some fn from h] at h1
      exact h1
    have pick : ∀ {g y : Nat} {r : List (FuncId × Nat)}, lookE ((g, y) :: r) f = some x → (f = g ∧ x = y) ∨ lookE r f = some x := by
      intro g y r h
      simp only [lookE] at h
      cases hc : Nat.beq g f with
      | true => rw [hc] at h; exact .inl ⟨(beq_true.1 hc).symm, (Option.some.inj h).symm⟩
      | false => rw [hc] at h; exact .inr h
    replace hx : lookE exts f = some x := hx
    unfold exts at hx
    rcases pick hx with ⟨h1, rfl⟩ | hx
    · exact ⟨_, find (e := Extern.BytealgIndexByte.indexByte) (by kernel_rfl) h1, rfl⟩
    rcases pick hx with ⟨h1, rfl⟩ | hx
    · exact ⟨_, find (e := Extern.AbiNoEscape.same) (by kernel_rfl) h1, rfl⟩
    rcases pick hx with ⟨h1, rfl⟩ | hx
    · exact ⟨_, find (e := Extern.Atomic.loadT (.int .u32)) (by kernel_rfl) h1, rfl⟩
    rcases pick hx with ⟨h1, rfl⟩ | hx
    · exact ⟨_, find (e := Extern.Atomic.storeT) (by kernel_rfl) h1, rfl⟩
    rcases pick hx with ⟨h1, rfl⟩ | hx
    · exact ⟨_, find (e := fun _ => do mark .disable; pure Extern.Race.none_) (by kernel_rfl) h1, fun _ _ => rfl⟩
    rcases pick hx with ⟨h1, rfl⟩ | hx
    · exact ⟨_, find (e := Extern.Atomic.casT (.int .i32)) (by kernel_rfl) h1, rfl⟩
    rcases pick hx with ⟨h1, rfl⟩ | hx
    · exact ⟨_, find (e := fun _ => do mark .enable; pure Extern.Race.none_) (by kernel_rfl) h1, fun _ _ => rfl⟩
    rcases pick hx with ⟨h1, rfl⟩ | hx
    · exact ⟨_, find (e := Extern.Race.marked .acquire) (by kernel_rfl) h1, fun _ _ => rfl⟩
    rcases pick hx with ⟨h1, rfl⟩ | hx
    · exact ⟨_, find (e := Extern.Race.marked .releaseMerge) (by kernel_rfl) h1, fun _ _ => rfl⟩
    rcases pick hx with ⟨h1, rfl⟩ | hx
    · exact ⟨_, find (e := Extern.Atomic.update (Op.intArith .add) .i32 true) (by kernel_rfl) h1, rfl⟩
    rcases pick hx with ⟨h1, rfl⟩ | hx
    · exact ⟨_, find (e := Extern.BytealgCount.count) (by kernel_rfl) h1, rfl⟩
    cases hx
  · replace h : lookM meths t n = some f := h
    simp only [meths, lookM] at h
    cases hc : (Nat.beq 473 t && decide ("Replace" = n)) with
    | true =>
      rw [hc] at h
      simp only [Bool.and_eq_true, decide_eq_true_eq] at hc
      obtain ⟨h1, rfl⟩ := hc
      have := beq_true.1 h1
      subst this
      simp only [cond_true, Option.some.injEq] at h
      subst h
      show (method (Tryz.prog.types.size + Made.depth) 473 (.pointer (some a)) "Replace").run Tryz.prog w = .ok (466, .pointer (some a)) w
      kernel_rfl
    | false =>
      rw [hc] at h
      simp only [cond_false] at h
      cases h

theorem begins (W : World) (ms : List Memo) (i : List (IE × IE)) (b : List (BE × Bool)) (ρ : Env) (m : Nat) (σ : Sg) (hpl : ∀ id, σ id = none) (hv : ∀ id V, σ.v id = some V → id < m) : HRel (cx ms i b) ρ (Base.plain W) σ { blocks := .nil, next := m } W := by
  refine ⟨?_, ?_, ?_, hv, ?_, Nat.zero_le _, Nat.le_refl _, ?_, fun _ _ => rfl, Nat.le_refl _, rfl, rfl, rfl, ⟨fun _ => False, trivial, fun _ h => h.elim, fun _ _ _ _ _ h => h⟩⟩
  · intro id sb h; cases h
  · intro id sb p h; cases h
  · intro id p h; rw [hpl] at h; cases h
  · intro id id' sb sb' p p' h; cases h
  · intro g h; exact absurd h (Nat.not_lt_zero _)

theorem ran {W : World} {ms : List Memo} {i : List (IE × IE)} {b : List (BE × Bool)} {ρ : Env} (ht : ∀ W, Go.Sx.Told (cx ms i b) ρ W) (hh : Hints (cx ms i b) ρ) {f m : Nat} {g : FuncId} {args : List SV} {A : Array Value} {σ : Sg} (hpl : ∀ id, σ id = none) (hv : ∀ id V, σ.v id = some V → id < m) (hA : VRels σ ρ args A.toList)
    (e : (call (cx ms i b) f g args { blocks := .nil, next := m }).map (·.1) = some (.bool (.lit true))) :
    Calls Tryz.prog g A W fun e w' => e = .returned (.bool true) ∧ Below W.heap.size W w' := by
  cases hc : call (cx ms i b) f g args { blocks := .nil, next := m } with
  | none => rw [hc] at e; cases e
  | some q =>
    obtain ⟨v, h'⟩ := q
    rw [hc] at e
    simp only [Option.map_some, Option.some.injEq] at e
    subst e
    refine (call_sound (cxOk ms i b) hh (ht _) hc hA (begins W ms i b ρ m σ hpl hv)).mono ?_
    rintro e w' ⟨V, τ, _, rfl, hV, hr'⟩
    simp only [VRel, BE.ev, Option.some.injEq] at hV
    obtain ⟨_, rfl, rfl⟩ := hV
    exact ⟨rfl, hr'.below⟩

/-- What is told is so, if what was run ahead is. -/
theorem told (ms : List Memo) (i : List (IE × IE)) (b : List (BE × Bool)) (ρ : Env) (W : Base)
    (hm : ∀ g args h v h', toldMemos ms g args h = some (v, h') → ∀ (σ : Sg) (A : Array Value) (w : World), VRels σ ρ args A.toList → HRel (cx ms i b) ρ W σ h w →
      Calls Tryz.prog g A w (fun e w' => ∃ V τ, σ.le τ ∧ e = .returned V ∧ VRel τ ρ v V ∧ HRel (cx ms i b) ρ W τ h' w')) : Go.Sx.Told (cx ms i b) ρ W :=
  { same := fun _ _ _ _ h => (by cases h), congr := fun _ _ _ _ _ => rfl, call := fun g args h v h' e σ A w hA hr => by
      replace e : (match toldSorted 83 134 3 g args h with
        | some r => some r
        | none => toldMemos ms g args h) = some (v, h') := e
      split at e
      · rename_i r hr0
        obtain rfl := Option.some.inj e
        exact told_sorted sortedOk hr0 hA hr
      · exact hm g args h v h' e σ A w hA hr, op := fun _ _ _ _ h => (by cases h), loop := fun _ _ _ _ h => (by cases h) }
/-- Nothing was run ahead. -/
theorem told0 (i : List (IE × IE)) (b : List (BE × Bool)) (ρ : Env) (W : Base) : Go.Sx.Told (cx [] i b) ρ W := told [] i b ρ W (fun _ _ _ _ _ h => by cases h)
theorem hints0 (ms : List Memo) (ρ : Env) : Hints (cx ms [] []) ρ := ⟨(fun _ h => by cases h), (fun _ h => by cases h), (fun _ h => by cases h), (fun _ h => by cases h)⟩
/-- What was run ahead over what was run ahead ahead of it. -/
theorem toldOver {ms ms' : List Memo} {f : Nat} (ρ : Env) (ht : ∀ W, Go.Sx.Told (cx ms' [] []) ρ W) (hms : ∀ m ∈ ms, m.check (cx ms' [] []) f = true) (i : List (IE × IE)) (b : List (BE × Bool)) (W : Base) : Go.Sx.Told (cx ms i b) ρ W :=
  told ms i b ρ W (fun _ _ _ _ _ e _ _ _ hA hr => memos_ok (C := cx ms i b) (C' := cx ms' [] []) (cxOk ms' [] []) (hints0 ms' ρ) ht rfl rfl rfl hms e hA hr)
end Go.Proofs.YtacbfdokeiechaaGreatDoor
