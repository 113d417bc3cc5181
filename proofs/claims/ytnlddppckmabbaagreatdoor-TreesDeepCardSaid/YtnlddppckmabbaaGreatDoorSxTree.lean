/- The seat of the trees: the runner over its program. -/
import Derived.Test.YtnlddppckmabbaaGreatDoorTie
import Derived.Test.YtnlddppckmabbaaGreatDoorCards
import Derived.Test.YtnlddppckmabbaaGreatDoorSxLaid
import Derived.Lay
import Derived.Stop.Joined
namespace Go.Proofs.YtnlddppckmabbaaGreatDoor
open Go Go.Sx Go.ChangeShapes Go.WideShapes Go.ChangeAt Go.RowKit

theorem own : ownKnob Tryz.prog.godebug = none := by kernel_rfl

/-! ### what is known of the program -/
def exts : List (FuncId × Nat) := [(58, 0), (95, 3), (111, 4), (120, 2), (121, 5), (122, 2), (123, 8), (125, 8), (126, 6), (139, 1), (174, 7)]
def meths : List (TypeId × String × FuncId) := [(166, "Replace", 170)]
noncomputable def cx (i : List (IE × Int)) (b : List (BE × Bool)) : Cx := { P := Tryz.prog, ng := 2, ro := 2, exts := exts, meths := meths, hintI := i, hintB := b }

theorem no_next : Tryz.prog.funcs.toList.all (fun fn => fn.body.isSome || (Extern.findNext fn).isNone) = true := by kernel_rfl
theorem no_named : Tryz.prog.funcs.toList.all (fun fn => !(fn.name == "runtime.NumGoroutine")) = true := by kernel_rfl
theorem next_none {f : Nat} {fn : Func} (h : Tryz.prog.funcs[f]? = some fn) (hb : fn.body = none) : Extern.findNext fn = none := by
  have hm : fn ∈ Tryz.prog.funcs.toList := by simpa using Array.mem_of_getElem? h
  have := List.all_eq_true.1 no_next fn hm
  rw [hb] at this
  simpa using this

theorem cxOk (i : List (IE × Int)) (b : List (BE × Bool)) : CxOk (cx i b) := by
  refine ⟨Tryz.checked.mixed, fun f fn h => ?_, fun f x hx fn h hb => ⟨next_none h hb, ?_⟩, fun t n f h a w => ?_⟩
  · replace h : Tryz.prog.funcs[f]? = some fn := h
    have hm : fn ∈ Tryz.prog.funcs.toList := by simpa using Array.mem_of_getElem? h
    simpa using List.all_eq_true.1 no_named fn hm
  · have find : ∀ {g : Nat} {e : Array Value → Sem Value}, (Tryz.prog.funcs[g]?).bind Extern.find = some e → f = g → Extern.find fn = some e := by
      intro g e h1 h2
      subst h2
      rw [show Tryz.prog.funcs[f]? = some fn from h] at h1
      exact h1
    have pick : ∀ {g y : Nat} {r : List (FuncId × Nat)}, lookE ((g, y) :: r) f = some x → (f = g ∧ x = y) ∨ lookE r f = some x := by
      intro g y r h
      simp only [lookE] at h
      cases hc : Nat.beq g f with
      | true => rw [hc] at h; exact .inl ⟨(beq_true.1 hc).symm, (Option.some.inj h).symm⟩
      | false => rw [hc] at h; exact .inr h
    replace hx : lookE exts f = some x := hx
    unfold exts at hx
    rcases pick hx with ⟨h1, rfl⟩ | hx
    · exact ⟨_, find (e := Extern.AbiNoEscape.same) (by kernel_rfl) h1, rfl⟩
    rcases pick hx with ⟨h1, rfl⟩ | hx
    · exact ⟨_, find (e := Extern.Atomic.loadT (.int .u32)) (by kernel_rfl) h1, rfl⟩
    rcases pick hx with ⟨h1, rfl⟩ | hx
    · exact ⟨_, find (e := Extern.Atomic.storeT) (by kernel_rfl) h1, rfl⟩
    rcases pick hx with ⟨h1, rfl⟩ | hx
    · exact ⟨_, find (e := fun _ => do mark .disable; pure Extern.Race.none_) (by kernel_rfl) h1, fun _ _ => rfl⟩
    rcases pick hx with ⟨h1, rfl⟩ | hx
    · exact ⟨_, find (e := Extern.Atomic.casT (.int .i32)) (by kernel_rfl) h1, rfl⟩
    rcases pick hx with ⟨h1, rfl⟩ | hx
    · exact ⟨_, find (e := fun _ => do mark .enable; pure Extern.Race.none_) (by kernel_rfl) h1, fun _ _ => rfl⟩
    rcases pick hx with ⟨h1, rfl⟩ | hx
    · exact ⟨_, find (e := Extern.Race.marked .acquire) (by kernel_rfl) h1, fun _ _ => rfl⟩
    rcases pick hx with ⟨h1, rfl⟩ | hx
    · exact ⟨_, find (e := Extern.Race.marked .releaseMerge) (by kernel_rfl) h1, fun _ _ => rfl⟩
    rcases pick hx with ⟨h1, rfl⟩ | hx
    · exact ⟨_, find (e := Extern.Atomic.update (Op.intArith .add) .i32 true) (by kernel_rfl) h1, rfl⟩
    rcases pick hx with ⟨h1, rfl⟩ | hx
    · exact ⟨_, find (e := Extern.BytealgIndexByte.indexByte) (by kernel_rfl) h1, rfl⟩
    rcases pick hx with ⟨h1, rfl⟩ | hx
    · exact ⟨_, find (e := Extern.BytealgCount.count) (by kernel_rfl) h1, rfl⟩
    cases hx
  · replace h : lookM meths t n = some f := h
    simp only [meths, lookM] at h
    cases hc : (Nat.beq 166 t && decide ("Replace" = n)) with
    | false => rw [hc] at h; cases h
    | true =>
      rw [hc] at h
      simp only [Bool.and_eq_true, decide_eq_true_eq] at hc
      obtain ⟨h1, rfl⟩ := hc
      have := beq_true.1 h1
      subst this
      simp only [cond_true, Option.some.injEq] at h
      subst h
      show (method (Tryz.prog.types.size + Made.depth) 166 (.pointer (some a)) "Replace").run Tryz.prog w = .ok (170, .pointer (some a)) w
      kernel_rfl

/-! ### the memory when a law begins -/
def pairsZ : List (Nat × Nat) := [(128, 191), (160, 191), (128, 159), (144, 191), (128, 143)] ++ List.replicate 11 (0, 0)
def h0 (t0 t1 : TypeId) : SH :=
  { blocks := ((Tr.nil.set 0 (.cells (trOf (ints .u8 Pinned.utf8FirstZ) 0 .nil) 256 t0 false .clean))).set 1 (.cells (trOf (ints .u8 (pairsZ.flatMap fun x => [x.1, x.2])) 0 .nil) 32 t1 false .clean), next := 2 }
abbrev laid : List (String × DataW Unit) := [("unicode/utf8.acceptRanges", Rows.laid_unicode_utf8_acceptRanges), ("unicode/utf8.first", Rows.laid_unicode_utf8_first)]

def sg0 (a b : Nat) : Sg := fun i => if i = 0 then some ⟨0, 0, a⟩ else if i = 1 then some ⟨1, 0, b⟩ else none

theorem begins {W : World} (h : laidMetH Tryz.prog laid W) (i : List (IE × Int)) (b : List (BE × Bool)) (ρ : Env) : ∃ t0 t1, HRel (cx i b) ρ W (sg0 256 32) (h0 t0 t1) W := by
  rw [MakeChecks.laidMetH_plain _ _ _ (by kernel_rfl)] at h
  obtain ⟨ps, ⟨g1, t1, c1, f1, p1, q1, hg1, ht1, hv1, hd1, ⟨g0, t0, c0, f0, p0, q0, hg0, ht0, hv0, hd0, hq0, hq1⟩, hps⟩, _, hfree⟩ := h
  obtain rfl := Option.some.inj ((show Tryz.prog.globalNamed "unicode/utf8.acceptRanges" = some 1 by kernel_rfl).symm.trans hg1)
  obtain rfl := Option.some.inj ((show (Tryz.prog.globals[1]?).map (·.type) = some 137 by kernel_rfl).symm.trans ht1)
  obtain rfl := Option.some.inj ((show Tryz.prog.globalNamed "unicode/utf8.first" = some 0 by kernel_rfl).symm.trans hg0)
  obtain rfl := Option.some.inj ((show (Tryz.prog.globals[0]?).map (·.type) = some 134 by kernel_rfl).symm.trans ht0)
  have r0 : VRels (sg0 256 32) ρ (ints .u8 Pinned.utf8FirstZ) c0.toList := rows_of_ints Tryz.underlying134 Tryz.underlying5 (by kernel_rfl) (by kernel_rfl) hd0
  have r1 : VRels (sg0 256 32) ρ (ints .u8 (pairsZ.flatMap fun x => [x.1, x.2])) c1.toList := rows_of_pairs (l := pairsZ) Tryz.underlying137 Tryz.underlying136 rfl rfl rfl rfl Tryz.underlying5 (by kernel_rfl) (by kernel_rfl) (by kernel_rfl) hd1
  have s0 : c0.size = 256 := by rw [← Array.length_toList, ← r0.length]; kernel_rfl
  have s1 : c1.size = 32 := by rw [← Array.length_toList, ← r1.length]; kernel_rfl
  have in0 : MemPlace.cell 0 0 ∈ ps := by
    rw [hps, hq1]
    exact List.mem_append_right _ (List.mem_append_left _ (List.mem_append_left _ (MemPlace.mem_row.2 ⟨0, by rw [s0]; omega, rfl⟩)))
  have in1 : MemPlace.cell 1 0 ∈ ps := by
    rw [hps]
    exact List.mem_append_left _ (List.mem_append_left _ (MemPlace.mem_row.2 ⟨0, by rw [s1]; omega, rfl⟩))
  obtain ⟨⟨d0, e0, b0⟩, _⟩ := hfree 0 0 in0
  obtain ⟨⟨d1, e1, b1⟩, _⟩ := hfree 1 0 in1
  have x0 : d0 = c0 := by
    simp only [World.var?, hg0, Option.bind_some, b0, Option.some.injEq] at hv0; exact hv0
  have x1 : d1 = c1 := by
    simp only [World.var?, hg1, Option.bind_some, b1, Option.some.injEq] at hv1; exact hv1
  subst x0; subst x1
  have l0 := (Array.getElem?_eq_some_iff.1 b0).1
  have l1 := (Array.getElem?_eq_some_iff.1 b1).1
  have sg : ∀ id p, sg0 256 32 id = some p → (id = 0 ∧ p = ⟨0, 0, 256⟩) ∨ (id = 1 ∧ p = ⟨1, 0, 32⟩) := by
    intro id p hp
    unfold sg0 at hp
    split at hp
    · exact .inl ⟨‹_›, (Option.some.inj hp).symm⟩
    · split at hp
      · exact .inr ⟨‹_›, (Option.some.inj hp).symm⟩
      · cases hp
  refine ⟨e0, e1, ⟨?_, ?_, ?_, ?_, ?_, ?_, ?_, fun _ _ => rfl, Nat.le_refl _, rfl, rfl, rfl⟩⟩
  · intro id sb hs
    simp only [h0, Tr.get_set, Tr.get_nil] at hs
    split at hs
    · rename_i hid; subst hid
      obtain rfl := Option.some.inj hs
      have hb := brel_row (b := 1) (e := e1) r1
      rw [s1, show (ints .u8 (pairsZ.flatMap fun x => [x.1, x.2])).length = 32 by kernel_rfl] at hb
      exact ⟨⟨1, 0, 32⟩, _, rfl, b1, hb⟩
    · split at hs
      · rename_i hid; subst hid
        obtain rfl := Option.some.inj hs
        have hb := brel_row (b := 0) (e := e0) r0
        rw [s0, show (ints .u8 Pinned.utf8FirstZ).length = 256 by kernel_rfl] at hb
        exact ⟨⟨0, 0, 256⟩, _, rfl, b0, hb⟩
      · cases hs
  · intro id p hp hro
    have hro : 2 ≤ id := hro
    rcases sg id p hp with ⟨h, _⟩ | ⟨h, _⟩ <;> omega
  · intro id p hp
    show id < 2 ∧ _
    rcases sg id p hp with ⟨h, rfl⟩ | ⟨h, rfl⟩
    · exact ⟨by omega, l0⟩
    · exact ⟨by omega, l1⟩
  · intro id id' sb sb' p p' _ _ hp hp' he
    rcases sg id p hp with ⟨h, rfl⟩ | ⟨h, rfl⟩ <;> rcases sg id' p' hp' with ⟨h', rfl⟩ | ⟨h', rfl⟩ <;> first | omega | (simp at he)
  · exact Nat.le_refl _
  · exact Nat.le_refl _
  · intro g hg
    replace hg : g < 2 := hg
    match g, hg with
    | 0, _ => exact ⟨256, rfl⟩
    | 1, _ => exact ⟨32, rfl⟩

theorem ran {W : World} (h : laidMetH Tryz.prog laid W) {i : List (IE × Int)} {b : List (BE × Bool)} {ρ : Env} (hh : Hints (cx i b) ρ) {f : Nat} {g : FuncId} {args : List SV} {A : Array Value} (hA : VRels (sg0 256 32) ρ args A.toList)
    (e : ∀ t0 t1, (call (cx i b) f g args (h0 t0 t1)).map (·.1) = some (.bool (.lit true))) :
    Calls Tryz.prog g A W fun e w' => e = .returned (.bool true) ∧ Below W.heap.size W w' := by
  obtain ⟨t0, t1, hr⟩ := begins h i b ρ
  have e := e t0 t1
  cases hc : call (cx i b) f g args (h0 t0 t1) with
  | none => rw [hc] at e; cases e
  | some q =>
    obtain ⟨v, h'⟩ := q
    rw [hc] at e
    simp only [Option.map_some, Option.some.injEq] at e
    subst e
    refine (call_sound (cxOk i b) hh hc hA hr).mono ?_
    rintro e w' ⟨V, τ, _, rfl, hV, hr'⟩
    simp only [VRel, BE.ev, Option.some.injEq] at hV
    obtain ⟨_, rfl, rfl⟩ := hV
    exact ⟨rfl, hr'.below⟩
end Go.Proofs.YtnlddppckmabbaaGreatDoor
