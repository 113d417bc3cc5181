/- Calls, functions without a text, the smaller built-ins. -/
import Derived.Test.YtacbfdokeiechaaGreatDoorSxOpH
import Derived.Lib.Bytealg
namespace Go.Sx
open Go

/-- What a function without a text is. -/
def ExtIs (P : Program) : Nat → (Array Value → Sem Value) → Prop
  | 0, e => e = Extern.AbiNoEscape.same
  | 1, e => e = Extern.BytealgIndexByte.indexByte
  | 2, e => ∀ A w, (e A).run P w = .ok (.tuple #[]) w
  | 3, e => e = Extern.Atomic.loadT (.int .u32)
  | 4, e => e = Extern.Atomic.storeT
  | 5, e => e = Extern.Atomic.casT (.int .i32)
  | 6, e => e = Extern.Atomic.update (Op.intArith .add) .i32 true
  | 7, e => e = Extern.BytealgCount.count
  | 8, e => ∀ a w, (e #[.pointer (some a)]).run P w = .ok (.tuple #[]) w
  | _, _ => False

/-- What must be known of the program. -/
structure CxOk (C : Cx) : Prop where
  mixed : C.P.follows .mixedOrders = true
  named : ∀ (f : Nat) (fn : Func), C.P.funcs[f]? = some fn → (fn.name == "runtime.NumGoroutine") = false
  exts : ∀ (f : Nat) (x : Nat), lookE C.exts f = some x → ∀ (fn : Func), C.P.funcs[f]? = some fn → fn.body = none → Extern.findNext fn = none ∧ ∃ e, Extern.find fn = some e ∧ ExtIs C.P x e
  meths : ∀ t n f, lookM C.meths t n = some f → ∀ a w, (method (C.P.types.size + Made.depth) t (.pointer (some a)) n).run C.P w = .ok (f, .pointer (some a)) w

section
variable {C : Cx} {ρ : Env} {W : Base} {w : World} {σ : Sg} {h : SH} {tm : Tr SV} {a : Act}

theorem placeL_ok (c : Nat) (hc : c < 256) : ∀ (l : List Nat) (k : Nat), small l →
    placeL c l k = match ((List.range l.length).find? fun i => (l.map UInt8.ofNat)[i]! == UInt8.ofNat c) with | some i => ((k + i : Nat) : Int) | none => -1 := by
  intro l
  induction l with
  | nil => intro k _; simp [placeL]
  | cons b l ih =>
    intro k hs
    rw [small_cons] at hs
    have hbc : (UInt8.ofNat b == UInt8.ofNat c) = Nat.beq b c := by
      rw [Bool.eq_iff_iff, beq_true, beq_iff_eq]
      constructor
      · intro e; have := congrArg UInt8.toNat e; rwa [toNat_of hs.1, toNat_of hc] at this
      · rintro rfl; rfl
    simp only [placeL, List.length_cons, List.range_succ_eq_map, List.find?_cons, List.map_cons, List.getElem!_cons_zero, hbc]
    cases hb : Nat.beq b c with
    | true => simp
    | false =>
      simp only [cond_false, List.find?_map]
      rw [ih (k + 1) hs.2]
      have : (fun i => (UInt8.ofNat b :: List.map UInt8.ofNat l)[i]! == UInt8.ofNat c) ∘ Nat.succ = fun i => (l.map UInt8.ofNat)[i]! == UInt8.ofNat c := by
        funext i; simp
      rw [this]
      cases hf : (List.range l.length).find? fun i => (l.map UInt8.ofNat)[i]! == UInt8.ofNat c with
      | none => rfl
      | some i =>
        simp only [Option.map_some]
        show ((k + 1 + i : Nat) : Int) = ((k + (i + 1) : Nat) : Int)
        congr 1; omega
theorem countL_ok (c : Nat) (hc : c < 256) : ∀ (l : List Nat), small l → countL c l = (l.map UInt8.ofNat).count (UInt8.ofNat c) := by
  intro l
  induction l with
  | nil => intro _; simp [countL]
  | cons b l ih =>
    intro hs
    rw [small_cons] at hs
    have hbc : (UInt8.ofNat b == UInt8.ofNat c) = Nat.beq b c := by
      rw [Bool.eq_iff_iff, beq_true, beq_iff_eq]
      constructor
      · intro e; have := congrArg UInt8.toNat e; rwa [toNat_of hs.1, toNat_of hc] at this
      · rintro rfl; rfl
    simp only [List.map_cons, List.count_cons, hbc, countL, ih hs.2]
    cases hb : Nat.beq b c <;> simp

theorem putOne_ok (r : HRel C ρ W σ h w) {id off : Nat} {v : SV} {V : Value} {h' : SH} {p : Pl} (e : putCells C.ro h id off [v] = some h') (hv : VRel σ ρ v V) (hp : σ id = some p) (m : Mode) :
    ∃ w', (store ⟨p.block, p.off + off, none⟩ V m).run C.P w = .ok () w' ∧ HRel C ρ W σ h' w' := by
  obtain ⟨w', hrun, hr, _⟩ := putCells_ok r e (VRels.one hv) hp
  refine ⟨w', ?_, hr⟩
  have h1 : (store ⟨p.block, p.off + off, none⟩ V .plain).run C.P w = .ok () w' := by
    have h2 : (storeCells ⟨p.block, p.off + off, none⟩ [V]).run C.P w = (store ⟨p.block, p.off + off, none⟩ V).run C.P w := by
      simp only [storeCells, addr_add, Nat.add_zero]
      rw [Sem.run_bind]
      cases (store ⟨p.block, p.off + off, none⟩ V).run C.P w <;> rfl
    rw [← h2]; exact hrun
  unfold putCells at e
  split at e
  case h_2 => cases e
  rename_i cs n el more f hg
  obtain ⟨p', c, fz, hp', hw, hsz, hn, _, _, _, _⟩ := r.cells hg
  rw [hp] at hp'; obtain rfl := Option.some.inj hp'
  cases hb : (mayPut n f off (lenL [v]) && allOne [v]) with
  | false => rw [hb] at e; cases e
  | true =>
    rw [Bool.and_eq_true] at hb
    have ho := allOne_ok hb.2 (VRels.one hv) V (by simp)
    have hlt : off + 1 ≤ n := by
      have := hb.1
      unfold mayPut at this
      rw [Bool.and_eq_true, ble_true, lenL_eq] at this
      exact this.1
    have hc : w.cell? ⟨p.block, p.off + off, none⟩ = some c[p.off + off] := by rw [cell_of hw]; simp
    rw [run_store C.P w _ V m ho, hc]
    rw [run_store C.P w _ V .plain ho, hc] at h1
    exact h1

theorem extS_ok (r : HRel C ρ W σ h w) {x : Nat} {e : Array Value → Sem Value} {args : List SV} {A : Array Value} {v : SV} {h' : SH} (he : extS C.ro h x args = some (v, h')) (hx : ExtIs C.P x e) (hA : VRels σ ρ args A.toList) :
    ∃ V w', (e A).run C.P w = .ok V w' ∧ VRel σ ρ v V ∧ HRel C ρ W σ h' w' := by
  unfold extS at he
  split at he
  case h_1 v0 =>
    simp only [Option.some.injEq, Prod.mk.injEq] at he; obtain ⟨rfl, rfl⟩ := he
    simp only [ExtIs] at hx; subst hx
    simp only [VRels] at hA
    obtain ⟨X, xs, hA, hr, rfl⟩ := hA
    obtain rfl : A = #[X] := Array.ext' hA
    exact ⟨X, w, rfl, hr, r⟩
  case h_2 l c =>
    cases hcc : (decide (0 ≤ c) && decide (c < 256)) with
    | false => rw [hcc] at he; cases he
    | true =>
      rw [hcc] at he; simp only [cond_true, Option.some.injEq, Prod.mk.injEq] at he; obtain ⟨rfl, rfl⟩ := he
      rw [Bool.and_eq_true, decide_eq_true_eq, decide_eq_true_eq] at hcc
      simp only [ExtIs] at hx; subst hx
      simp only [VRels, VRel, IE.ev, Option.some.injEq] at hA
      obtain ⟨_, _, hA, ⟨hs, rfl⟩, _, _, rfl, ⟨_, rfl, rfl⟩, rfl⟩ := hA
      obtain rfl : A = #[.string (bytes l), .int .u8 c] := Array.ext' hA
      refine ⟨.int .i64 (placeL c.toNat l 0), w, ?_, by simp [VRel, IE.ev], r⟩
      rw [placeL_ok _ (by omega) l 0 hs]
      have hb : ∀ i : Nat, (bytes l)[i]! = (l.map UInt8.ofNat)[i]! := by
        intro i
        by_cases hi : i < l.length
        · have : l[i]? = some l[i] := List.getElem?_eq_getElem hi
          rw [getElem!_def, bytes_get this]
          simp [hi]
        · rw [getElem!_def, ByteArray.getElem?_ge' _ _ (by rw [bytes_size]; exact hi)]
          simp [hi]
      have hdef : Extern.BytealgIndexByte.indexByte #[.string (bytes l), .int .u8 c] = (do
        let b ← Extern.Bytes.bytesOf (.string (bytes l))
        let c ← Extern.Bytes.asByte (.int .u8 c)
        match (List.range b.size).find? fun i => b[i]! == c with
        | some i => pure (goInt i)
        | none => pure (goInt (-1))) := rfl
      rw [hdef]
      simp only [Extern.Bytes.bytesOf, Extern.Bytes.asByte, Sem.run_bind, Sem.run_pure, Result.andThen_ok, bytes_size, hb]
      rw [show (UInt8.ofNat c.toNat) = c.toNat.toUInt8 from rfl]
      cases hf : (List.range l.length).find? fun i => (l.map UInt8.ofNat)[i]! == c.toNat.toUInt8 with
      | none => rfl
      | some i => simp [goInt]
  case h_3 =>
    simp only [Option.some.injEq, Prod.mk.injEq] at he; obtain ⟨rfl, rfl⟩ := he
    exact ⟨.tuple #[], w, hx A w, by simp [undefS, VRel, VRels], r⟩
  case h_4 i o =>
    simp only [ExtIs] at hx; subst hx
    split at he
    · rename_i cs n el more f hg
      split at he
      · rename_i e0 hc0
        simp only [Option.some.injEq, Prod.mk.injEq] at he; obtain ⟨rfl, rfl⟩ := he
        obtain ⟨p, c, fz, hp, hw, _, _, _, hc, _⟩ := r.cells hg
        simp only [VRels, VRel] at hA
        obtain ⟨_, _, hA, ⟨p', hp', rfl⟩, rfl⟩ := hA
        rw [hp] at hp'; obtain rfl := Option.some.inj hp'
        obtain rfl : A = #[.pointer (some ⟨p.block, p.off + o, none⟩)] := Array.ext' hA
        obtain ⟨_, V, hV, hr⟩ := hc _ _ hc0
        have hr' := hr
        simp only [VRel] at hr; obtain ⟨n0, _, rfl⟩ := hr
        refine ⟨_, w, ?_, hr', r⟩
        have hdef : Extern.Atomic.loadT (.int .u32) #[.pointer (some ⟨p.block, p.off + o, none⟩)] = (do Extern.Atomic.read (.int .u32) (← asAddr (.pointer (some ⟨p.block, p.off + o, none⟩)))) := rfl
        rw [hdef]
        simp [asAddr, Extern.Atomic.read, cell_of hw, hV]
      · cases he
    · cases he
  case h_5 i o v0 =>
    simp only [ExtIs] at hx; subst hx
    cases hput : putCells C.ro h i o [v0] with
    | none => rw [hput] at he; cases he
    | some h2 =>
      rw [hput] at he; simp only [Option.map_some, Option.some.injEq, Prod.mk.injEq] at he; obtain ⟨rfl, rfl⟩ := he
      simp only [VRels, VRel] at hA
      obtain ⟨_, _, hA, ⟨p, hp, rfl⟩, X, _, rfl, hv, rfl⟩ := hA
      obtain rfl : A = #[.pointer (some ⟨p.block, p.off + o, none⟩), X] := Array.ext' hA
      obtain ⟨w', hst, hr⟩ := putOne_ok r hput hv hp .atomic
      refine ⟨.tuple #[], w', ?_, by simp [undefS, VRel, VRels], hr⟩
      have hdef : Extern.Atomic.storeT #[.pointer (some ⟨p.block, p.off + o, none⟩), X] = (do store (← asAddr (.pointer (some ⟨p.block, p.off + o, none⟩))) X .atomic; pure Extern.Atomic.none_) := rfl
      rw [hdef]
      simp [asAddr, hst, Extern.Atomic.none_]
  case h_6 i o old new =>
    simp only [ExtIs] at hx; subst hx
    split at he
    case h_2 => cases he
    rename_i cs n el more hg
    split at he
    case h_2 => cases he
    rename_i e0 hc0
    obtain ⟨p, c, fz, hp, hw, _, _, _, hc, hf1, _⟩ := r.cells hg
    simp only [VRels, VRel, IE.ev, Option.some.injEq] at hA
    obtain ⟨_, _, hA, ⟨p', hp', rfl⟩, _, _, rfl, ⟨_, rfl, rfl⟩, _, _, rfl, ⟨_, rfl, rfl⟩, rfl⟩ := hA
    rw [hp] at hp'; obtain rfl := Option.some.inj hp'
    obtain rfl : A = #[.pointer (some ⟨p.block, p.off + o, none⟩), .int .i32 old, .int .i32 new] := Array.ext' hA
    obtain ⟨_, V, hV, hr⟩ := hc _ _ hc0
    simp only [VRel, IE.ev, Option.some.injEq] at hr; obtain ⟨_, rfl, rfl⟩ := hr
    have hfr : w.frozen? ⟨p.block, p.off + o, none⟩ = false := by
      rw [frozen_of hw]; have : fz.1 = fz.2 := hf1; simp only [Bool.and_eq_false_iff, decide_eq_false_iff_not]; omega
    have hdef : Extern.Atomic.casT (.int .i32) #[.pointer (some ⟨p.block, p.off + o, none⟩), .int .i32 old, .int .i32 new] = (do
        let a ← asAddr (.pointer (some ⟨p.block, p.off + o, none⟩))
        if ← Extern.Atomic.touchesFrozen a then unsupported (.unsafePointer "a write to bytes that a string shares")
        let eq ← match Extern.Atomic.T.int .i32, ← Extern.Atomic.read (.int .i32) a, Value.int .i32 old with
          | _, .int _ x, .int _ y => pure (x == y)
          | .ptr, .pointer x, .pointer y => samePointer x y
          | .int _, .pointer (some _), .int _ 0 | .int _, .int _ 0, .pointer (some _) => pure false
          | .int _, .pointer (some _), _ | .int _, _, .pointer (some _) => unsupported .addressObserved
          | _, _, _ => stuck "atomic.CompareAndSwap: old is no T"
        if eq then store a (.int .i32 new) .atomic
        pure (.bool eq)) := rfl
    cases hee : (e0 == old) with
    | true =>
      rw [hee] at he; simp only [cond_true] at he
      cases hput : putCells C.ro h i o [.int .i32 (.lit new)] with
      | none => rw [hput] at he; cases he
      | some h2 =>
        rw [hput] at he; simp only [Option.map_some, Option.some.injEq, Prod.mk.injEq] at he; obtain ⟨rfl, rfl⟩ := he
        obtain ⟨w', hst, hr⟩ := putOne_ok r hput (V := .int .i32 new) (by simp [VRel, IE.ev]) hp .atomic
        refine ⟨.bool true, w', ?_, by simp [VRel, BE.ev], hr⟩
        rw [hdef]
        have hee' : e0 = old := by simpa using hee
        subst hee'
        simp [asAddr, Extern.Atomic.touchesFrozen, viewAt, shape_of hw, hfr, Extern.Atomic.read, cell_of hw, hV, hst]
    | false =>
      rw [hee] at he; simp only [cond_false, Option.some.injEq, Prod.mk.injEq] at he; obtain ⟨rfl, rfl⟩ := he
      refine ⟨.bool false, w, ?_, by simp [VRel, BE.ev], r⟩
      rw [hdef]
      have hee' : ¬ e0 = old := by simpa using hee
      simp [asAddr, Extern.Atomic.touchesFrozen, viewAt, shape_of hw, hfr, Extern.Atomic.read, cell_of hw, hV, hee']
  case h_7 i o y =>
    simp only [ExtIs] at hx; subst hx
    split at he
    case h_2 => cases he
    rename_i cs n el more f hg
    split at he
    case h_2 => cases he
    rename_i e0 hc0
    obtain ⟨p, c, fz, hp, hw, _, _, _, hc, _⟩ := r.cells hg
    simp only [VRels, VRel, IE.ev, Option.some.injEq] at hA
    obtain ⟨_, _, hA, ⟨p', hp', rfl⟩, _, _, rfl, ⟨_, rfl, rfl⟩, rfl⟩ := hA
    rw [hp] at hp'; obtain rfl := Option.some.inj hp'
    obtain rfl : A = #[.pointer (some ⟨p.block, p.off + o, none⟩), .int .i32 y] := Array.ext' hA
    obtain ⟨_, V, hV, hr⟩ := hc _ _ hc0
    simp only [VRel, IE.ev, Option.some.injEq] at hr; obtain ⟨_, rfl, rfl⟩ := hr
    cases hput : putCells C.ro h i o [.int .i32 (.lit (IntKind.i32.wrap (e0 + y)))] with
    | none => rw [hput] at he; cases he
    | some h2 =>
      rw [hput] at he; simp only [Option.map_some, Option.some.injEq, Prod.mk.injEq] at he; obtain ⟨rfl, rfl⟩ := he
      obtain ⟨w', hst, hr⟩ := putOne_ok r hput (V := .int .i32 (IntKind.i32.wrap (e0 + y))) (by simp [VRel, IE.ev]) hp .atomic
      refine ⟨.int .i32 (IntKind.i32.wrap (e0 + y)), w', ?_, by simp [VRel, IE.ev], hr⟩
      have hdef : Extern.Atomic.update (Op.intArith .add) .i32 true #[.pointer (some ⟨p.block, p.off + o, none⟩), .int .i32 y] = (do
          let a ← asAddr (.pointer (some ⟨p.block, p.off + o, none⟩))
          let old ← Extern.Atomic.read (.int .i32) a
          let new ← Op.intArith .add .i32 (← asInt old) (← asInt (.int .i32 y))
          store a new .atomic
          pure (if true then new else old)) := rfl
      rw [hdef]
      simp [asAddr, Extern.Atomic.read, cell_of hw, hV, asInt, asIntOf, Op.intArith, hst]
  case h_8 i o =>
    simp only [Option.some.injEq, Prod.mk.injEq] at he; obtain ⟨rfl, rfl⟩ := he
    simp only [VRels, VRel] at hA
    obtain ⟨_, _, hA, ⟨p, hp, rfl⟩, rfl⟩ := hA
    obtain rfl : A = #[.pointer (some ⟨p.block, p.off + o, none⟩)] := Array.ext' hA
    exact ⟨.tuple #[], w, hx _ w, by simp [undefS, VRel, VRels], r⟩
  case h_9 l c =>
    cases hcc : (decide (0 ≤ c) && decide (c < 256)) with
    | false => rw [hcc] at he; cases he
    | true =>
      rw [hcc] at he; simp only [cond_true, Option.some.injEq, Prod.mk.injEq] at he; obtain ⟨rfl, rfl⟩ := he
      rw [Bool.and_eq_true, decide_eq_true_eq, decide_eq_true_eq] at hcc
      simp only [ExtIs] at hx; subst hx
      simp only [VRels, VRel, IE.ev, Option.some.injEq] at hA
      obtain ⟨_, _, hA, ⟨hs, rfl⟩, _, _, rfl, ⟨_, rfl, rfl⟩, rfl⟩ := hA
      obtain rfl : A = #[.string (bytes l), .int .u8 c] := Array.ext' hA
      refine ⟨.int .i64 (countL c.toNat l), w, ?_, by simp [VRel, IE.ev], r⟩
      rw [Lib.run_countString, bytes_data, countL_ok _ (by omega) l hs]
      rfl
  case h_10 => cases he
end
end Go.Sx
