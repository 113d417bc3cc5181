/- Calls; one operation, whatever it is. -/
import Derived.Test.YtacbfdokeiechaaGreatDoorSxOpJ
import Derived.Laws.Externs
namespace Go.Sx
open Go

section
variable {C : Cx} {ρ : Env} {W : Base} {w : World} {σ : Sg} {h : SH} {tm : Tr SV} {a : Act}

theorem callS_ok (K : CxOk C) (r : HRel C ρ W σ h w) {f : FuncId} {args : List SV} {A : Array Value} {R : Res} (e : callS C h f args = some R) (hA : VRels σ ρ args A.toList) :
    OpOk C ρ W σ w (callFunc f A) R := by
  unfold callS at e
  split at e
  case h_2 => cases e
  rename_i fn hf
  have hn0 := K.named f fn hf
  have hn : fn.name ≠ "runtime.NumGoroutine" := by simpa using hn0
  split at e
  · rename_i c hb
    obtain rfl := Option.some.inj e
    refine ⟨σ, .enter f A, w, Sg.le_refl _, ?_, ⟨A, rfl, hA⟩, r⟩
    simp [callFunc, hf, hn, hb]
  · rename_i hb
    split at e
    · rename_i x hx
      obtain ⟨h1, ex, h2, h3⟩ := K.exts f x hx fn hf hb
      cases he : extS C.ro h x args with
      | none => rw [he] at e; cases e
      | some q =>
        obtain ⟨v, h'⟩ := q
        rw [he] at e; simp only [Option.map_some, Option.some.injEq] at e; subst e
        obtain ⟨V, w', hrun, hv, hr⟩ := extS_ok r he h3 hA
        refine ⟨σ, .value V, w', Sg.le_refl _, ?_, ⟨V, rfl, hv⟩, hr⟩
        rw [run_callFunc_extern hf hn0 (by simp [hb]) h1 h2, hrun]; rfl
    · cases e

/-- A function's value, called or deferred. -/
theorem targetS_ok (K : CxOk C) {f : SV} {F : Value} {args : List SV} {A : Array Value} {g : FuncId} {l : List SV} (e : targetS C f args = some (g, l)) (hf : VRel σ ρ f F) (hA : VRels σ ρ args A.toList) :
    ∃ fv cap D, (∀ w, (Deferred.ofValue F A).run C.P w = .ok { target := .fn fv cap, args := D } w) ∧ ∃ B : Array Value, VRels σ ρ l B.toList ∧
      ∀ w, (invoke (.fn fv cap) D).run C.P w = (callFunc g B).run C.P w := by
  unfold targetS at e
  split at e
  · rename_i f' first captured
    obtain ⟨rfl, rfl⟩ := (Prod.mk.injEq _ _ _ _).mp (Option.some.inj e)
    simp only [VRel] at hf
    obtain ⟨X, Y, rfl, h1, h2⟩ := hf
    refine ⟨_, Y, X ++ A, fun w => rfl, X ++ A ++ Y, ?_, fun w => rfl⟩
    rw [Array.toList_append, Array.toList_append]
    exact (h1.append hA).append h2
  · rename_i name first captured
    simp only [VRel] at hf
    obtain ⟨X, Y, rfl, h1, h2⟩ := hf
    split at e
    · rename_i t i o rest hfa
      cases hm : lookM C.meths t name with
      | none => rw [hm] at e; cases e
      | some g' =>
        rw [hm] at e; simp only [Option.map_some, Option.some.injEq] at e
        obtain ⟨rfl, rfl⟩ := (Prod.mk.injEq _ _ _ _).mp e
        have hX : VRels σ ρ (first ++ args) (X ++ A).toList := by rw [Array.toList_append]; exact h1.append hA
        rw [hfa] at hX
        simp only [VRels, VRel] at hX
        obtain ⟨V, L, hXA, ⟨P0, rfl, p, hp, rfl⟩, hL⟩ := hX
        have hXA' : X ++ A = (.iface t (.pointer (some ⟨p.block, p.off + o, none⟩)) :: L).toArray := Array.ext' (by rw [hXA])
        refine ⟨_, Y, X ++ A, fun w => rfl, (.pointer (some ⟨p.block, p.off + o, none⟩) :: L).toArray, ?_, fun w => ?_⟩
        · simp only [VRels, VRel]; exact ⟨_, _, rfl, ⟨p, hp, rfl⟩, hL⟩
        · have hmeth := K.meths t name g' hm ⟨p.block, p.off + o, none⟩ w
          simp only [invoke]
          rw [hXA']
          simp only [List.getElem?_toArray, List.getElem?_cons_zero]
          simp only [callMethod, Sem.run_bind, run_program, Result.andThen_ok, hmeth]
          congr 2
          simp
    · cases e
  · cases e

theorem callArgs_ok (K : CxOk C) (hh : Hints C ρ) (r : HRel C ρ W σ h w) (t : TRel σ ρ tm a.tmps) {c : Call} {ty : TypeId} {R : Res} (e : callArgs C tm h c = some R) :
    OpOk C ρ W σ w (do let d ← resolve a.eval c ty; invoke d.target d.args) R := by
  unfold callArgs at e
  split at e
  · cases e
  rename_i args hargs
  have hA : VRels σ ρ args (c.args.map a.eval).toList := by rw [Array.toList_map]; exact evAll_ok r t hargs
  split at e
  · rename_i b hb
    have h1 : resolve a.eval c ty = pure { target := .builtin b c.argTypes ty (c.args.map fun | .const _ => true | _ => false), args := c.args.map a.eval } := by unfold resolve; rw [hb]; rfl
    rw [h1]
    exact builtinS_ok hh r e hA
  · rename_i x hb
    split at e
    · cases e
    rename_i f hf
    split at e
    · cases e
    rename_i g l ht
    obtain ⟨fv, cap, D, hD, B, hB, hinv⟩ := targetS_ok K ht (ev_ok r t hf) hA
    obtain ⟨τ, nx, w', hle, hrun, hn, hr⟩ := callS_ok K r e hB
    refine ⟨τ, nx, w', hle, ?_, hn, hr⟩
    have h1 : resolve a.eval c ty = Deferred.ofValue (a.eval x) (c.args.map a.eval) := by simp only [resolve, hb]
    rw [h1, Sem.run_bind, hD w]
    simp only [Result.andThen_ok]
    rw [hinv w, hrun]
  · rename_i x name hb
    split at e
    · rename_i ty' i o hx
      split at e
      · cases e
      rename_i g hm
      have hX := ev_ok r t hx
      simp only [VRel] at hX
      obtain ⟨X, hX, p, hp, rfl⟩ := hX
      have hB : VRels σ ρ (.ptr i o :: args) (Value.pointer (some ⟨p.block, p.off + o, none⟩) :: (c.args.map a.eval).toList).toArray.toList := by
        simp only [VRels, VRel]; exact ⟨_, _, rfl, ⟨p, hp, rfl⟩, hA⟩
      obtain ⟨τ, nx, w', hle, hrun, hn, hr⟩ := callS_ok K r e hB
      refine ⟨τ, nx, w', hle, ?_, hn, hr⟩
      have h1 : resolve a.eval c ty = pure { target := .fn (.method name) #[], args := #[a.eval x] ++ c.args.map a.eval } := by unfold resolve; rw [hb]
      have hmeth := K.meths ty' name g hm ⟨p.block, p.off + o, none⟩ w
      rw [h1, hX]
      have hcat : #[Value.iface ty' (.pointer (some ⟨p.block, p.off + o, none⟩))] ++ c.args.map a.eval = (Value.iface ty' (.pointer (some ⟨p.block, p.off + o, none⟩)) :: (c.args.map a.eval).toList).toArray := Array.ext' (by simp)
      rw [hcat]
      simp only [Sem.run_bind, Sem.run_pure, Result.andThen_ok, invoke]
      simp only [List.getElem?_toArray, List.getElem?_cons_zero]
      simp only [callMethod, Sem.run_bind, run_program, Result.andThen_ok, hmeth]
      rw [← hrun]
      congr 2
      apply Array.ext'
      simp [List.extract_eq_take_drop]
      exact List.take_of_length_le (by simp)
    · cases e

theorem deferS_ok (K : CxOk C) (r : HRel C ρ W σ h w) (t : TRel σ ρ tm a.tmps) {c : Call} {ty : TypeId} {R : Res} (e : deferS C tm h c = some R) :
    OpOk C ρ W σ w (do pure (.defer (← resolve a.eval c ty))) R := by
  unfold deferS at e
  split at e
  · cases e
  rename_i args hargs
  have hA : VRels σ ρ args (c.args.map a.eval).toList := by rw [Array.toList_map]; exact evAll_ok r t hargs
  split at e
  · rename_i x hb
    split at e
    · cases e
    rename_i f hf
    split at e
    · cases e
    rename_i g l ht
    split at e
    case h_2 => cases e
    rename_i fn hfn
    split at e
    · rename_i c' hb'
      obtain rfl := Option.some.inj e
      obtain ⟨fv, cap, D, hD, B, hB, hinv⟩ := targetS_ok K ht (ev_ok r t hf) hA
      refine ⟨σ, .defer { target := .fn fv cap, args := D }, w, Sg.le_refl _, ?_, ⟨_, rfl, fv, cap, B, rfl, fun w => ?_, hB⟩, r⟩
      · have h1 : resolve a.eval c ty = Deferred.ofValue (a.eval x) (c.args.map a.eval) := by simp only [resolve, hb]
        rw [h1, Sem.run_bind, hD w]; rfl
      · rw [hinv w]
        have hn0 := K.named g fn hfn
        have hn : fn.name ≠ "runtime.NumGoroutine" := by simpa using hn0
        simp [callFunc, hfn, hn, hb']
    · cases e
  · cases e

theorem nextS_ok (r : HRel C ρ W σ h w) {id : Nat} {v : SV} {h' : SH} {X : Value} {ty : TypeId} (e : nextS C.ro h id = some (v, h')) (hx : VRel σ ρ (.ptr id 0) X) :
    OpOk C ρ W σ w (do pure (.value (← Instr.next X true ty))) (.val v h') := by
  unfold nextS at e
  simp only [VRel] at hx; obtain ⟨p, hp, rfl⟩ := hx
  split at e
  case h_2 => cases e
  rename_i s pos hg
  obtain ⟨p', o, hp', ho, hb⟩ := r.blk id _ hg
  rw [hp] at hp'; obtain rfl := Option.some.inj hp'
  have hb' : o = .stringIter (bytes s) pos ∧ p.off = 0 := hb
  obtain ⟨rfl, hoff⟩ := hb'
  have hget : (getObj p.block).run C.P w = .ok (.stringIter (bytes s) pos) w := by simp [getObj, Sem.run, ho]
  have haddr : (⟨p.block, p.off + 0, none⟩ : Addr) = ⟨p.block, 0, none⟩ := by rw [hoff]
  rw [haddr]
  by_cases hlt : pos < s.length
  · rw [show Nat.blt pos (lenL s) = true from blt_true.2 (by rw [lenL_eq]; exact hlt)] at e
    simp only [cond_true] at e
    cases hupd : h.upd C.ro id (.siter s (pos + (Utf8.decode ⟨(s.map UInt8.ofNat).toArray⟩ pos).2)) with
    | none => rw [hupd] at e; cases e
    | some h2 =>
      rw [hupd] at e; simp only [Option.map_some, Option.some.injEq, Prod.mk.injEq] at e; obtain ⟨rfl, rfl⟩ := e
      have hset := run_setObj_of (P := C.P) (o' := .stringIter (bytes s) (pos + (Utf8.decode (bytes s) pos).2)) ho (fun _ _ _ h => by cases h)
      refine OpOk.val (Sg.le_refl _) (V := .tuple #[.bool true, goInt pos, .int .i32 (Utf8.decode (bytes s) pos).1]) (w' := { w with heap := w.heap.setIfInBounds p.block (.stringIter (bytes s) (pos + (Utf8.decode (bytes s) pos).2)) }) ?_ ?_
        (r.turn (sb' := .siter s (pos + (Utf8.decode (bytes s) pos).2)) hg hp (Upd.set ho) ⟨rfl, hoff⟩ hupd)
      · have hl : pos < (bytes s).size := by rw [bytes_size]; exact hlt
        simp only [Instr.next, Sem.run_bind, hget, Result.andThen_ok]
        rw [if_pos hl]
        simp only [Sem.run_bind, hset, Result.andThen_ok, Sem.run_pure]
      · simp only [VRel]
        refine ⟨_, rfl, ?_⟩
        simp [VRels, VRel, BE.ev, IE.ev, goInt, bytes]
  · rw [show Nat.blt pos (lenL s) = false from by rw [← Bool.not_eq_true, blt_true, lenL_eq]; exact hlt] at e
    simp only [cond_false, Option.some.injEq, Prod.mk.injEq] at e; obtain ⟨rfl, rfl⟩ := e
    refine OpOk.val (Sg.le_refl _) (V := .tuple #[.bool false]) ?_ ?_ r
    · have hl : ¬ pos < (bytes s).size := by rw [bytes_size]; exact hlt
      simp only [Instr.next, Sem.run_bind, hget, Result.andThen_ok]
      rw [if_neg hl]
      rfl
    · simp only [VRel]; exact ⟨_, rfl, by simp [VRels, VRel, BE.ev]⟩
end
end Go.Sx
