/- The operations on data and memory. -/
import Derived.Test.YtacbfdokeiechaaGreatDoorSxLoad
import Derived.Calls
namespace Go.Sx
open Go

/-- A frame's slots. -/
def TRel (σ : Sg) (ρ : Env) (t : Tr SV) (a : Array Value) : Prop := ∀ i, VRel σ ρ ((t.get i).getD undefS) (a.getD i undef)
theorem TRel.mono {σ τ : Sg} {ρ : Env} {t : Tr SV} {a : Array Value} (h : σ.le τ) (r : TRel σ ρ t a) : TRel τ ρ t a := fun i => (r i).mono h

def Res.heap : Res → SH
  | .val _ h | .skip h | .enter _ _ h | .defer _ _ h => h

/-- A deferred call. -/
def DRel (C : Cx) (σ : Sg) (ρ : Env) (g : FuncId) (args : List SV) (d : Deferred) : Prop :=
  ∃ fv cap A, d.target = .fn fv cap ∧ (∀ w, (invoke d.target d.args).run C.P w = .ok (.enter g A) w) ∧ VRels σ ρ args A.toList

def NRel (C : Cx) (σ : Sg) (ρ : Env) : Res → Next → Prop
  | .val v _, nx => ∃ V, nx = .value V ∧ VRel σ ρ v V
  | .skip _, nx => nx = .skip
  | .enter f args _, nx => ∃ A, nx = .enter f A ∧ VRels σ ρ args A.toList
  | .defer g args _, nx => ∃ d, nx = .defer d ∧ DRel C σ ρ g args d

def OpOk (C : Cx) (ρ : Env) (W : Base) (σ : Sg) (w : World) (s : Sem Next) (R : Res) : Prop :=
  ∃ τ nx w', σ.le τ ∧ s.run C.P w = .ok nx w' ∧ NRel C τ ρ R nx ∧ HRel C ρ W τ R.heap w'

section
variable {C : Cx} {ρ : Env} {W : Base} {w : World} {σ : Sg} {h : SH} {tm : Tr SV} {a : Act}

theorem OpOk.val {τ : Sg} {s : Sem Value} {V : Value} {v : SV} {w' : World} {h' : SH} (hle : σ.le τ) (hs : s.run C.P w = .ok V w') (hv : VRel τ ρ v V) (hr : HRel C ρ W τ h' w') :
    OpOk C ρ W σ w (do pure (.value (← s))) (.val v h') :=
  ⟨τ, .value V, w', hle, by rw [Sem.run_bind, hs]; rfl, ⟨V, rfl, hv⟩, hr⟩
theorem OpOk.skip {τ : Sg} {s : Sem Unit} {w' : World} {h' : SH} (hle : σ.le τ) (hs : s.run C.P w = .ok () w') (hr : HRel C ρ W τ h' w') :
    OpOk C ρ W σ w (do s; pure .skip) (.skip h') :=
  ⟨τ, .skip, w', hle, by rw [Sem.run_bind, hs]; rfl, rfl, hr⟩
theorem OpOk.pure {V : Value} {v : SV} (hv : VRel σ ρ v V) (hr : HRel C ρ W σ h w) : OpOk C ρ W σ w (Pure.pure (.value V)) (.val v h) :=
  ⟨σ, .value V, w, Sg.le_refl _, rfl, ⟨V, rfl, hv⟩, hr⟩

theorem ev_ok (r : HRel C ρ W σ h w) (t : TRel σ ρ tm a.tmps) {x : Operand} {v : SV} (e : evS C.ng tm x = some v) : VRel σ ρ v (a.eval x) := by
  cases x with
  | tmp i => simp only [evS, Option.some.injEq] at e; subst e; exact t i
  | const V => exact ofVal_ok V v e
  | global g =>
    simp only [evS] at e
    cases hb : Nat.blt g C.ng with
    | false => rw [hb] at e; cases e
    | true =>
      rw [hb] at e; simp at e; subst e
      obtain ⟨n, hn⟩ := r.glob g (blt_true.1 hb)
      simp only [VRel]; exact ⟨_, hn, rfl⟩
  | func f => simp only [evS, Option.some.injEq] at e; subst e; simp [VRel, VRels, Act.eval]
theorem evAll_ok (r : HRel C ρ W σ h w) (t : TRel σ ρ tm a.tmps) : ∀ {xs : List Operand} {l : List SV}, evAll C.ng tm xs = some l → VRels σ ρ l (xs.map a.eval)
  | [], l, e => by simp only [evAll, Option.some.injEq] at e; subst e; simp [VRels]
  | x :: xs, l, e => by
    simp only [evAll] at e
    split at e
    · rename_i v l' h1 h2
      obtain rfl := Option.some.inj e
      simp only [List.map_cons, VRels]
      exact ⟨_, _, rfl, ev_ok r t h1, evAll_ok r t h2⟩
    · cases e

theorem load_ok (r : HRel C ρ W σ h w) {ty : TypeId} {id off : Nat} {V : Value} {v : SV} (hx : VRel σ ρ (.ptr id off) V) (e : loadS C.P h ty id off = some v) :
    OpOk C ρ W σ w (do pure (.value (← Instr.loadAt ty V))) (.val v h) := by
  simp only [VRel] at hx
  obtain ⟨p, hp, rfl⟩ := hx
  obtain ⟨X, hX, hv⟩ := loadS_ok r e hp
  exact OpOk.val (Sg.le_refl _) (by simp [Instr.loadAt, Instr.sureAddr, hX]) hv r

theorem store_ok (r : HRel C ρ W σ h w) {ty : TypeId} {id off : Nat} {V X : Value} {v : SV} {h' : SH} (hx : VRel σ ρ (.ptr id off) V) (hv : VRel σ ρ v X) (e : storeS C h ty id off v = some h') :
    OpOk C ρ W σ w (do Instr.storeAt ty V X; pure .skip) (.skip h') := by
  simp only [VRel] at hx
  obtain ⟨p, hp, rfl⟩ := hx
  obtain ⟨w', hX, hr⟩ := storeS_ok r e hv hp
  exact OpOk.skip (Sg.le_refl _) (by simp [Instr.storeAt, Instr.sureAddr, hX]) hr

theorem cells_any {v : SV} {V : Value} (r : VRel σ ρ v V) : VRels σ ρ v.cells V.cells.toList := by
  cases v
  case agg cs => exact cells_ok r (.inr (.inl ⟨_, rfl⟩))
  case tuple cs => exact cells_ok r (.inr (.inr (.inl ⟨_, rfl⟩)))
  all_goals exact cells_ok r (.inl rfl)

theorem box_ok (r : HRel C ρ W σ h w) {e : TypeId} {V : Value} {v : SV} (hv : VRels σ ρ v.cells V.cells.toList) :
    OpOk C ρ W σ w (do pure (.value (← Instr.box e V))) (.val (.ptr h.next 0) (newCells h h.next e v.cells).bump) := by
  have := newCells_ok r (e := e) hv
  rw [Array.toArray_toList] at this
  exact OpOk.val (r.le_put _) (V := .pointer (some ⟨w.heap.size, 0, none⟩)) rfl (newPtr _) this

theorem alloc_ok (r : HRel C ρ W σ h w) {e : TypeId} {z : SV} (hz : zeroP C.P e = some z) :
    OpOk C ρ W σ w (do pure (.value (← Instr.alloc e true (.tuple #[])))) (.val (.ptr h.next 0) (newCells h h.next e z.cells).bump) := by
  obtain ⟨Z, hZ, hr⟩ := run_zero hz
  have := newCells_ok r (e := e) (cells_any (hr σ ρ))
  rw [Array.toArray_toList] at this
  exact OpOk.val (r.le_put _) (V := .pointer (some ⟨w.heap.size, 0, none⟩)) (by unfold Instr.alloc; rw [Sem.run_bind, hZ]; rfl) (newPtr _) this

theorem fieldAddr_ok (r : HRel C ρ W σ h w) {ty : TypeId} {id off f : Nat} {V : Value} {fd : Field} {k : Nat} (hx : VRel σ ρ (.ptr id off) V) (hf : fieldP C.P ty f = some fd) (hs : sizeP C.P fd.type = some (k + 1)) :
    OpOk C ρ W σ w (do pure (.value (← Instr.fieldAt ty V f))) (.val (.ptr id (off + fd.offset)) h) := by
  simp only [VRel] at hx
  obtain ⟨p, hp, rfl⟩ := hx
  unfold fieldP at hf
  split at hf
  · rename_i fs hu
    refine OpOk.val (Sg.le_refl _) (V := .pointer (some ⟨p.block, p.off + (off + fd.offset), none⟩)) ?_ ?_ r
    · simp [Instr.fieldAt, run_underlying hu, hf, Instr.sureAddr, fieldPlace, run_sizeOf hs, addr_add, Nat.add_assoc]
    · simp only [VRel]; exact ⟨p, hp, rfl⟩
  · cases hf

theorem field_ok (r : HRel C ρ W σ h w) {ty : TypeId} {f : Nat} {V : Value} {cs : List SV} {fd : Field} {v : SV} (hx : VRel σ ρ (.agg cs) V) (hf : fieldP C.P ty f = some fd)
    (e : partS C.P fd.type cs fd.offset = some v) : OpOk C ρ W σ w (do pure (.value (← Instr.field ty V f))) (.val v h) := by
  simp only [VRel] at hx
  obtain ⟨c, rfl, hc⟩ := hx
  unfold fieldP at hf
  split at hf
  · rename_i fs hu
    obtain ⟨X, hX, hr⟩ := partS_ok e hc
    exact OpOk.val (Sg.le_refl _) (by simp [Instr.field, run_underlying hu, hf, asAgg, hX w]) hr r
  · cases hf

theorem asLit_ok {v : SV} {V : Value} {n : Nat} (r : VRel σ ρ v V) (e : asLit v = some n) : ∃ k, V = .int k (n : Int) := by
  unfold asLit at e
  split at e
  · rename_i k m
    simp only [VRel, IE.ev] at r
    obtain ⟨m', hm, rfl⟩ := r
    obtain rfl := Option.some.inj hm
    by_cases c : 0 ≤ m
    · rw [decide_eq_true c] at e; simp at e; exact ⟨k, by rw [← e]; congr 1; omega⟩
    · rw [decide_eq_false c] at e; cases e
  · cases e

theorem indexAddrS_ok {ty : TypeId} {x i v : SV} {V I : Value} (e : indexAddrS C.P ty x i = some v) (hx : VRel σ ρ x V) (hi : VRel σ ρ i I) :
    ∃ X, Gives C.P (Instr.indexAt ty V I) X ∧ VRel σ ρ v X := by
  unfold indexAddrS at e
  split at e
  · rename_i n el id off k hu hk
    obtain ⟨kk, rfl⟩ := asLit_ok hi hk
    simp only [VRel] at hx
    obtain ⟨p, hp, rfl⟩ := hx
    cases hs : sizeP C.P el with
    | none => rw [hs] at e; cases e
    | some s =>
      rw [hs] at e; simp only [Option.bind_some] at e
      cases hb : Nat.blt k n with
      | false => rw [hb] at e; cases e
      | true =>
        rw [hb] at e; obtain rfl := Option.some.inj e
        have hlt := blt_true.1 hb
        refine ⟨.pointer (some ⟨p.block, p.off + (off + k * s), none⟩), fun w => ?_, ?_⟩
        · have h1 : (0 : Int) ≤ (k : Int) ∧ (k : Int) < (n : Int) := by omega
          simp [Instr.indexAt, asIntOf, run_underlying hu, Instr.sureAddr, run_sizeOf hs, addr_add, hlt, Nat.add_assoc]
        · simp only [VRel]; exact ⟨p, hp, rfl⟩
  · rename_i el id off len room k hu hk
    obtain ⟨kk, rfl⟩ := asLit_ok hi hk
    have hx' : ∃ p c, σ id = some p ∧ V = .slice (some ⟨p.block, p.off + off, none⟩) len c := by
      cases room <;> simp only [VRel] at hx
      · obtain ⟨p, hp, rfl⟩ := hx; exact ⟨p, _, hp, rfl⟩
      · obtain ⟨p, c, hp, rfl, _⟩ := hx; exact ⟨p, c, hp, rfl⟩
    obtain ⟨p, c, hp, rfl⟩ := hx'
    cases hs : sizeP C.P el with
    | none => rw [hs] at e; cases e
    | some s =>
      rw [hs] at e; simp only [Option.bind_some] at e
      cases hb : Nat.blt k len with
      | false => rw [hb] at e; cases e
      | true =>
        rw [hb] at e; obtain rfl := Option.some.inj e
        have hlt := blt_true.1 hb
        refine ⟨.pointer (some ⟨p.block, p.off + (off + k * s), none⟩), fun w => ?_, ?_⟩
        · simp [Instr.indexAt, asIntOf, run_underlying hu, run_sizeOf hs, addr_add, hlt, Nat.add_assoc]
        · simp only [VRel]; exact ⟨p, hp, rfl⟩
  · cases e

theorem asIE_ok {v : SV} {V : Value} {k : IE} (h : VRel σ ρ v V) (e : asIE v = some k) : ∃ j n, V = .int j n ∧ k.ev ρ = some n := by
  cases v <;> simp only [asIE, Option.some.injEq, reduceCtorEq] at e
  subst e
  simp only [VRel] at h
  obtain ⟨n, h1, rfl⟩ := h
  exact ⟨_, n, rfl, h1⟩
theorem indexS_ok (hh : Hints C ρ) {ty : TypeId} {x i v : SV} {V I : Value} (e : indexS C ty x i = some v) (hx : VRel σ ρ x V) (hi : VRel σ ρ i I) :
    ∃ X, Gives C.P (Instr.index ty V I) X ∧ VRel σ ρ v X := by
  unfold indexS at e
  split at e
  · rename_i n el cs hu
    cases hk : asLit i with
    | none => rw [hk] at e; cases e
    | some k =>
    rw [hk] at e; simp only [Option.bind_some] at e
    obtain ⟨kk, rfl⟩ := asLit_ok hi hk
    simp only [VRel] at hx
    obtain ⟨c, rfl, hc⟩ := hx
    cases hs : sizeP C.P el with
    | none => rw [hs] at e; cases e
    | some s =>
      rw [hs] at e; simp only [Option.bind_some] at e
      cases hb : Nat.blt k n with
      | false => rw [hb] at e; cases e
      | true =>
        rw [hb] at e; simp only [cond_true] at e
        have hlt := blt_true.1 hb
        obtain ⟨X, hX, hr⟩ := partS_ok e hc
        exact ⟨X, fun w => by simp [Instr.index, asIntOf, run_underlying hu, run_sizeOf hs, hlt, hX w], hr⟩
  · rename_i l hu
    cases hk : asLit i with
    | none => rw [hk] at e; cases e
    | some k =>
    rw [hk] at e; simp only [Option.bind_some] at e
    obtain ⟨kk, rfl⟩ := asLit_ok hi hk
    simp only [VRel] at hx
    obtain ⟨hsm, rfl⟩ := hx
    rw [getL_eq] at e
    cases hb : l[k]? with
    | none => rw [hb] at e; cases e
    | some b =>
      rw [hb] at e; simp at e; subst e
      have hbs : b < 256 := hsm b (List.mem_of_getElem? hb)
      refine ⟨.int .u8 b, fun w => ?_, by simp only [VRel, IE.ev]; exact ⟨_, rfl, rfl⟩⟩
      have h1 : ((0 : Int) ≤ (k : Int)) := by omega
      simp [Instr.index, asIntOf, run_underlying hu, bytes_get hb, toNat_of hbs]
  · rename_i s hu
    cases hk : asIE i with
    | none => rw [hk] at e; cases e
    | some k =>
    rw [hk] at e; simp only [Option.bind_some] at e
    cases hc : isTrue (C.b (.le (.lit 0) k)) && isTrue (C.b (.lt k (.len s))) with
    | false => rw [hc] at e; cases e
    | true =>
    rw [hc] at e; simp only [cond_true, Option.some.injEq] at e; subst e
    simp only [Bool.and_eq_true] at hc
    obtain ⟨j, n, rfl, hn⟩ := asIE_ok hi hk
    simp only [VRel] at hx
    obtain ⟨S, hS, rfl⟩ := hx
    have h0 : 0 ≤ n := by have := told_true hh hc.1 (c := decide ((0 : Int) ≤ n)) (by simp only [BE.ev, IE.ev, hn, op2b]); simpa using this
    have h1 : n < S.size := by have := told_true hh hc.2 (c := decide (n < (S.size : Int))) (by simp only [BE.ev, IE.ev, hn, hS, op2b, Option.map_some]); simpa using this
    have hlt : n.toNat < S.size := by omega
    have hb : S[n.toNat]? = some (S[n.toNat]'hlt) := ByteArray.getElem?_lt' _ _ hlt
    refine ⟨.int .u8 (S[n.toNat]'hlt).toNat, fun w => ?_, ?_⟩
    · simp [Instr.index, asIntOf, run_underlying hu, h0, hb]
    · simp only [VRel]; exact ⟨_, by rw [hint_i hh]; simp [IE.ev, hS, hn, h0, hb], rfl⟩
  · cases e

theorem extract_ok {vs : List SV} {i : Nat} {v : SV} {V : Value} (hx : VRel σ ρ (.tuple vs) V) (e : getL vs i = some v) : ∃ X, Gives C.P (Instr.extract V i) X ∧ VRel σ ρ v X := by
  simp only [VRel] at hx
  obtain ⟨c, rfl, hc⟩ := hx
  rw [getL_eq] at e
  obtain ⟨X, hX, hr⟩ := hc.get e
  have : c[i]? = some X := by simpa using hX
  exact ⟨X, fun w => by simp [Instr.extract, this], hr⟩
end
end Go.Sx
