/- The runner is sound: code, loops, operations in the text's order, calls, deferred calls. -/
import Derived.Test.YtacbfdokeiechaaGreatDoorSxFrame
import Derived.Scope
import Derived.LoopN
import Derived.Defers
import Derived.Orders
namespace Go.Sx
open Go

def DsRel (C : Cx) (σ : Sg) (ρ : Env) : List (FuncId × List SV) → List Deferred → Prop
  | [], l => l = []
  | (g, args) :: r, l => ∃ d ds, l = d :: ds ∧ DRel C σ ρ g args d ∧ DsRel C σ ρ r ds
theorem DRel.mono {C : Cx} {σ τ : Sg} {ρ : Env} {g : FuncId} {args : List SV} {d : Deferred} (h : σ.le τ) (r : DRel C σ ρ g args d) : DRel C τ ρ g args d := by
  obtain ⟨fv, cap, A, h1, h2, h3⟩ := r
  exact ⟨fv, cap, A, h1, h2, VRels.mono h _ _ h3⟩
theorem DsRel.mono {C : Cx} {σ τ : Sg} {ρ : Env} (h : σ.le τ) : ∀ {l : List (FuncId × List SV)} {ds : List Deferred}, DsRel C σ ρ l ds → DsRel C τ ρ l ds
  | [], _, r => r
  | (_, _) :: _, _, r => by
    simp only [DsRel] at r ⊢
    obtain ⟨d, ds, e, r1, r2⟩ := r
    exact ⟨d, ds, e, r1.mono h, DsRel.mono h r2⟩

/-- A frame and the memory. -/
structure SRel (C : Cx) (ρ : Env) (W : Base) (σ : Sg) (s : St) (a : Act) (w : World) : Prop where
  tm : TRel σ ρ s.tmps a.tmps
  n : a.tmps.size = s.n
  df : DsRel C σ ρ s.defers a.defers
  h : HRel C ρ W σ s.h w

def exitOf : Ex → Exit
  | .nrm => .normal
  | .exit id => .exit id
  | .ret => .ret

section
variable {C : Cx} {ρ : Env} {W : Base}

theorem put_ok {σ : Sg} {t t' : Tr SV} {n : Nat} {dst : Option Tmp} {v : SV} {V : Value} {a : Act} (e : putT t n dst v = some t') (ht : TRel σ ρ t a.tmps) (hn : a.tmps.size = n) (hv : VRel σ ρ v V) :
    TRel σ ρ t' (a.put dst V).tmps ∧ (a.put dst V).tmps.size = n := by
  cases dst with
  | none => simp only [putT, Option.some.injEq] at e; subst e; exact ⟨ht, hn⟩
  | some d =>
    simp only [putT] at e
    cases hb : Nat.blt d n with
    | false => rw [hb] at e; cases e
    | true =>
      rw [hb] at e; simp only [cond_true, Option.some.injEq] at e; subst e
      have hd := blt_true.1 hb
      refine ⟨fun i => ?_, by simp [Act.put, hn]⟩
      rw [Tr.get_set]
      simp only [Act.put, Array.getD_eq_getD_getElem?]
      by_cases hi : i = d
      · subst hi
        rw [if_pos rfl, Array.getElem?_setIfInBounds, if_pos rfl, if_pos (by omega)]
        exact hv
      · rw [if_neg hi, Array.getElem?_setIfInBounds, if_neg (Ne.symm hi)]
        have := ht i
        rwa [Array.getD_eq_getD_getElem?] at this
theorem put_defers (a : Act) (dst : Option Tmp) (V : Value) : (a.put dst V).defers = a.defers := by cases dst <;> rfl

theorem undef_ok {σ : Sg} : VRel σ ρ undefS undef := by simp [undefS, undef, VRel, VRels]

theorem guard_ok {σ : Sg} {ops : Array Oper} {o : Oper} {t : Tr SV} {a : Act} {b : Bool} (e : guardS ops.toList o t = some b) (ht : TRel σ ρ t a.tmps) : Region.wanted o (yielded ops a.tmps) = b := by
  unfold guardS at e
  unfold Region.wanted
  cases hg : o.guard with
  | none => rw [hg] at e; simp only [Option.some.injEq] at e ⊢; exact e
  | some q =>
    obtain ⟨j, want⟩ := q
    rw [hg] at e
    simp only at e ⊢
    rw [getL_eq, Array.getElem?_toList] at e
    unfold yielded
    cases hd : (ops[j]?).bind (·.dst) with
    | none => rw [hd] at e; simp only [Option.some.injEq] at e; subst e; rfl
    | some d =>
      rw [hd] at e
      simp only [Option.bind_some] at e ⊢
      have h1 := ht d
      rw [Array.getD_eq_getD_getElem?] at h1
      have nb : ∀ {v : SV} {V : Value}, VRel σ ρ v V → (∀ x, v ≠ .bool x) → (∀ i, v ≠ .dyn i) → ∀ x, V ≠ .bool x := by
        intro v V hv hne hnd x hx
        subst hx
        cases v
        case bool e => exact hne e rfl
        case str s => cases s <;> simp [VRel] at hv
        case dyn i => exact hnd i rfl
        case slice i o l r => cases r <;> simp [VRel] at hv
        all_goals simp [VRel] at hv
      split at e
      · rename_i b' hb
        obtain rfl := Option.some.inj e
        rw [hb] at h1
        simp only [Option.getD_some, VRel, BE.ev, Option.some.injEq] at h1
        obtain ⟨_, rfl, h1⟩ := h1
        cases hc : a.tmps[d]? with
        | none => rw [hc] at h1; simp [undef] at h1
        | some V =>
          rw [hc] at h1; simp at h1; subst h1
          simp
      · cases e
      · cases e
      · rename_i hne1 hne2 hne3
        obtain rfl := Option.some.inj e
        have : ∀ x, (t.get d).getD undefS ≠ .bool x := by
          intro x hx
          cases htd : t.get d with
          | none => rw [htd] at hx; simp [undefS] at hx
          | some v => rw [htd] at hx; simp at hx; subst hx; exact hne2 x htd
        have this2 : ∀ i, (t.get d).getD undefS ≠ .dyn i := by
          intro i hx
          cases htd : t.get d with
          | none => rw [htd] at hx; simp [undefS] at hx
          | some v => rw [htd] at hx; simp at hx; subst hx; exact hne3 i htd
        have hx := nb h1 this this2
        cases hc : a.tmps[d]? with
        | none => rfl
        | some V =>
          rw [hc] at hx
          cases V <;> first | rfl | exact absurd rfl (hx _)

variable (C ρ W)
def CallOk (f : Nat) : Prop := ∀ g args h v h', call C f g args h = some (v, h') → ∀ (σ : Sg) (A : Array Value) (w : World), VRels σ ρ args A.toList → HRel C ρ W σ h w →
  Calls C.P g A w (fun e w' => ∃ V τ, σ.le τ ∧ e = .returned V ∧ VRel τ ρ v V ∧ HRel C ρ W τ h' w')
/-- What is told of calls is so. -/
def ToldOk : Prop := ∀ g args h v h', C.told g args h = some (v, h') → ∀ (σ : Sg) (A : Array Value) (w : World), VRels σ ρ args A.toList → HRel C ρ W σ h w →
  Calls C.P g A w (fun e w' => ∃ V τ, σ.le τ ∧ e = .returned V ∧ VRel τ ρ v V ∧ HRel C ρ W τ h' w')
/-- What is told: of calls, operations, loops. -/
structure Told : Prop extends ToldV C where
  call : ToldOk C ρ W
  op : ∀ t h (o : Oper) R, C.toldV t h o.op = some R → ∀ (σ : Sg) (a : Act) (w : World), TRel σ ρ t a.tmps → HRel C ρ W σ h w → OpOk C ρ W σ w (execOp a.eval o) R
  loop : ∀ b s e s', C.toldL b s = some (e, s') → ∀ (σ : Sg) (a : Act) (w : World), SRel C ρ W σ s a w → (Code.loop b).wp C.P (fun x a' w' => x = exitOf e ∧ ∃ τ, σ.le τ ∧ SRel C ρ W τ s' a' w') a w
def CallDOk (f : Nat) : Prop := ∀ g args h h', callD C f g args h = some h' → ∀ (σ : Sg) (A : Array Value) (w : World), VRels σ ρ args A.toList → HRel C ρ W σ h w →
  CallsD C.P g A .returning w (fun e u w' => u = .returning ∧ ∃ V τ, σ.le τ ∧ e = .returned V ∧ HRel C ρ W τ h' w')
def ValOk (f : Nat) : Prop := ∀ all o t h v h', valOp C f all o t h = some (v, h') → ∀ (ops : Array Oper) (σ : Sg) (a : Act) (w : World) (K : Act → World → Prop) (Q : Exit → Act → World → Prop), ops.toList = all → TRel σ ρ t a.tmps → HRel C ρ W σ h w →
  (∀ τ V w', σ.le τ → VRel τ ρ v V → HRel C ρ W τ h' w' → K (a.put o.dst V) w') →
  (if Region.wanted o (yielded ops a.tmps) then o.wp C.P a w K Q ∨ (o.asks C.P a w ∧ LetsOut Q) else K (a.put o.dst undef) w)
def RunOk (f : Nat) : Prop := ∀ all rest s s', runOps C f all rest s = some s' → ∀ (ops : Array Oper) (σ : Sg) (a : Act) (w : World) (Q : Exit → Act → World → Prop), ops.toList = all → SRel C ρ W σ s a w →
  (∀ τ a' w', σ.le τ → SRel C ρ W τ s' a' w' → Q .normal a' w') → wpList C.P ops Q rest a w
def DrawnOk (f : Nat) : Prop := ∀ (ops : Array Oper) s s', drawn C f ops.toList s = some s' → ∀ (σ : Sg) (a : Act) (w : World) (Q : Exit → Act → World → Prop), SRel C ρ W σ s a w →
  (∀ τ a' w', σ.le τ → SRel C ρ W τ s' a' w' → Q .normal a' w') → wpAny C.P .any ops Q ops.size (Array.replicate ops.size false) a w
def DrawnAOk (f : Nat) : Prop := ∀ (ops : Array Oper) s s', drawnA C f ops.toList s = some s' → ∀ (σ : Sg) (a : Act) (w : World) (Q : Exit → Act → World → Prop), SRel C ρ W σ s a w →
  (∀ τ a' w', σ.le τ → SRel C ρ W τ s' a' w' → Q .normal a' w') → wpAny C.P .any ops Q ops.size (Array.replicate ops.size false) a w
def Post (σ : Sg) (e : Ex) (s' : St) : Exit → Act → World → Prop := fun x a' w' => x = exitOf e ∧ ∃ τ, σ.le τ ∧ SRel C ρ W τ s' a' w'
def ExecOk (f : Nat) : Prop := ∀ c s e s', exec C f c s = some (e, s') → ∀ (σ : Sg) (a : Act) (w : World), SRel C ρ W σ s a w → c.wp C.P (Post C ρ W σ e s') a w
def LoopsOk (f : Nat) : Prop := ∀ b s e s', loops C f b s = some (e, s') → ∀ (σ υ : Sg) (a : Act) (w : World), υ.le σ → SRel C ρ W σ s a w → Code.rounds C.P b (Post C ρ W υ e s') f a w
def DefersOk (f : Nat) : Prop := ∀ ds h h', defers C f ds h = some h' → ∀ (σ : Sg) (Ds : List Deferred) (w : World), DsRel C σ ρ ds Ds → HRel C ρ W σ h w → ∀ (fn : Func) (tmps : Array Value) (R : Ending → World → Prop),
  (∀ τ w', σ.le τ → HRel C ρ W τ h' w' → ∃ V, (results fn tmps).run C.P w' = .ok V w' ∧ R (.returned V) w') → Leaves C.P fn tmps R Ds .returning w
variable {C ρ W}

theorem opT_ok (K0 : CxOk C) (hh : Hints C ρ) (ht : Told C ρ W) {σ : Sg} {h : SH} {w : World} {t : Tr SV} {a : Act} (hr : HRel C ρ W σ h w) (hm : TRel σ ρ t a.tmps) {o : Oper} {R : Res} (e : opT C t h o.op = some R) : OpOk C ρ W σ w (execOp a.eval o) R := by
  unfold opT at e
  split at e
  · rename_i r hr'
    obtain rfl := Option.some.inj e
    exact ht.op t h o _ hr' σ a w hm hr
  · exact op_ok K0 hh hr hm e

theorem val_step (K0 : CxOk C) (hh : Hints C ρ) (htd : Told C ρ W) {f : Nat} (hc : CallOk C ρ W f) : ValOk C ρ W (f + 1) := by
  intro all o t h v h' e ops σ a w K Q hall ht hr hK
  subst hall
  simp only [valOp_succ, valOpF, fns_call] at e
  split at e
  · cases e
  · rename_i hg
    simp only [Option.some.injEq, Prod.mk.injEq] at e; obtain ⟨rfl, rfl⟩ := e
    rw [guard_ok hg ht]
    simp only [Bool.false_eq_true, if_false]
    exact hK σ undef w (Sg.le_refl _) undef_ok hr
  · rename_i hg
    rw [guard_ok hg ht]
    simp only [if_true]
    left
    split at e
    · rename_i v0 h0 hop
      simp only [Option.some.injEq, Prod.mk.injEq] at e; obtain ⟨rfl, rfl⟩ := e
      obtain ⟨τ, nx, w', hle, hrun, ⟨V, rfl, hv⟩, hr'⟩ := opT_ok K0 hh htd hr ht hop
      unfold Oper.wp
      rw [hrun]
      exact hK τ V w' hle hv hr'
    · rename_i h0 hop
      simp only [Option.some.injEq, Prod.mk.injEq] at e; obtain ⟨rfl, rfl⟩ := e
      obtain ⟨τ, nx, w', hle, hrun, hn, hr'⟩ := opT_ok K0 hh htd hr ht hop
      have hn' : nx = .skip := hn
      subst hn'
      unfold Oper.wp
      rw [hrun]
      exact hK τ undef w' hle undef_ok hr'
    · rename_i g args h0 hop
      obtain ⟨τ, nx, w', hle, hrun, ⟨A, rfl, hA⟩, hr'⟩ := opT_ok K0 hh htd hr ht hop
      unfold Oper.wp
      rw [hrun]
      refine (hc g args h0 v h' e τ A w' hA hr').mono ?_
      rintro en w2 ⟨V, υ, hle2, rfl, hv, hr2⟩
      exact hK υ V w2 (Sg.le_trans hle hle2) hv hr2
    · cases e

theorem run_step (K0 : CxOk C) (hh : Hints C ρ) {f : Nat} (hv : ValOk C ρ W f) (ih : RunOk C ρ W f) : RunOk C ρ W (f + 1) := by
  intro all rest s s' e ops σ a w Q hall hs hQ
  cases rest with
  | nil =>
    simp only [runOps_succ, runOpsF, Option.some.injEq] at e; subst e
    exact hQ σ a w (Sg.le_refl _) hs
  | cons o rest =>
    simp only [runOps_succ, runOpsF, fns_valOp, fns_runOps] at e
    unfold wpList
    split at e
    · rename_i c hop
      split at e
      · rename_i d args h0 hg hdf
        cases hp : putT s.tmps s.n o.dst undefS with
        | none => rw [hp] at e; cases e
        | some t =>
          rw [hp] at e; simp only [Option.bind_some] at e
          rw [if_pos (by simp [Region.wanted, hg])]
          left
          have hop' : op C s.tmps s.h o.op = some (.defer d args h0) := by rw [hop]; simp only [op]; exact hdf
          obtain ⟨τ, nx, w', hle, hrun, ⟨D, rfl, hD⟩, hr'⟩ := op_ok K0 hh hs.h hs.tm hop'
          unfold Oper.wp
          rw [hrun]
          have hput := put_ok (a := { a with defers := D :: a.defers }) hp (hs.tm.mono hle) hs.n (undef_ok (σ := τ))
          refine ih all rest _ s' e ops τ _ w' Q hall ⟨hput.1, hput.2, ?_, hr'⟩ (fun υ a' w' h1 h2 => hQ υ a' w' (Sg.le_trans hle h1) h2)
          rw [put_defers]
          simp only [DsRel]
          exact ⟨_, _, rfl, hD, hs.df.mono hle⟩
      · cases e
    · split at e
      · rename_i v h0 hval
        cases hp : putT s.tmps s.n o.dst v with
        | none => rw [hp] at e; cases e
        | some t =>
          rw [hp] at e; simp only [Option.bind_some] at e
          refine hv all o s.tmps s.h v h0 hval ops σ a w _ Q hall hs.tm hs.h ?_
          intro τ V w' hle hV hr'
          have hput := put_ok (a := a) hp (hs.tm.mono hle) hs.n hV
          exact ih all rest _ s' e ops τ _ w' Q hall ⟨hput.1, hput.2, by rw [put_defers]; exact hs.df.mono hle, hr'⟩ (fun υ a' w' h1 h2 => hQ υ a' w' (Sg.le_trans hle h1) h2)
      · cases e

theorem Post.mono {σ τ : Sg} {e : Ex} {s' : St} (h : σ.le τ) : ∀ x a w, Post C ρ W τ e s' x a w → Post C ρ W σ e s' x a w :=
  fun _ _ _ ⟨h1, υ, h2, h3⟩ => ⟨h1, υ, Sg.le_trans h h2, h3⟩

theorem exec_step (K0 : CxOk C) (htd : Told C ρ W) {f : Nat} (he : ExecOk C ρ W f) (hl : LoopsOk C ρ W f) (hr : RunOk C ρ W f) (hd : DrawnOk C ρ W f) (hda : DrawnAOk C ρ W f) : ExecOk C ρ W (f + 1) := by
  intro c s e s' h σ a w hs
  have here : Post C ρ W σ .nrm s .normal a w := ⟨rfl, σ, Sg.le_refl _, hs⟩
  cases c
  case skip => simp only [exec_succ, execF, Option.some.injEq, Prod.mk.injEq] at h; obtain ⟨rfl, rfl⟩ := h; exact wp_skip here
  case label => simp only [exec_succ, execF, Option.some.injEq, Prod.mk.injEq] at h; obtain ⟨rfl, rfl⟩ := h; exact wp_label here
  case ret => simp only [exec_succ, execF, Option.some.injEq, Prod.mk.injEq] at h; obtain ⟨rfl, rfl⟩ := h; exact wp_ret ⟨rfl, σ, Sg.le_refl _, hs⟩
  case exit id => simp only [exec_succ, execF, Option.some.injEq, Prod.mk.injEq] at h; obtain ⟨rfl, rfl⟩ := h; exact wp_exit ⟨rfl, σ, Sg.le_refl _, hs⟩
  case seq x y =>
    simp only [exec_succ, execF, fns_exec] at h
    split at h
    · rename_i s1 h1
      refine wp_seq (wp_mono (he x s _ _ h1 σ a w hs) ?_)
      rintro ex a1 w1 ⟨rfl, τ, hle, hs1⟩
      exact wp_mono (he y s1 _ _ h τ a1 w1 hs1) (Post.mono hle)
    · rename_i hne
      refine wp_seq (wp_mono (he x s _ _ h σ a w hs) ?_)
      rintro ex a1 w1 ⟨rfl, τ, hle, hs1⟩
      cases e with
      | nrm => exact absurd h (hne _)
      | exit id => exact ⟨rfl, τ, hle, hs1⟩
      | ret => exact ⟨rfl, τ, hle, hs1⟩
  case cond x y z =>
    simp only [exec_succ, execF, fns_exec] at h
    split at h
    · rename_i hc
      have hc' := ev_ok (a := a) hs.h hs.tm hc
      simp only [VRel, BE.ev, Option.some.injEq] at hc'; obtain ⟨_, rfl, hc'⟩ := hc'
      exact wp_cond_true hc' (he y s _ _ h σ a w hs)
    · rename_i hc
      have hc' := ev_ok (a := a) hs.h hs.tm hc
      simp only [VRel, BE.ev, Option.some.injEq] at hc'; obtain ⟨_, rfl, hc'⟩ := hc'
      exact wp_cond_false hc' (he z s _ _ h σ a w hs)
    · cases h
  case block id b =>
    simp only [exec_succ, execF, fns_exec] at h
    split at h
    · rename_i j s1 h1
      refine wp_block (wp_mono (he b s _ _ h1 σ a w hs) ?_)
      rintro ex a1 w1 ⟨rfl, τ, hle, hs1⟩
      by_cases hj : j = id
      · rw [beq_true.2 hj] at h; simp only [cond_true, Option.some.injEq, Prod.mk.injEq] at h; obtain ⟨rfl, rfl⟩ := h
        simp only [exitOf, Exit.inBlock]
        rw [if_pos hj]
        exact ⟨rfl, τ, hle, hs1⟩
      · rw [beq_false.2 hj] at h; simp only [cond_false, Option.some.injEq, Prod.mk.injEq] at h; obtain ⟨rfl, rfl⟩ := h
        simp only [exitOf, Exit.inBlock]
        rw [if_neg hj]
        exact ⟨rfl, τ, hle, hs1⟩
    · rename_i hne
      refine wp_block (wp_mono (he b s _ _ h σ a w hs) ?_)
      rintro ex a1 w1 ⟨rfl, τ, hle, hs1⟩
      cases e with
      | exit j => exact absurd h (hne _ _)
      | nrm => exact ⟨rfl, τ, hle, hs1⟩
      | ret => exact ⟨rfl, τ, hle, hs1⟩
  case loop b =>
    simp only [exec_succ, execF, fns_loops] at h
    split at h
    · rename_i r hr0
      simp only [Option.some.injEq] at h; subst h
      exact htd.loop b s e s' hr0 σ a w hs
    · exact wp_loop_rounds f (hl b s e s' h σ σ a w (Sg.le_refl _) hs)
  case scope b =>
    simp only [exec_succ, execF, fns_exec] at h
    refine wp_scope_straight (wp_mono (he b s _ _ h σ a w hs) ?_)
    rintro ex a1 w1 ⟨rfl, τ, hle, hs1⟩
    cases e <;> exact ⟨rfl, τ, hle, hs1⟩
  case region id ops draw =>
    cases draw with
    | false =>
      simp only [exec_succ, execF, fns_runOps] at h
      cases hx : runOps C f ops.toList ops.toList s with
      | none => rw [hx] at h; cases h
      | some s1 =>
        rw [hx] at h; simp only [Option.map_some, Option.some.injEq, Prod.mk.injEq] at h; obtain ⟨rfl, rfl⟩ := h
        exact wp_region_list (hr ops.toList ops.toList s s1 hx ops σ a w _ rfl hs (fun τ a' w' h1 h2 => ⟨rfl, τ, h1, h2⟩))
    | true =>
      simp only [exec_succ, execF, fns_drawn, fns_drawnA] at h
      cases hreg : regular C.P ops.toList with
      | true =>
        rw [hreg] at h; simp only [cond_true] at h
        cases hx : drawn C f ops.toList s with
        | none => rw [hx] at h; cases h
        | some s1 =>
          rw [hx] at h; simp only [Option.map_some, Option.some.injEq, Prod.mk.injEq] at h; obtain ⟨rfl, rfl⟩ := h
          exact wp_region_any K0.mixed (hd ops s s1 hx σ a _ _ ⟨hs.tm, hs.n, hs.df, hs.h.draw _⟩ (fun τ a' w' h1 h2 => ⟨rfl, τ, h1, h2⟩))
      | false =>
        rw [hreg] at h; simp only [cond_false] at h
        cases hx : drawnA C f ops.toList s with
        | none => rw [hx] at h; cases h
        | some s1 =>
          rw [hx] at h; simp only [Option.map_some, Option.some.injEq, Prod.mk.injEq] at h; obtain ⟨rfl, rfl⟩ := h
          exact wp_region_any K0.mixed (hda ops s s1 hx σ a _ _ ⟨hs.tm, hs.n, hs.df, hs.h.draw _⟩ (fun τ a' w' h1 h2 => ⟨rfl, τ, h1, h2⟩))
  all_goals (first | (simp only [exec_succ, execF] at h; done) | (simp only [exec_succ, execF] at h; cases h) | cases h)

theorem loops_step {f : Nat} (he : ExecOk C ρ W f) (ih : LoopsOk C ρ W f) : LoopsOk C ρ W (f + 1) := by
  intro b s e s' h σ υ a w hle0 hs
  simp only [loops_succ, loopsF, fns_exec, fns_loops] at h
  rw [rounds_succ]
  split at h
  · rename_i s1 h1
    refine wp_mono (he b s _ _ h1 σ a w hs) ?_
    rintro ex a1 w1 ⟨rfl, τ, hle, hs1⟩
    exact ih b s1 e s' h τ υ a1 w1 (Sg.le_trans hle0 hle) hs1
  · rename_i hne
    refine wp_mono (he b s _ _ h σ a w hs) ?_
    rintro ex a1 w1 ⟨rfl, τ, hle, hs1⟩
    cases e with
    | nrm => exact absurd h (hne _)
    | exit id => exact ⟨rfl, τ, Sg.le_trans hle0 hle, hs1⟩
    | ret => exact ⟨rfl, τ, Sg.le_trans hle0 hle, hs1⟩

theorem results_ok {σ : Sg} {h : SH} {w : World} {t : Tr SV} {tmps : Array Value} (hr : HRel C ρ W σ h w) (ht : TRel σ ρ t tmps) :
    ∀ {l : List ResultVar} {vs : List SV}, resultS C.P t h l = some vs → ∃ Vs : List Value, (l.mapM fun (r : ResultVar) => match r with | ResultVar.tmp t => (pure (tmps.getD t undef) : Sem Value) | ResultVar.cell a t => do loadVar t (← asAddr (tmps.getD a undef))).run C.P w = Result.ok Vs w ∧ VRels σ ρ vs Vs
  | [], vs, e => by simp only [resultS, Option.some.injEq] at e; subst e; exact ⟨[], rfl, by simp [VRels]⟩
  | .tmp i :: l, vs, e => by
    simp only [resultS] at e
    cases hl : resultS C.P t h l with
    | none => rw [hl] at e; cases e
    | some l' =>
      rw [hl] at e; simp only [Option.map_some, Option.some.injEq] at e; subst e
      obtain ⟨Vs, hrun, hv⟩ := results_ok hr ht hl
      refine ⟨tmps.getD i undef :: Vs, ?_, by simp only [VRels]; exact ⟨_, _, rfl, ht i, hv⟩⟩
      simp only [List.mapM_cons, Sem.run_bind, Sem.run_pure, Result.andThen_ok, hrun]
  | .cell a ty :: l, vs, e => by
    simp only [resultS] at e
    split at e
    · rename_i id off l' ha hl
      cases hld : loadS C.P h ty id off with
      | none => rw [hld] at e; cases e
      | some v =>
        rw [hld] at e; simp only [Option.map_some, Option.some.injEq] at e; subst e
        have hta := ht a
        rw [ha] at hta
        simp only [VRel] at hta; obtain ⟨p, hp, hta⟩ := hta
        obtain ⟨X, hX, hv⟩ := loadS_ok hr hld hp
        obtain ⟨Vs, hrun, hvs⟩ := results_ok hr ht hl
        refine ⟨X :: Vs, ?_, by simp only [VRels]; exact ⟨_, _, rfl, hv, hvs⟩⟩
        have hea : asAddr (tmps.getD a undef) = (pure { block := p.block, off := p.off + off } : Sem Addr) := by rw [hta]; rfl
        simp only [List.mapM_cons, Sem.run_bind, hea, Sem.run_pure, Result.andThen_ok, hX, hrun]
    · cases e

theorem results_all {σ : Sg} {h : SH} {w : World} {t : Tr SV} {tmps : Array Value} {fn : Func} {vs : List SV} (hr : HRel C ρ W σ h w) (ht : TRel σ ρ t tmps) (e : resultS C.P t h fn.results.toList = some vs) :
    ∃ V, (results fn tmps).run C.P w = .ok V w ∧ VRel σ ρ (oneOr vs) V := by
  obtain ⟨Vs, hrun, hv⟩ := results_ok hr ht e
  have hm : (fn.results.mapM fun (r : ResultVar) => match r with | ResultVar.tmp t => (pure (tmps.getD t undef) : Sem Value) | ResultVar.cell a t => do loadVar t (← asAddr (tmps.getD a undef))).run C.P w = Result.ok Vs.toArray w := by
    rw [Array.mapM_eq_mapM_toList, Sem.run_map, hrun]; rfl
  refine ⟨if h : Vs.toArray.size = 1 then Vs.toArray[0] else .tuple Vs.toArray, ?_, ?_⟩
  · unfold results
    rw [Sem.run_bind]
    exact (congrArg (fun r => Result.andThen r _) hm).trans rfl
  · match vs, hv with
    | [], hv => simp only [VRels] at hv; subst hv; simp [oneOr, VRel, VRels]
    | [v], hv =>
      simp only [VRels] at hv
      obtain ⟨x, _, rfl, hx, rfl⟩ := hv
      simpa [oneOr] using hx
    | v :: u :: r, hv =>
      have hl := hv.length
      have hne : ¬ Vs.toArray.size = 1 := by simp at hl ⊢; omega
      rw [dif_neg hne]
      simp only [oneOr, VRel]
      exact ⟨_, rfl, hv⟩

theorem start_ok {σ : Sg} {args : List SV} {A : Array Value} {h : SH} {w : World} {n : Nat} (hA : VRels σ ρ args A.toList) (hn : args.length ≤ n) (hr : HRel C ρ W σ h w) :
    SRel C ρ W σ { tmps := trOf args 0 .nil, n := n, defers := [], h := h } { tmps := A ++ Array.replicate (n - A.size) undef, defers := [] } w := by
  have hl : args.length = A.size := by rw [hA.length, Array.length_toList]
  refine ⟨fun i => ?_, by simp; omega, rfl, hr⟩
  show VRel σ ρ (((trOf args 0 .nil).get i).getD undefS) _
  rw [get_trOf, Array.getD_eq_getD_getElem?]
  by_cases c : 0 ≤ i ∧ i < 0 + args.length
  · rw [if_pos c]
    have hi : i < args.length := by omega
    have hg : args[i - 0]? = some args[i] := by simp [hi]
    obtain ⟨V, hV, hv⟩ := hA.get (show args[i]? = some args[i] by simp [hi])
    rw [hg, Array.getElem?_append_left (by omega)]
    rw [Array.getElem?_toList] at hV
    rw [hV]
    exact hv
  · rw [if_neg c]
    have : (A ++ Array.replicate (n - A.size) undef)[i]?.getD undef = undef := by
      rw [Array.getElem?_append_right (by omega)]
      by_cases c2 : i - A.size < n - A.size
      · simp [c2]
      · rw [Array.getElem?_eq_none (by simp; omega)]; rfl
    rw [this]
    exact undef_ok

theorem call_step (ht : Told C ρ W) {f : Nat} (he : ExecOk C ρ W f) (hd : DefersOk C ρ W f) : CallOk C ρ W (f + 1) := by
  intro g args h v h' e σ A w hA hr
  simp only [call_succ, callF, fns_exec, fns_defers] at e
  split at e
  · rename_i r hr0
    simp only [Option.some.injEq] at e; subst e
    exact ht.call g args h v h' hr0 σ A w hA hr
  split at e
  · cases e
  rename_i fn hf
  split at e
  · cases e
  rename_i c hb
  cases hn : Nat.ble (lenL args) fn.ntmps with
  | false => rw [hn] at e; cases e
  | true =>
    rw [hn] at e; simp only [cond_true] at e
    rw [ble_true, lenL_eq] at hn
    refine calls_of_wp_defers hf hb ?_
    have key : ∀ {ex : Ex} {s : St}, exec C f c { tmps := trOf args 0 .nil, n := fn.ntmps, defers := [], h := h } = some (ex, s) → (ex = .nrm ∨ ex = .ret) →
        ((defers C f s.defers s.h).bind fun h => (resultS C.P s.tmps h fn.results.toList).map fun l => (oneOr l, h)) = some (v, h') →
        c.wp C.P (bodyPostD C.P fn fun e w' => ∃ V τ, σ.le τ ∧ e = .returned V ∧ VRel τ ρ v V ∧ HRel C ρ W τ h' w') { tmps := A ++ Array.replicate (fn.ntmps - A.size) undef, defers := [] } w := by
      intro ex s hex hx e
      refine wp_mono (he c _ _ _ hex σ _ w (start_ok hA hn hr)) ?_
      rintro x a1 w1 ⟨rfl, τ, hle, hs⟩
      cases hdf : defers C f s.defers s.h with
      | none => rw [hdf] at e; cases e
      | some h2 =>
        rw [hdf] at e; simp only [Option.bind_some] at e
        cases hres : resultS C.P s.tmps h2 fn.results.toList with
        | none => rw [hres] at e; cases e
        | some l =>
          rw [hres] at e; simp only [Option.map_some, Option.some.injEq, Prod.mk.injEq] at e; obtain ⟨rfl, rfl⟩ := e
          have hL := hd s.defers s.h h2 hdf τ a1.defers w1 hs.df hs.h fn a1.tmps (fun e w' => ∃ V τ, σ.le τ ∧ e = .returned V ∧ VRel τ ρ (oneOr l) V ∧ HRel C ρ W τ h2 w') (by
            intro υ w2 hle2 hr2
            obtain ⟨V, hV, hv⟩ := results_all hr2 (hs.tm.mono hle2) hres
            exact ⟨V, hV, V, υ, Sg.le_trans hle hle2, rfl, hv, hr2⟩)
          rcases hx with rfl | rfl <;> exact hL
    split at e
    · rename_i s hex; exact key hex (.inl rfl) e
    · rename_i s hex; exact key hex (.inr rfl) e
    · cases e

theorem callD_step {f : Nat} (he : ExecOk C ρ W f) : CallDOk C ρ W (f + 1) := by
  intro g args h h' e σ A w hA hr
  simp only [callD_succ, callDF, fns_exec] at e
  split at e
  · cases e
  rename_i fn hf
  split at e
  · cases e
  rename_i c hb
  cases hn : Nat.ble (lenL args) fn.ntmps with
  | false => rw [hn] at e; cases e
  | true =>
    rw [hn] at e; simp only [cond_true] at e
    rw [ble_true, lenL_eq] at hn
    refine (callsD_of_wp (u := .returning) hf hb (R := fun e w' => ∃ V τ, σ.le τ ∧ e = .returned V ∧ HRel C ρ W τ h' w') ?_).mono (fun e u w' h => h)
    have key : ∀ {ex : Ex} {s : St}, exec C f c { tmps := trOf args 0 .nil, n := fn.ntmps, defers := [], h := h } = some (ex, s) → (ex = .nrm ∨ ex = .ret) →
        (match s.defers with | [] => (resultS C.P s.tmps s.h fn.results.toList).map fun _ => s.h | _ => none) = some h' →
        c.wp C.P (bodyPost C.P fn fun e w' => ∃ V τ, σ.le τ ∧ e = .returned V ∧ HRel C ρ W τ h' w') { tmps := A ++ Array.replicate (fn.ntmps - A.size) undef, defers := [] } w := by
      intro ex s hex hx e
      refine wp_mono (he c _ _ _ hex σ _ w (start_ok hA hn hr)) ?_
      rintro x a1 w1 ⟨rfl, τ, hle, hs⟩
      split at e
      · rename_i hnil
        cases hres : resultS C.P s.tmps s.h fn.results.toList with
        | none => rw [hres] at e; cases e
        | some l =>
          rw [hres] at e; simp only [Option.map_some, Option.some.injEq] at e; subst e
          obtain ⟨V, hV, hv⟩ := results_all hs.h hs.tm hres
          have hdn : a1.defers = [] := by have := hs.df; rw [hnil] at this; exact this
          rcases hx with rfl | rfl <;> exact ⟨hdn, V, hV, V, τ, hle, rfl, hs.h⟩
      · cases e
    split at e
    · rename_i s hex; exact key hex (.inl rfl) e
    · rename_i s hex; exact key hex (.inr rfl) e
    · cases e

theorem defers_step {f : Nat} (hc : CallDOk C ρ W f) (ih : DefersOk C ρ W f) : DefersOk C ρ W (f + 1) := by
  intro ds h h' e σ Ds w hD hr fn tmps R hR
  cases ds with
  | nil =>
    simp only [defers_succ, defersF, Option.some.injEq] at e; subst e
    simp only [DsRel] at hD; subst hD
    exact hR σ w (Sg.le_refl _) hr
  | cons q ds =>
    obtain ⟨g, args⟩ := q
    simp only [defers_succ, defersF, fns_callD, fns_defers] at e
    split at e
    · rename_i h1 hcd
      simp only [DsRel] at hD
      obtain ⟨d, ds', rfl, ⟨fv, cap, A, htar, hinv, hA⟩, hD'⟩ := hD
      obtain ⟨tar, dargs⟩ := d
      simp only at htar; subst htar
      refine leaves_cons (by simp) (hinv w) ?_
      refine (hc g args h h1 hcd σ A w hA hr).mono ?_
      rintro en u w1 ⟨rfl, V, τ, hle, rfl, hr1⟩
      exact ih ds h1 h' e τ ds' w1 (hD'.mono hle) hr1 fn tmps R (fun υ w' h1 h2 => hR υ w' (Sg.le_trans hle h1) h2)
    · cases e
end
end Go.Sx
