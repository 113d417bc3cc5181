/- Binary and unary operations, slicing, new slices. -/
import Derived.Test.YtacbfdokeiechaaGreatDoorSxOpC
namespace Go.Sx
open Go

section
variable {C : Cx} {ρ : Env} {W : Base} {w : World} {σ : Sg} {h : SH} {tm : Tr SV} {a : Act}

theorem guard_int (op : BinOp) (t : TypeId) (q q' : Operand) (j k : IntKind) (m n : Int) (P : Program) (w : World) : (eqGuard op t q q' (.int j m) (.int k n)).run P w = .ok () w := by
  cases op <;> simp [eqGuard]
theorem guard_str (op : BinOp) (t : TypeId) (q q' : Operand) (s u : ByteArray) (P : Program) (w : World) : (eqGuard op t q q' (.string s) (.string u)).run P w = .ok () w := by
  cases op <;> simp [eqGuard]

/-- A binary operation's result. -/
theorem bin_val (r : HRel C ρ W σ h w) {op : BinOp} {t : TypeId} {q q' : Operand} {X Y V : Value} {v : SV} (hg : (eqGuard op t q q' X Y).run C.P w = .ok () w)
    (hb : (binOp op t X Y).run C.P w = .ok V w) (hv : VRel σ ρ v V) : OpOk C ρ W σ w (do pure (.value (← (do eqGuard op t q q' X Y; binOp op t X Y)))) (.val v h) :=
  OpOk.val (Sg.le_refl _) (by rw [Sem.run_bind, hg]; exact hb) hv r

theorem binS_ok (hh : Hints C ρ) (r : HRel C ρ W σ h w) {op : BinOp} {t : TypeId} {q q' : Operand} {x y v : SV} {X Y : Value} (e : binS C h op t x y = some v) (hx : VRel σ ρ x X) (hy : VRel σ ρ y Y) :
    OpOk C ρ W σ w (do pure (.value (← (do eqGuard op t q q' X Y; binOp op t X Y)))) (.val v h) := by
  have cmpCase : ∀ {op : BinOp} {j k : IntKind} {m n : IE}, VRel σ ρ (.int j m) X → VRel σ ρ (.int k n) Y → cond (decide (j = k)) ((cmpE C op m n).map SV.bool) none = some v →
      OpOk C ρ W σ w (do pure (.value (← (do eqGuard op t q q' X Y; binOp op t X Y)))) (.val v h) := by
    intro op j k m n hx hy e
    simp only [VRel] at hx hy
    obtain ⟨m', hm, rfl⟩ := hx; obtain ⟨n', hn, rfl⟩ := hy
    by_cases c : j = k
    · subst c
      rw [decide_eq_true rfl] at e; simp only [cond_true] at e
      cases ec : cmpE C op m n with
      | none => rw [ec] at e; cases e
      | some b =>
        rw [ec] at e; simp at e; subst e
        obtain ⟨b', hb, hg, _⟩ := cmpE_ok (k := j) hh ec hm hn t
        exact bin_val r (guard_int _ _ _ _ _ _ _ _ _ _) (hg C.P w) (by simp only [VRel]; exact ⟨_, hb, rfl⟩)
    · rw [decide_eq_false c] at e; cases e
  unfold binS at e
  split at e
  case h_1 k m j n =>
    simp only [VRel] at hx hy; obtain ⟨m', hm, rfl⟩ := hx; obtain ⟨n', hn, rfl⟩ := hy
    cases es : shiftE .shl k m n with
    | none => rw [es] at e; cases e
    | some z =>
      rw [es] at e; simp at e; subst e
      obtain ⟨z', hz, hg⟩ := shiftE_ok (j := j) es hm hn t
      exact bin_val r (guard_int _ _ _ _ _ _ _ _ _ _) (hg C.P w) (by simp only [VRel]; exact ⟨_, hz, rfl⟩)
  case h_2 k m j n =>
    simp only [VRel] at hx hy; obtain ⟨m', hm, rfl⟩ := hx; obtain ⟨n', hn, rfl⟩ := hy
    cases es : shiftE .shr k m n with
    | none => rw [es] at e; cases e
    | some z =>
      rw [es] at e; simp at e; subst e
      obtain ⟨z', hz, hg⟩ := shiftE_ok (j := j) es hm hn t
      exact bin_val r (guard_int _ _ _ _ _ _ _ _ _ _) (hg C.P w) (by simp only [VRel]; exact ⟨_, hz, rfl⟩)
  case h_3 => exact cmpCase hx hy e
  case h_4 => exact cmpCase hx hy e
  case h_5 => exact cmpCase hx hy e
  case h_6 => exact cmpCase hx hy e
  case h_7 => exact cmpCase hx hy e
  case h_8 => exact cmpCase hx hy e
  case h_9 j m k n n1 n2 n3 n4 n5 n6 n7 n8 =>
    simp only [VRel] at hx hy; obtain ⟨m', hm, rfl⟩ := hx; obtain ⟨n', hn, rfl⟩ := hy
    by_cases c : j = k
    · subst c
      rw [decide_eq_true rfl] at e; simp only [cond_true] at e
      cases ec : arith C op j m n with
      | none => rw [ec] at e; cases e
      | some b =>
        rw [ec] at e; simp at e; subst e
        obtain ⟨b', hb, hg⟩ := arith_ok hh ec hm hn (by refine ⟨?_, ?_, ?_, ?_, ?_, ?_, ?_, ?_⟩ <;> (intro e; subst e; simp_all)) t
        exact bin_val r (guard_int _ _ _ _ _ _ _ _ _ _) (hg C.P w) (by simp only [VRel]; exact ⟨_, hb, rfl⟩)
    · rw [decide_eq_false c] at e; cases e
  case h_10 s u =>
    have hX : ∃ S, X = .string S := let ⟨S, _, e⟩ := str_rel.1 hx; ⟨S, e⟩
    have hY : ∃ S, Y = .string S := let ⟨S, _, e⟩ := str_rel.1 hy; ⟨S, e⟩
    obtain ⟨S, rfl⟩ := hX; obtain ⟨U, rfl⟩ := hY
    obtain ⟨V, hV, hg⟩ := strOp_ok hh e hx hy t
    exact bin_val r (guard_str _ _ _ _ _ _ _ _) (hg C.P w) hV
  case h_11 =>
    cases ee : equalS C h t x y with
    | none => rw [ee] at e; cases e
    | some b =>
      rw [ee] at e; simp at e; subst e
      obtain ⟨b', hb, he, hg, hbin, _⟩ := equalS_ok r ee hx hy
      exact bin_val r (hg _ _ _) (V := .bool b') (by rw [hbin, Sem.run_bind, he]; rfl) (by simp only [VRel]; exact ⟨_, hb, rfl⟩)
  case h_12 =>
    cases ee : equalS C h t x y with
    | none => rw [ee] at e; cases e
    | some b =>
      rw [ee] at e; simp at e; subst e
      obtain ⟨b', hb, he, hg, _, hbin⟩ := equalS_ok r ee hx hy
      exact bin_val r (hg _ _ _) (V := .bool (!b')) (by rw [hbin, Sem.run_bind, he]; rfl) (by simp only [VRel]; exact ⟨_, notB_ok hb, rfl⟩)
  case h_13 => cases e

theorem unS_ok (hh : Hints C ρ) {u : UnOp} {x v : SV} {X : Value} (e : unS C u x = some v) (hx : VRel σ ρ x X) : ∃ V, Gives C.P (Op.unary u X) V ∧ VRel σ ρ v V := by
  unfold unS at e
  split at e
  · rename_i k m
    simp only [VRel] at hx; obtain ⟨m', hm, rfl⟩ := hx
    cases ec : arith C .sub k (.lit 0) m with
    | none => rw [ec] at e; cases e
    | some b =>
      rw [ec] at e; simp at e; subst e
      obtain ⟨b', hb, hg⟩ := arith_ok hh ec (a := 0) rfl hm (by simp) 0
      refine ⟨.int k b', fun w => ?_, by simp only [VRel]; exact ⟨_, hb, rfl⟩⟩
      have := hg C.P w
      simpa [binOp, Op.unary] using this
  · rename_i k m
    simp only [VRel] at hx; obtain ⟨m', hm, rfl⟩ := hx
    cases ec : arith C .xor k (.lit (if k.signed then -1 else k.max)) m with
    | none => rw [ec] at e; cases e
    | some b =>
      rw [ec] at e; simp at e; subst e
      obtain ⟨b', hb, hg⟩ := arith_ok hh ec (a := if k.signed then -1 else k.max) rfl hm (by simp) 0
      refine ⟨.int k b', fun w => ?_, by simp only [VRel]; exact ⟨_, hb, rfl⟩⟩
      have := hg C.P w
      simpa [binOp, Op.unary] using this
  · simp only [VRel] at hx; obtain ⟨b, hb, rfl⟩ := hx
    obtain rfl := Option.some.inj e
    exact ⟨.bool (!b), fun w => by simp [Op.unary], by simp only [VRel]; exact ⟨_, notB_ok hb, rfl⟩⟩
  · cases e

/-- A bound, told and real. -/
def ORel (σ : Sg) (ρ : Env) : Option SV → Option Value → Prop
  | none, o => o = none
  | some v, o => ∃ V, o = some V ∧ VRel σ ρ v V
theorem evOpt_ok (r : HRel C ρ W σ h w) (t : TRel σ ρ tm a.tmps) {x : Option Operand} {l : Option SV} (e : evOpt C.ng tm x = some l) : ORel σ ρ l (x.map a.eval) := by
  cases x with
  | none => simp only [evOpt, Option.some.injEq] at e; subst e; rfl
  | some x =>
    simp only [evOpt] at e
    cases ev : evS C.ng tm x with
    | none => rw [ev] at e; cases e
    | some v => rw [ev] at e; simp at e; subst e; exact ⟨_, rfl, ev_ok r t ev⟩

theorem bounds_ok {len top cap l u : Nat} {lo hi : Option SV} {LO HI : Option Value} (e : bounds len top lo hi = some (l, u)) (hc : top ≤ cap) (hlo : ORel σ ρ lo LO) (hhi : ORel σ ρ hi HI) (s : Bool) :
    Gives C.P (do let (l, h, m) ← Instr.sliceBounds s len cap LO HI none; pure (.tuple #[goInt l, goInt h, goInt m])) (.tuple #[goInt l, goInt u, goInt cap]) ∧
    (∀ w, (Instr.sliceBounds s len cap LO HI none).run C.P w = .ok (l, u, cap) w) ∧ l ≤ u ∧ (u ≤ top ∨ u = len) := by
  have key : (∀ w, (Instr.sliceBounds s len cap LO HI none).run C.P w = .ok (l, u, cap) w) ∧ l ≤ u ∧ (u ≤ top ∨ u = len) := by
    unfold bounds at e
    split at e
    · cases e
    · rename_i u' hu
      split at e
      · cases e
      · rename_i l' hl
        cases hb : Nat.ble l' u' with
        | false => rw [hb] at e; cases e
        | true =>
          rw [hb] at e; simp only [cond_true, Option.some.injEq, Prod.mk.injEq] at e
          obtain ⟨rfl, rfl⟩ := e
          have hlu := ble_true.1 hb
          -- the upper bound
          have h1 : (∀ w, (match HI, (none : Option Value) with | some v, some _ => Instr.sliceBound v cap .slice3B | some v, none => Instr.sliceBound v cap (if s then .sliceAcap else .sliceAlen) | none, none => pure len | none, some _ => stuck "Slice: max without high" : Sem Nat).run C.P w = .ok u' w) ∧ (u' ≤ top ∨ u' = len) := by
            cases hi with
            | none => simp only [ORel] at hhi; subst hhi; simp at hu; subst hu; exact ⟨fun w => rfl, .inr rfl⟩
            | some v =>
              simp only [ORel] at hhi; obtain ⟨V, rfl, hV⟩ := hhi
              simp only at hu
              cases ha : asLit v with
              | none => rw [ha] at hu; cases hu
              | some k =>
                rw [ha] at hu; simp only [Option.bind_some] at hu
                cases hk : Nat.ble k top with
                | false => rw [hk] at hu; cases hu
                | true =>
                  rw [hk] at hu; simp at hu; subst hu
                  have hk' := ble_true.1 hk
                  obtain ⟨kk, rfl⟩ := asLit_ok hV ha
                  refine ⟨fun w => ?_, .inl hk'⟩
                  simp only [Instr.sliceBound, asIntOf, Sem.run_bind, Sem.run_pure, Result.andThen_ok]
                  rw [if_pos (by omega)]
                  simp
          have h2 : ∀ w, (match LO with | some v => Instr.sliceBound v u' .sliceB | none => pure 0 : Sem Nat).run C.P w = .ok l' w := by
            cases lo with
            | none => simp only [ORel] at hlo; subst hlo; simp at hl; subst hl; exact fun w => rfl
            | some v =>
              simp only [ORel] at hlo; obtain ⟨V, rfl, hV⟩ := hlo
              simp only at hl
              obtain ⟨kk, rfl⟩ := asLit_ok hV hl
              intro w
              simp only [Instr.sliceBound, asIntOf, Sem.run_bind, Sem.run_pure, Result.andThen_ok]
              rw [if_pos (by omega)]
              simp
          refine ⟨fun w => ?_, hlu, h1.2⟩
          simp only [Instr.sliceBounds, Sem.run_bind, Sem.run_pure, Result.andThen_ok]
          have h1' := h1.1 w
          cases HI with
          | none =>
            simp only [Sem.run_pure, Result.ok.injEq, and_true] at h1'
            simp only [h1']
            have h2' := h2 w
            cases LO with
            | none => simp only [Sem.run_pure, Result.ok.injEq, and_true] at h2'; simp [h2']
            | some V => simp only at h2'; simp [h2']
          | some V =>
            simp only at h1'
            have h2' := h2 w
            cases LO with
            | none => simp only [Sem.run_pure, Result.ok.injEq, and_true] at h2'; simp [h1', h2']
            | some V => simp only at h2'; simp [h1', h2']
  exact ⟨fun w => by simp [key.1 w], key⟩
end
end Go.Sx
