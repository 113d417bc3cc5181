/- Numbers, texts, constants: what the runner reckons is what the operations give. -/
import Derived.Test.YtgmpjhlgdicanaaGreatDoorSxHeap
import GoSem.Dispatch
namespace Go.Sx
open Go

structure Hints (C : Cx) (ρ : Env) : Prop where
  i : ∀ x ∈ C.hintI, x.1.ev ρ = some x.2
  b : ∀ x ∈ C.hintB, x.1.ev ρ = some x.2

section
variable {C : Cx} {ρ : Env} {σ : Sg}

theorem find_i (e : IE) : ∀ (l : List (IE × Int)), (∀ x ∈ l, x.1.ev ρ = some x.2) → (e.find l).ev ρ = e.ev ρ
  | [], _ => rfl
  | (x, n) :: r, h => by
    unfold IE.find
    by_cases c : x = e
    · rw [decide_eq_true c]; have := h (x, n) (by simp); simp only [cond_true, IE.ev]; rw [← c, this]
    · rw [decide_eq_false c]; exact find_i e r fun y hy => h y (by simp [hy])
theorem find_b (e : BE) : ∀ (l : List (BE × Bool)), (∀ x ∈ l, x.1.ev ρ = some x.2) → (e.find l).ev ρ = e.ev ρ
  | [], _ => rfl
  | (x, n) :: r, h => by
    unfold BE.find
    by_cases c : x = e
    · rw [decide_eq_true c]; have := h (x, n) (by simp); simp only [cond_true, BE.ev]; rw [← c, this]
    · rw [decide_eq_false c]; exact find_b e r fun y hy => h y (by simp [hy])
theorem hint_i (hh : Hints C ρ) (e : IE) : (C.i e).ev ρ = e.ev ρ := by
  unfold Cx.i; split
  · rfl
  · exact find_i _ _ hh.i
theorem hint_b (hh : Hints C ρ) (e : BE) : (C.b e).ev ρ = e.ev ρ := by
  unfold Cx.b; split
  · rfl
  · exact find_b _ _ hh.b

/-- What an operation gives: a value, the world as it was. -/
def Gives (P : Program) (s : Sem Value) (V : Value) : Prop := ∀ w, s.run P w = .ok V w
theorem gives_pure (P : Program) (V : Value) : Gives P (pure V) V := fun _ => rfl

theorem arith_ok (hh : Hints C ρ) {op : BinOp} {k : IntKind} {x y r : IE} {a b : Int} (h : arith C op k x y = some r) (hx : x.ev ρ = some a) (hy : y.ev ρ = some b)
    (hop : op ≠ .eql ∧ op ≠ .neq ∧ op ≠ .lss ∧ op ≠ .leq ∧ op ≠ .gtr ∧ op ≠ .geq ∧ op ≠ .shl ∧ op ≠ .shr) (t : TypeId) :
    ∃ n, r.ev ρ = some n ∧ ∀ P, Gives P (binOp op t (.int k a) (.int k b)) (.int k n) := by
  have hi := hint_i hh
  unfold arith at h
  split at h
  all_goals try contradiction
  all_goals try (simp only [IE.ev, Option.some.injEq] at hx hy)
  all_goals try subst hx
  all_goals try subst hy
  case h_1 => obtain rfl := Option.some.inj h; exact ⟨_, rfl, fun P w => by simp [binOp, Op.intArith]⟩
  case h_2 => obtain rfl := Option.some.inj h; exact ⟨_, rfl, fun P w => by simp [binOp, Op.intArith]⟩
  case h_3 => obtain rfl := Option.some.inj h; exact ⟨_, rfl, fun P w => by simp [binOp, Op.intArith]⟩
  case h_4 a b =>
    cases e : (b == 0) <;> rw [e] at h
    · obtain rfl := Option.some.inj h; exact ⟨_, rfl, fun P w => by simp at e; simp [binOp, Op.intDiv, e]⟩
    · cases h
  case h_5 a b =>
    cases e : (b == 0) <;> rw [e] at h
    · obtain rfl := Option.some.inj h; exact ⟨_, rfl, fun P w => by simp at e; simp [binOp, Op.intDiv, e]⟩
    · cases h
  case h_6 => obtain rfl := Option.some.inj h; exact ⟨_, rfl, fun P w => by simp [binOp, Op.intBits]⟩
  case h_7 => obtain rfl := Option.some.inj h; exact ⟨_, rfl, fun P w => by simp [binOp, Op.intBits]⟩
  case h_8 => obtain rfl := Option.some.inj h; exact ⟨_, rfl, fun P w => by simp [binOp, Op.intBits]⟩
  case h_9 => obtain rfl := Option.some.inj h; exact ⟨_, rfl, fun P w => by simp [binOp, Op.intBits]⟩
  case h_10 => obtain rfl := Option.some.inj h; exact ⟨k.wrap (a + b), by rw [hi]; simp [IE.ev, hx, hy, op2], fun P w => by simp [binOp, Op.intArith]⟩
  case h_11 => obtain rfl := Option.some.inj h; exact ⟨k.wrap (a - b), by rw [hi]; simp [IE.ev, hx, hy, op2], fun P w => by simp [binOp, Op.intArith]⟩
  case h_12 => obtain rfl := Option.some.inj h; exact ⟨k.wrap (a * b), by rw [hi]; simp [IE.ev, hx, hy, op2], fun P w => by simp [binOp, Op.intArith]⟩
  case h_13 b _ =>
    cases e : (b == 0) <;> rw [e] at h
    · obtain rfl := Option.some.inj h; exact ⟨k.wrap (a.tdiv b), by rw [hi]; simp [IE.ev, hx, op2], fun P w => by simp at e; simp [binOp, Op.intDiv, e]⟩
    · cases h
  case h_14 b _ =>
    cases e : (b == 0) <;> rw [e] at h
    · obtain rfl := Option.some.inj h; exact ⟨a.tmod b, by rw [hi]; simp [IE.ev, hx, op2], fun P w => by simp at e; simp [binOp, Op.intDiv, e]⟩
    · cases h

theorem shiftE_ok {op : BinOp} {k j : IntKind} {x y r : IE} {a b : Int} (h : shiftE op k x y = some r) (hx : x.ev ρ = some a) (hy : y.ev ρ = some b) (t : TypeId) :
    ∃ n, r.ev ρ = some n ∧ ∀ P, Gives P (binOp op t (.int k a) (.int j b)) (.int k n) := by
  unfold shiftE at h
  split at h
  case h_1 a b =>
    simp only [IE.ev, Option.some.injEq] at hx hy; subst hx; subst hy
    cases e : decide (b < 0) <;> rw [e] at h
    · obtain rfl := Option.some.inj h; exact ⟨_, rfl, fun P w => by simp at e; simp [binOp, Op.shift, show ¬ b < 0 by omega]⟩
    · cases h
  case h_2 a b =>
    simp only [IE.ev, Option.some.injEq] at hx hy; subst hx; subst hy
    cases e : decide (b < 0) <;> rw [e] at h
    · obtain rfl := Option.some.inj h; exact ⟨_, rfl, fun P w => by simp at e; simp [binOp, Op.shift, show ¬ b < 0 by omega]⟩
    · cases h
  case h_3 => cases h

theorem cmpE_ok (hh : Hints C ρ) {op : BinOp} {k : IntKind} {x y : IE} {r : BE} {a b : Int} (h : cmpE C op x y = some r) (hx : x.ev ρ = some a) (hy : y.ev ρ = some b) (t : TypeId) :
    ∃ c, r.ev ρ = some c ∧ (∀ P, Gives P (binOp op t (.int k a) (.int k b)) (.bool c)) ∧ (op = .eql → c = (a == b)) := by
  have hb := hint_b hh
  unfold cmpE at h
  split at h
  all_goals try contradiction
  all_goals try (simp only [IE.ev, Option.some.injEq] at hx hy)
  all_goals try subst hx
  all_goals try subst hy
  case h_1 => obtain rfl := Option.some.inj h; exact ⟨_, rfl, fun P w => by simp [binOp, Op.intCmp], fun _ => rfl⟩
  case h_2 => obtain rfl := Option.some.inj h; exact ⟨_, rfl, fun P w => by simp [binOp, Op.intCmp], fun e => by cases e⟩
  case h_3 => obtain rfl := Option.some.inj h; exact ⟨_, rfl, fun P w => by simp [binOp, Op.intCmp], fun e => by cases e⟩
  case h_4 => obtain rfl := Option.some.inj h; exact ⟨_, rfl, fun P w => by simp [binOp, Op.intCmp], fun e => by cases e⟩
  case h_5 => obtain rfl := Option.some.inj h; exact ⟨_, rfl, fun P w => by simp [binOp, Op.intCmp], fun e => by cases e⟩
  case h_6 => obtain rfl := Option.some.inj h; exact ⟨_, rfl, fun P w => by simp [binOp, Op.intCmp], fun e => by cases e⟩
  case h_7 =>
    by_cases e : x = y
    · rw [decide_eq_true e] at h; obtain rfl := Option.some.inj h
      have : a = b := by rw [e, hy] at hx; exact (Option.some.inj hx).symm
      exact ⟨_, rfl, fun P w => by simp [binOp, Op.intCmp, this], fun _ => by simp [this]⟩
    · rw [decide_eq_false e] at h; obtain rfl := Option.some.inj h
      exact ⟨a == b, by rw [hb]; simp [BE.ev, hx, hy, op2b], fun P w => by simp [binOp, Op.intCmp], fun _ => rfl⟩
  case h_8 =>
    by_cases e : x = y
    · rw [decide_eq_true e] at h; obtain rfl := Option.some.inj h
      have : a = b := by rw [e, hy] at hx; exact (Option.some.inj hx).symm
      exact ⟨_, rfl, fun P w => by simp [binOp, Op.intCmp, this], fun e => by cases e⟩
    · rw [decide_eq_false e] at h; obtain rfl := Option.some.inj h
      exact ⟨a != b, by rw [hb]; simp [BE.ev, hx, hy, op2b, bne], fun P w => by simp [binOp, Op.intCmp], fun e => by cases e⟩
  case h_9 => obtain rfl := Option.some.inj h; exact ⟨decide (a < b), by rw [hb]; simp [BE.ev, hx, hy, op2b], fun P w => by simp [binOp, Op.intCmp], fun e => by cases e⟩
  case h_10 => obtain rfl := Option.some.inj h; exact ⟨decide (a ≤ b), by rw [hb]; simp [BE.ev, hx, hy, op2b], fun P w => by simp [binOp, Op.intCmp], fun e => by cases e⟩
  case h_11 => obtain rfl := Option.some.inj h; exact ⟨decide (b < a), by rw [hb]; simp [BE.ev, hx, hy, op2b], fun P w => by simp [binOp, Op.intCmp], fun e => by cases e⟩
  case h_12 => obtain rfl := Option.some.inj h; exact ⟨decide (b ≤ a), by rw [hb]; simp [BE.ev, hx, hy, op2b], fun P w => by simp [binOp, Op.intCmp], fun e => by cases e⟩

theorem notB_ok {e : BE} {b : Bool} (h : e.ev ρ = some b) : (notB e).ev ρ = some (!b) := by
  unfold notB
  split
  · simp only [BE.ev, Option.some.injEq] at h ⊢; rw [h]
  · rename_i e
    simp only [BE.ev] at h
    cases e' : e.ev ρ with
    | none => rw [e'] at h; cases h
    | some c => rw [e'] at h; simp at h; simp [← h]
  · simp [BE.ev, h]
end
end Go.Sx
