/- Numbers, texts, constants: what the runner reckons is what the operations give. -/
import Derived.Test.YtacbfdokeiechaaGreatDoorSxHeap
import GoSem.Dispatch
namespace Go.Sx
open Go

structure Hints (C : Cx) (ρ : Env) : Prop where
  i : ∀ x ∈ C.hintI, x.1.ev ρ = x.2.ev ρ
  b : ∀ x ∈ C.hintB, x.1.ev ρ = some x.2
  s : ∀ x ∈ C.hintS, x.1.ev ρ = x.2.ev ρ
  r : ∀ x ∈ C.rng, ∃ n, x.1.ev ρ = some n ∧ x.2.1 ≤ n ∧ n ≤ x.2.2

section
variable {C : Cx} {ρ : Env} {σ : Sg}

theorem find_i (e : IE) : ∀ (l : List (IE × IE)), (∀ x ∈ l, x.1.ev ρ = x.2.ev ρ) → (e.find l).ev ρ = e.ev ρ
  | [], _ => rfl
  | (x, n) :: r, h => by
    unfold IE.find
    by_cases c : x = e
    · rw [decide_eq_true c]; have := h (x, n) (by simp); simp only [cond_true]; rw [← c, this]
    · rw [decide_eq_false c]; exact find_i e r fun y hy => h y (by simp [hy])
theorem find_s (e : SE) : ∀ (l : List (SE × SE)), (∀ x ∈ l, x.1.ev ρ = x.2.ev ρ) → (e.find l).ev ρ = e.ev ρ
  | [], _ => rfl
  | (x, n) :: r, h => by
    unfold SE.find
    by_cases c : x = e
    · rw [decide_eq_true c]; have := h (x, n) (by simp); simp only [cond_true]; rw [← c, this]
    · rw [decide_eq_false c]; exact find_s e r fun y hy => h y (by simp [hy])
theorem find_b (e : BE) : ∀ (l : List (BE × Bool)), (∀ x ∈ l, x.1.ev ρ = some x.2) → (e.find l).ev ρ = e.ev ρ
  | [], _ => rfl
  | (x, n) :: r, h => by
    unfold BE.find
    by_cases c : x = e
    · rw [decide_eq_true c]; have := h (x, n) (by simp); simp only [cond_true, BE.ev]; rw [← c, this]
    · rw [decide_eq_false c]; exact find_b e r fun y hy => h y (by simp [hy])
def RngOk (ρ : Env) (R : List (IE × Int × Int)) : Prop := ∀ x ∈ R, ∃ n, x.1.ev ρ = some n ∧ x.2.1 ≤ n ∧ n ≤ x.2.2
theorem rngOf_ok {e : IE} {l h : Int} : ∀ {R : List (IE × Int × Int)}, RngOk ρ R → rngOf e R = some (l, h) → ∀ n, e.ev ρ = some n → l ≤ n ∧ n ≤ h
  | [], _, g => by cases g
  | (x, r) :: R, H, g => by
    unfold rngOf at g
    by_cases c : x = e
    · rw [decide_eq_true c] at g; simp only [cond_true, Option.some.injEq] at g; subst g
      obtain ⟨n, h1, h2, h3⟩ := H (x, (l, h)) (by simp)
      intro m hm
      simp only at h1; rw [c, hm] at h1; obtain rfl := Option.some.inj h1
      exact ⟨h2, h3⟩
    · rw [decide_eq_false c] at g; exact rngOf_ok (fun y hy => H y (by simp [hy])) g
theorem iv_ok {R : List (IE × Int × Int)} (H : RngOk ρ R) : ∀ (e : IE) {l h : Int}, e.iv R = some (l, h) → ∀ n, e.ev ρ = some n → l ≤ n ∧ n ≤ h
  | .lit m, l, h, g, n, hn => by simp only [IE.iv, Option.some.injEq, Prod.mk.injEq] at g; simp only [IE.ev, Option.some.injEq] at hn; omega
  | .add a b, l, h, g, n, hn => by
    simp only [IE.iv] at g
    split at g
    · rename_i r hr; simp only [Option.some.injEq] at g; subst g; exact rngOf_ok H hr n hn
    · rename_i l1 h1 l2 h2 _ ha hb
      simp only [Option.some.injEq, Prod.mk.injEq] at g; obtain ⟨rfl, rfl⟩ := g
      simp only [IE.ev] at hn
      cases ea : a.ev ρ <;> cases eb : b.ev ρ <;> rw [ea, eb] at hn <;> simp only [op2, Option.some.injEq, reduceCtorEq] at hn
      have := iv_ok H a ha _ ea; have := iv_ok H b hb _ eb; omega
    · cases g
  | .sub a b, l, h, g, n, hn => by
    simp only [IE.iv] at g
    split at g
    · rename_i r hr; simp only [Option.some.injEq] at g; subst g; exact rngOf_ok H hr n hn
    · rename_i l1 h1 l2 h2 _ ha hb
      simp only [Option.some.injEq, Prod.mk.injEq] at g; obtain ⟨rfl, rfl⟩ := g
      simp only [IE.ev] at hn
      cases ea : a.ev ρ <;> cases eb : b.ev ρ <;> rw [ea, eb] at hn <;> simp only [op2, Option.some.injEq, reduceCtorEq] at hn
      have := iv_ok H a ha _ ea; have := iv_ok H b hb _ eb; omega
    · cases g
  | .at s k, l, h, g, n, hn => by
    simp only [IE.iv] at g
    split at g
    · rename_i r hr; simp only [Option.some.injEq] at g; subst g; exact rngOf_ok H hr n hn
    · simp only [Option.some.injEq, Prod.mk.injEq] at g; obtain ⟨rfl, rfl⟩ := g
      simp only [IE.ev] at hn
      split at hn
      · split at hn
        · simp only [Option.map_eq_some_iff] at hn
          obtain ⟨b, _, rfl⟩ := hn
          have := b.toNat_lt; omega
        · cases hn
      · cases hn
  | .var _, _, _, g, n, hn => rngOf_ok H g n hn
  | .mul _ _, _, _, g, n, hn => rngOf_ok H g n hn
  | .tdiv _ _, _, _, g, n, hn => rngOf_ok H g n hn
  | .tmod _ _, _, _, g, n, hn => rngOf_ok H g n hn
  | .wrap _ _, _, _, g, n, hn => rngOf_ok H g n hn
  | .imin _ _, _, _, g, n, hn => rngOf_ok H g n hn
  | .imax _ _, _, _, g, n, hn => rngOf_ok H g n hn
  | .len _, _, _, g, n, hn => rngOf_ok H g n hn
theorem wrap_in {k : IntKind} {n : Int} (h1 : kLo k ≤ n) (h2 : n ≤ kHi k) : k.wrap n = n := by
  cases k <;> simp only [kLo, kHi] at h1 h2 <;> simp [IntKind.wrap, IntKind.bits, IntKind.signed] <;> omega
theorem bare_ok {R : List (IE × Int × Int)} (H : RngOk ρ R) (e : IE) : (e.bare R).ev ρ = e.ev ρ := by
  unfold IE.bare
  split
  · rename_i k a
    split
    · rename_i l h hiv
      cases c : decide (kLo k ≤ l) && decide (h ≤ kHi k) with
      | false => rfl
      | true =>
        simp only [Bool.and_eq_true, decide_eq_true_eq] at c
        simp only [cond_true, IE.ev]
        cases ea : a.ev ρ with
        | none => rfl
        | some n =>
          have := iv_ok H a hiv n ea
          simp only [Option.map_some]; rw [wrap_in (by omega) (by omega)]
    · rfl
  · rfl
theorem byIv_ok {R : List (IE × Int × Int)} (H : RngOk ρ R) {e : BE} {c : Bool} (he : e.ev ρ = some c) : (e.byIv R).ev ρ = some c := by
  have two : ∀ {f : Int → Int → Bool} {a b : IE}, op2b f (a.ev ρ) (b.ev ρ) = some c → ∃ x y, a.ev ρ = some x ∧ b.ev ρ = some y ∧ f x y = c := by
    intro f a b h
    cases ea : a.ev ρ <;> cases eb : b.ev ρ <;> rw [ea, eb] at h <;> simp only [op2b, Option.some.injEq, reduceCtorEq] at h
    exact ⟨_, _, rfl, rfl, h⟩
  unfold BE.byIv
  split
  · rename_i a b
    split
    · rename_i l h l' h' ha hb
      obtain ⟨x, y, ex, ey, hc⟩ := two he
      have h1 := iv_ok H a ha x ex; have h2 := iv_ok H b hb y ey
      cases c1 : decide (h < l') with
      | true => simp only [decide_eq_true_eq] at c1; simp only [cond_true, BE.ev]; rw [← hc]; simp; omega
      | false =>
        cases c2 : decide (h' ≤ l) with
        | true => simp only [decide_eq_true_eq] at c2; simp only [cond_true, cond_false, BE.ev]; rw [← hc]; simp; omega
        | false => exact he
    · exact he
  · rename_i a b
    split
    · rename_i l h l' h' ha hb
      obtain ⟨x, y, ex, ey, hc⟩ := two he
      have h1 := iv_ok H a ha x ex; have h2 := iv_ok H b hb y ey
      cases c1 : decide (h ≤ l') with
      | true => simp only [decide_eq_true_eq] at c1; simp only [cond_true, BE.ev]; rw [← hc]; simp; omega
      | false =>
        cases c2 : decide (h' < l) with
        | true => simp only [decide_eq_true_eq] at c2; simp only [cond_true, cond_false, BE.ev]; rw [← hc]; simp; omega
        | false => exact he
    · exact he
  · rename_i a b
    split
    · rename_i l h l' h' ha hb
      obtain ⟨x, y, ex, ey, hc⟩ := two he
      have h1 := iv_ok H a ha x ex; have h2 := iv_ok H b hb y ey
      cases c1 : decide (h < l') || decide (h' < l) with
      | true => simp only [Bool.or_eq_true, decide_eq_true_eq] at c1; simp only [cond_true, BE.ev]; rw [← hc]; simp; omega
      | false => exact he
    · exact he
  · exact he
theorem hint_i (hh : Hints C ρ) (e : IE) : (C.i e).ev ρ = e.ev ρ := by
  unfold Cx.i; split
  · rfl
  · rw [find_i _ _ hh.i, bare_ok hh.r, find_i _ _ hh.i]
theorem hint_b (hh : Hints C ρ) {e : BE} {c : Bool} (he : e.ev ρ = some c) : (C.b e).ev ρ = some c := by
  unfold Cx.b; split
  · exact he
  · rw [find_b _ _ hh.b]; exact byIv_ok hh.r he
theorem hint_s (hh : Hints C ρ) (e : SE) : (C.s e).ev ρ = e.ev ρ := by
  unfold Cx.s; split
  · rfl
  · exact find_s _ _ hh.s

/-- What an operation gives: a value, the world as it was. -/
def Gives (P : Program) (s : Sem Value) (V : Value) : Prop := ∀ w, s.run P w = .ok V w
theorem gives_pure (P : Program) (V : Value) : Gives P (pure V) V := fun _ => rfl

theorem arith_ok (hh : Hints C ρ) {op : BinOp} {k : IntKind} {x y r : IE} {a b : Int} (h : arith C op k x y = some r) (hx : x.ev ρ = some a) (hy : y.ev ρ = some b)
    (hop : op ≠ .eql ∧ op ≠ .neq ∧ op ≠ .lss ∧ op ≠ .leq ∧ op ≠ .gtr ∧ op ≠ .geq ∧ op ≠ .shl ∧ op ≠ .shr) (t : TypeId) :
    ∃ n, r.ev ρ = some n ∧ ∀ P, Gives P (binOp op t (.int k a) (.int k b)) (.int k n) := by
  have hi := hint_i hh
  unfold arith at h
  split at h
  all_goals try contradiction
  all_goals try (simp only [IE.ev, Option.some.injEq] at hx hy)
  all_goals try subst hx
  all_goals try subst hy
  case h_1 => obtain rfl := Option.some.inj h; exact ⟨_, rfl, fun P w => by simp [binOp, Op.intArith]⟩
  case h_2 => obtain rfl := Option.some.inj h; exact ⟨_, rfl, fun P w => by simp [binOp, Op.intArith]⟩
  case h_3 => obtain rfl := Option.some.inj h; exact ⟨_, rfl, fun P w => by simp [binOp, Op.intArith]⟩
  case h_4 a b =>
    cases e : (b == 0) <;> rw [e] at h
    · obtain rfl := Option.some.inj h; exact ⟨_, rfl, fun P w => by simp at e; simp [binOp, Op.intDiv, e]⟩
    · cases h
  case h_5 a b =>
    cases e : (b == 0) <;> rw [e] at h
    · obtain rfl := Option.some.inj h; exact ⟨_, rfl, fun P w => by simp at e; simp [binOp, Op.intDiv, e]⟩
    · cases h
  case h_6 => obtain rfl := Option.some.inj h; exact ⟨_, rfl, fun P w => by simp [binOp, Op.intBits]⟩
  case h_7 => obtain rfl := Option.some.inj h; exact ⟨_, rfl, fun P w => by simp [binOp, Op.intBits]⟩
  case h_8 => obtain rfl := Option.some.inj h; exact ⟨_, rfl, fun P w => by simp [binOp, Op.intBits]⟩
  case h_9 => obtain rfl := Option.some.inj h; exact ⟨_, rfl, fun P w => by simp [binOp, Op.intBits]⟩
  case h_10 => obtain rfl := Option.some.inj h; exact ⟨k.wrap (a + b), by rw [hi]; simp [IE.ev, hx, hy, op2], fun P w => by simp [binOp, Op.intArith]⟩
  case h_11 => obtain rfl := Option.some.inj h; exact ⟨k.wrap (a - b), by rw [hi]; simp [IE.ev, hx, hy, op2], fun P w => by simp [binOp, Op.intArith]⟩
  case h_12 => obtain rfl := Option.some.inj h; exact ⟨k.wrap (a * b), by rw [hi]; simp [IE.ev, hx, hy, op2], fun P w => by simp [binOp, Op.intArith]⟩
  case h_13 b _ =>
    cases e : (b == 0) <;> rw [e] at h
    · obtain rfl := Option.some.inj h; exact ⟨k.wrap (a.tdiv b), by rw [hi]; simp [IE.ev, hx, op2], fun P w => by simp at e; simp [binOp, Op.intDiv, e]⟩
    · cases h
  case h_14 b _ =>
    cases e : (b == 0) <;> rw [e] at h
    · obtain rfl := Option.some.inj h; exact ⟨a.tmod b, by rw [hi]; simp [IE.ev, hx, op2], fun P w => by simp at e; simp [binOp, Op.intDiv, e]⟩
    · cases h

theorem shiftE_ok {op : BinOp} {k j : IntKind} {x y r : IE} {a b : Int} (h : shiftE op k x y = some r) (hx : x.ev ρ = some a) (hy : y.ev ρ = some b) (t : TypeId) :
    ∃ n, r.ev ρ = some n ∧ ∀ P, Gives P (binOp op t (.int k a) (.int j b)) (.int k n) := by
  unfold shiftE at h
  split at h
  case h_1 a b =>
    simp only [IE.ev, Option.some.injEq] at hx hy; subst hx; subst hy
    cases e : decide (b < 0) <;> rw [e] at h
    · obtain rfl := Option.some.inj h; exact ⟨_, rfl, fun P w => by simp at e; simp [binOp, Op.shift, show ¬ b < 0 by omega]⟩
    · cases h
  case h_2 a b =>
    simp only [IE.ev, Option.some.injEq] at hx hy; subst hx; subst hy
    cases e : decide (b < 0) <;> rw [e] at h
    · obtain rfl := Option.some.inj h; exact ⟨_, rfl, fun P w => by simp at e; simp [binOp, Op.shift, show ¬ b < 0 by omega]⟩
    · cases h
  case h_3 => cases h

theorem cmpE_ok (hh : Hints C ρ) {op : BinOp} {k : IntKind} {x y : IE} {r : BE} {a b : Int} (h : cmpE C op x y = some r) (hx : x.ev ρ = some a) (hy : y.ev ρ = some b) (t : TypeId) :
    ∃ c, r.ev ρ = some c ∧ (∀ P, Gives P (binOp op t (.int k a) (.int k b)) (.bool c)) ∧ (op = .eql → c = (a == b)) := by
  unfold cmpE at h
  split at h
  all_goals try contradiction
  all_goals try (simp only [IE.ev, Option.some.injEq] at hx hy)
  all_goals try subst hx
  all_goals try subst hy
  case h_1 => obtain rfl := Option.some.inj h; exact ⟨_, rfl, fun P w => by simp [binOp, Op.intCmp], fun _ => rfl⟩
  case h_2 => obtain rfl := Option.some.inj h; exact ⟨_, rfl, fun P w => by simp [binOp, Op.intCmp], fun e => by cases e⟩
  case h_3 => obtain rfl := Option.some.inj h; exact ⟨_, rfl, fun P w => by simp [binOp, Op.intCmp], fun e => by cases e⟩
  case h_4 => obtain rfl := Option.some.inj h; exact ⟨_, rfl, fun P w => by simp [binOp, Op.intCmp], fun e => by cases e⟩
  case h_5 => obtain rfl := Option.some.inj h; exact ⟨_, rfl, fun P w => by simp [binOp, Op.intCmp], fun e => by cases e⟩
  case h_6 => obtain rfl := Option.some.inj h; exact ⟨_, rfl, fun P w => by simp [binOp, Op.intCmp], fun e => by cases e⟩
  case h_7 =>
    by_cases e : x = y
    · rw [decide_eq_true e] at h; obtain rfl := Option.some.inj h
      have : a = b := by rw [e, hy] at hx; exact (Option.some.inj hx).symm
      exact ⟨_, rfl, fun P w => by simp [binOp, Op.intCmp, this], fun _ => by simp [this]⟩
    · rw [decide_eq_false e] at h; obtain rfl := Option.some.inj h
      exact ⟨a == b, hint_b hh (by simp [BE.ev, hx, hy, op2b]), fun P w => by simp [binOp, Op.intCmp], fun _ => rfl⟩
  case h_8 =>
    by_cases e : x = y
    · rw [decide_eq_true e] at h; obtain rfl := Option.some.inj h
      have : a = b := by rw [e, hy] at hx; exact (Option.some.inj hx).symm
      exact ⟨_, rfl, fun P w => by simp [binOp, Op.intCmp, this], fun e => by cases e⟩
    · rw [decide_eq_false e] at h; obtain rfl := Option.some.inj h
      exact ⟨a != b, hint_b hh (by simp [BE.ev, hx, hy, op2b, bne]), fun P w => by simp [binOp, Op.intCmp], fun e => by cases e⟩
  case h_9 => obtain rfl := Option.some.inj h; exact ⟨decide (a < b), hint_b hh (by simp [BE.ev, hx, hy, op2b]), fun P w => by simp [binOp, Op.intCmp], fun e => by cases e⟩
  case h_10 => obtain rfl := Option.some.inj h; exact ⟨decide (a ≤ b), hint_b hh (by simp [BE.ev, hx, hy, op2b]), fun P w => by simp [binOp, Op.intCmp], fun e => by cases e⟩
  case h_11 => obtain rfl := Option.some.inj h; exact ⟨decide (b < a), hint_b hh (by simp [BE.ev, hx, hy, op2b]), fun P w => by simp [binOp, Op.intCmp], fun e => by cases e⟩
  case h_12 => obtain rfl := Option.some.inj h; exact ⟨decide (b ≤ a), hint_b hh (by simp [BE.ev, hx, hy, op2b]), fun P w => by simp [binOp, Op.intCmp], fun e => by cases e⟩

theorem notB_ok {e : BE} {b : Bool} (h : e.ev ρ = some b) : (notB e).ev ρ = some (!b) := by
  unfold notB
  split
  · simp only [BE.ev, Option.some.injEq] at h ⊢; rw [h]
  · rename_i e
    simp only [BE.ev] at h
    cases e' : e.ev ρ with
    | none => rw [e'] at h; cases h
    | some c => rw [e'] at h; simp at h; simp [← h]
  · simp [BE.ev, h]
end
end Go.Sx
