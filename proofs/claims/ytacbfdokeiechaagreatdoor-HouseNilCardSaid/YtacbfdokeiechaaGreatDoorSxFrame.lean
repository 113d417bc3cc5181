/- What an operation looks at; which operations leave the memory alone; values that are the same. -/
import Derived.Test.YtacbfdokeiechaaGreatDoorSxOpL
namespace Go.Sx
open Go

section
variable {C : Cx} {h : SH} {t t' : Tr SV}

theorem evS_congr {ng : Nat} : ∀ {l : List Operand}, (∀ i ∈ tmpsOf l, t.get i = t'.get i) → ∀ x ∈ l, evS ng t x = evS ng t' x
  | [], _, x, hx => by simp at hx
  | y :: l, H, x, hx => by
    rcases List.mem_cons.1 hx with rfl | hx
    · cases x <;> first | rfl | (simp only [evS]; rw [H _ (by simp [tmpsOf])])
    · exact evS_congr (l := l) (fun i hi => H i (by cases y <;> simp [tmpsOf, hi])) x hx
theorem evAll_congr {ng : Nat} : ∀ {l : List Operand}, (∀ x ∈ l, evS ng t x = evS ng t' x) → evAll ng t l = evAll ng t' l
  | [], _ => rfl
  | x :: l, H => by simp only [evAll]; rw [H x (by simp), evAll_congr (l := l) (fun y hy => H y (by simp [hy]))]
theorem evParts_congr {ng : Nat} : ∀ {l : List (Nat × Operand)}, (∀ x ∈ l.map (·.2), evS ng t x = evS ng t' x) → evParts ng t l = evParts ng t' l
  | [], _ => rfl
  | (i, x) :: l, H => by simp only [evParts]; rw [H x (by simp), evParts_congr (l := l) (fun y hy => H y (by simp only [List.map_cons, List.mem_cons]; exact .inr hy))]
theorem evOpt_congr {ng : Nat} {o : Option Operand} (H : ∀ x ∈ o.toList, evS ng t x = evS ng t' x) : evOpt ng t o = evOpt ng t' o := by
  cases o with
  | none => rfl
  | some x => simp only [evOpt]; rw [H x (by simp)]

theorem op_congr {o : Op} (H0 : ∀ i ∈ tmpsOf o.operands.toList, t.get i = t'.get i) : op C t h o = op C t' h o := by
  have H := evS_congr (ng := C.ng) H0
  clear H0
  cases o <;> simp only [Op.operands] at H <;> simp only [op]
  case makeFunc fn a b =>
    rw [evAll_congr (t := t) (t' := t') (l := a.toList) (fun x hx => H x (by simp at hx ⊢; exact .inl hx)), evAll_congr (t := t) (t' := t') (l := b.toList) (fun x hx => H x (by simp at hx ⊢; exact .inr hx))]
  case build ty ps => rw [evParts_congr (t := t) (t' := t') (l := ps.toList) (fun x hx => H x (by simpa using hx))]
  case buildSlice ty n ps => rw [evParts_congr (t := t) (t' := t') (l := ps.toList) (fun x hx => H x (by simpa using hx))]
  case call c =>
    simp only [callArgs]
    rw [evAll_congr (t := t) (t' := t') (l := c.args.toList) (fun x hx => H x (by simp only [Call.operands, Array.toList_append, List.mem_append]; exact .inr hx))]
    cases hc : c.callee with
    | builtin b => rfl
    | value x => simp only; rw [H x (by simp [Call.operands, hc])]
    | invoke x n => simp only; rw [H x (by simp [Call.operands, hc])]
  case defer c =>
    simp only [deferS]
    rw [evAll_congr (t := t) (t' := t') (l := c.args.toList) (fun x hx => H x (by simp only [Call.operands, Array.toList_append, List.mem_append]; exact .inr hx))]
    cases hc : c.callee with
    | builtin b => rfl
    | value x => simp only; rw [H x (by simp [Call.operands, hc])]
    | invoke x n => rfl
  case slice ty x lo hi mx =>
    cases mx with
    | some _ => rfl
    | none =>
      simp only
      rw [H x (by simp), evOpt_congr (t := t) (t' := t') (o := lo) (fun y hy => H y (by simp at hy ⊢; exact .inr (.inl hy))), evOpt_congr (t := t) (t' := t') (o := hi) (fun y hy => H y (by simp at hy ⊢; exact .inr (.inr hy)))]
  case next x s => cases s <;> first | rfl | (simp only; rw [H x (by simp)])
  case makeMap ty r => cases r <;> rfl
  all_goals first
    | rfl
    | (rename_i x; rw [H x (by simp)]; done)
    | (rename_i x _; rw [H x (by simp)]; done)
    | (rename_i x y; rw [H x (by simp), H y (by simp)]; done)
    | (rename_i x y _; rw [H x (by simp), H y (by simp)]; done)
    | (rename_i x y z; rw [H x (by simp), H y (by simp), H z (by simp)]; done)
    | skip

theorem bif_some {α : Type} {c : Bool} {x : Option α} {y : α} (h : (bif c then x else none) = some y) : x = some y := by
  cases c
  · cases h
  · exact h
theorem bif_none {α : Type} {c : Bool} {x : Option α} {y : α} (h : (bif c then none else x) = some y) : x = some y := by
  cases c
  · exact h
  · cases h
theorem map_val {α : Type} {x : Option α} {f : α → SV} {R : Res} (e : (x.map fun v => Res.val (f v) h) = some R) : ∃ v, R = .val v h := by
  cases x with
  | none => cases e
  | some v => simp at e; exact ⟨_, e.symm⟩
theorem some_val {v : SV} {R : Res} (e : some (Res.val v h) = some R) : ∃ v, R = .val v h := ⟨v, (Option.some.inj e).symm⟩

theorem conv_same {s d : TypeId} {v z : SV} {h' : SH} (hc : changer C.P (.convert s d (.tmp 0)) = false) (e : convS C h h.next s d v = some (z, h')) : h' = h := by
  have hc' : ∀ e, C.P.underlying d ≠ some (.slice e) := by
    intro e he
    simp only [changer, he] at hc
    cases hc
  unfold convS at e
  split at e
  · simp at e; exact e.2.symm
  · simp at e; exact e.2.symm
  · rename_i hd; exact absurd hd (hc' _)
  · have := bif_some e; simp at this; exact this.2.symm
  · have := bif_some e
    simp only [Option.map_eq_some_iff, Prod.mk.injEq] at this
    obtain ⟨_, _, _, hh⟩ := this
    exact hh.symm
  · split at e
    · have := bif_some e; simp at this; exact this.2.symm
    · cases e
  · split at e
    · have := bif_some e; simp at this; exact this.2.symm
    · cases e
  · cases e

theorem op_same {o : Op} {R : Res} (hc : changer C.P o = false) (e : op C t h o = some R) : ∃ v, R = .val v h := by
  cases o <;> simp only [changer, Bool.true_eq_false] at hc <;> simp only [op] at e
  case call c =>
    simp only [callArgs] at e
    split at e
    · cases e
    rename_i args _
    cases hcc : c.callee with
    | value x => rw [hcc] at hc; cases hc
    | invoke x n => rw [hcc] at hc; cases hc
    | builtin b =>
      rw [hcc] at e hc
      simp only at e hc
      unfold builtinS at e
      split at e <;> first | (cases hc; done) | skip
      · split at e <;> first | exact some_val e | cases e
      · split at e
        · exact some_val e
        · cases e
      · split at e
        · exact some_val e
        · cases e
      · exact map_val (f := id) e
      · exact map_val (f := id) e
      · exact some_val e
      · exact some_val e
      · exact some_val e
      · cases e
  case convert s d x =>
    split at e
    · rename_i v _
      cases hcv : convS C h h.next s d v with
      | none => rw [hcv] at e; cases e
      | some q =>
        obtain ⟨z, h'⟩ := q
        rw [hcv] at e; simp only [Option.map_some, Option.some.injEq] at e; subst e
        exact ⟨z, by rw [conv_same (by simpa only [changer] using hc) hcv]⟩
    · cases e
  case build ty ps =>
    split at e
    · split at e
      · exact map_val (bif_none e)
      · split at e
        · exact map_val e
        · cases e
      · cases e
    · cases e
  case slice ty x lo hi mx =>
    cases mx with
    | some _ => cases e
    | none =>
      simp only at e
      split at e
      · exact map_val (f := id) e
      · cases e
  all_goals first
    | (exact map_val (f := id) e)
    | (repeat' split at e)
  all_goals first
    | (cases e; done)
    | (exact map_val (f := id) e)
    | (exact some_val e)

/-- Operations that are told look at their slots alone; those that leave the memory alone do. -/
structure ToldV (C : Cx) : Prop where
  same : ∀ t h o R, C.toldV t h o = some R → changer C.P o = false → ∃ v, R = .val v h
  congr : ∀ t t' h o, (∀ i ∈ tmpsOf o.operands.toList, t.get i = t'.get i) → C.toldV t h o = C.toldV t' h o
theorem opT_congr (K : ToldV C) {o : Op} (H : ∀ i ∈ tmpsOf o.operands.toList, t.get i = t'.get i) : opT C t h o = opT C t' h o := by
  unfold opT; rw [K.congr t t' h o H, op_congr H]
theorem opT_same (K : ToldV C) {o : Op} {R : Res} (hc : changer C.P o = false) (e : opT C t h o = some R) : ∃ v, R = .val v h := by
  unfold opT at e
  split at e
  · rename_i r hr
    obtain rfl := Option.some.inj e
    exact K.same _ _ _ _ hr hc
  · exact op_same hc e

mutual
theorem svEq_ok : ∀ (a b : SV), svEq a b = true → a = b
  | .bool a, b, e => by cases b <;> simp [svEq] at e; rw [e]
  | .int _ a, b, e => by cases b <;> simp [svEq] at e; rw [e.1, e.2]
  | .str a, b, e => by cases b <;> simp [svEq] at e; rw [e]
  | .nilPtr, b, e => by cases b <;> simp [svEq] at e; rfl
  | .ptr _ _, b, e => by cases b <;> simp [svEq] at e; rw [e.1, e.2]
  | .nilSlice, b, e => by cases b <;> simp [svEq] at e; rfl
  | .slice _ _ _ _, b, e => by cases b <;> simp [svEq] at e; rw [e.1.1.1, e.1.1.2, e.1.2, e.2]
  | .nilMap, b, e => by cases b <;> simp [svEq] at e; rfl
  | .map _, b, e => by cases b <;> simp [svEq] at e; rw [e]
  | .func f x y, b, e => by
    cases b <;> simp only [svEq, Bool.false_eq_true, Bool.and_eq_true, decide_eq_true_eq] at e
    rw [e.1.1, svsEq_ok x _ e.1.2, svsEq_ok y _ e.2]
  | .nilFunc, b, e => by cases b <;> simp [svEq] at e; rfl
  | .iface t v, b, e => by
    cases b <;> simp only [svEq, Bool.false_eq_true, Bool.and_eq_true] at e
    rw [beq_true.1 e.1, svEq_ok v _ e.2]
  | .nilIface, b, e => by cases b <;> simp [svEq] at e; rfl
  | .agg x, b, e => by
    cases b <;> simp only [svEq, Bool.false_eq_true] at e
    rw [svsEq_ok x _ e]
  | .tuple x, b, e => by
    cases b <;> simp only [svEq, Bool.false_eq_true] at e
    rw [svsEq_ok x _ e]
  | .dyn _, b, e => by cases b <;> simp [svEq] at e; rw [e]
theorem svsEq_ok : ∀ (a b : List SV), svsEq a b = true → a = b
  | [], b, e => by cases b <;> simp [svsEq] at e; rfl
  | x :: a, b, e => by
    cases b with
    | nil => simp [svsEq] at e
    | cons y b =>
      simp only [svsEq, Bool.and_eq_true] at e
      rw [svEq_ok x y e.1, svsEq_ok a b e.2]
end
end
end Go.Sx
