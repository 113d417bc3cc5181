/- What a symbolic value, memory and frame stand for. -/
import Derived.Test.YtacbfdokeiechaaGreatDoorSxTr
import Derived.Laws.Sem
namespace Go.Sx
open Go

structure Env where
  i : Nat → Option Int
  s : Nat → Option ByteArray

/-- Where a block lies: its number, the cell at which the known part begins, how many cells there are from there on. -/
structure Pl where
  block : Nat
  off : Nat
  size : Nat

/-- Where the blocks lie, and the values that are told elsewhere. -/
structure Sg where
  pl : Nat → Option Pl
  v : Nat → Option Value
instance : CoeFun Sg (fun _ => Nat → Option Pl) := ⟨Sg.pl⟩
def Sg.none : Sg := ⟨fun _ => Option.none, fun _ => Option.none⟩
structure Sg.le (σ τ : Sg) : Prop where
  pl : ∀ i p, σ i = some p → τ i = some p
  v : ∀ i V, σ.v i = some V → τ.v i = some V
theorem Sg.le_refl (σ : Sg) : σ.le σ := ⟨fun _ _ h => h, fun _ _ h => h⟩
theorem Sg.le_trans {σ τ υ : Sg} (a : σ.le τ) (b : τ.le υ) : σ.le υ := ⟨fun i p h => b.pl i p (a.pl i p h), fun i p h => b.v i p (a.v i p h)⟩

def bytes (l : List Nat) : ByteArray := ⟨(l.map UInt8.ofNat).toArray⟩
def small (l : List Nat) : Prop := ∀ b ∈ l, b < 256
instance (l : List Nat) : Decidable (small l) := inferInstanceAs (Decidable (∀ b ∈ l, b < 256))

section
variable (ρ : Env)
def op2 (f : Int → Int → Int) : Option Int → Option Int → Option Int
  | some a, some b => some (f a b)
  | _, _ => none
def op2b (f : Int → Int → Bool) : Option Int → Option Int → Option Bool
  | some a, some b => some (f a b)
  | _, _ => none
def IE.ev : IE → Option Int
  | .lit n => some n
  | .var i => ρ.i i
  | .add a b => op2 (· + ·) a.ev b.ev
  | .sub a b => op2 (· - ·) a.ev b.ev
  | .mul a b => op2 (· * ·) a.ev b.ev
  | .tdiv a b => op2 Int.tdiv a.ev b.ev
  | .tmod a b => op2 Int.tmod a.ev b.ev
  | .wrap k a => a.ev.map k.wrap
  | .imin a b => op2 (fun x y => if y < x then y else x) a.ev b.ev
  | .imax a b => op2 (fun x y => if y > x then y else x) a.ev b.ev
  | .len s => (ρ.s s).map fun x => (x.size : Int)
  | .at s k => match ρ.s s, k.ev with
    | some x, some n => if 0 ≤ n then (x[n.toNat]?).map fun b => (b.toNat : Int) else none
    | _, _ => none
def SE.ev : SE → Option ByteArray
  | .lit l => if small l then some (bytes l) else none
  | .var i => ρ.s i
  | .cat a b => match a.ev, b.ev with
    | some x, some y => some (x ++ y)
    | _, _ => none
  | .sub a lo hi => match a.ev, lo.ev ρ, hi.ev ρ with
    | some x, some l, some h => if 0 ≤ l ∧ l ≤ h ∧ h ≤ x.size then some (x.extract l.toNat h.toNat) else none
    | _, _, _ => none
def opSb (f : ByteArray → ByteArray → Bool) : Option ByteArray → Option ByteArray → Option Bool
  | some a, some b => some (f a b)
  | _, _ => none
def BE.ev : BE → Option Bool
  | .lit b => some b
  | .eq a b => op2b (· == ·) (a.ev ρ) (b.ev ρ)
  | .lt a b => op2b (fun x y => decide (x < y)) (a.ev ρ) (b.ev ρ)
  | .le a b => op2b (fun x y => decide (x ≤ y)) (a.ev ρ) (b.ev ρ)
  | .not a => a.ev.map (!·)
  | .seq a b => opSb (fun x y => x.toList == y.toList) (a.ev ρ) (b.ev ρ)
  | .slt a b => opSb (fun x y => Op.bytesLess x.toList y.toList) (a.ev ρ) (b.ev ρ)
end

mutual
def VRel (σ : Sg) (ρ : Env) : SV → Value → Prop
  | .bool e, V => ∃ b, e.ev ρ = some b ∧ V = .bool b
  | .int k e, V => ∃ n, e.ev ρ = some n ∧ V = .int k n
  | .str (.lit l), V => small l ∧ V = .string (bytes l)
  | .str (.var i), V => ∃ s, ρ.s i = some s ∧ V = .string s
  | .str (.cat a b), V => ∃ s, (SE.cat a b).ev ρ = some s ∧ V = .string s
  | .str (.sub a l h), V => ∃ s, (SE.sub a l h).ev ρ = some s ∧ V = .string s
  | .nilPtr, V => V = .pointer none
  | .ptr id off, V => ∃ p, σ id = some p ∧ V = .pointer (some ⟨p.block, p.off + off, none⟩)
  | .nilSlice, V => V = .slice none 0 0
  | .slice id off len (.known c), V => ∃ p, σ id = some p ∧ V = .slice (some ⟨p.block, p.off + off, none⟩) len c
  | .slice id off len (.wide s), V => ∃ p c, σ id = some p ∧ V = .slice (some ⟨p.block, p.off + off, none⟩) len c ∧ len ≤ c ∧ off + c * s ≤ p.size
  | .nilMap, V => V = .map none
  | .map id, V => ∃ p, σ id = some p ∧ V = .map (some p.block)
  | .func fn a b, V => ∃ x y, V = .func fn x y ∧ VRels σ ρ a x.toList ∧ VRels σ ρ b y.toList
  | .nilFunc, V => V = .nilFunc
  | .iface t v, V => ∃ x, V = .iface t x ∧ VRel σ ρ v x
  | .nilIface, V => V = .nilIface
  | .agg cs, V => ∃ c, V = .agg c ∧ VRels σ ρ cs c.toList
  | .tuple cs, V => ∃ c, V = .tuple c ∧ VRels σ ρ cs c.toList
  | .dyn i, V => σ.v i = some V ∧ V.oneCell' = true
def VRels (σ : Sg) (ρ : Env) : List SV → List Value → Prop
  | [], l => l = []
  | v :: r, l => ∃ x xs, l = x :: xs ∧ VRel σ ρ v x ∧ VRels σ ρ r xs
end

section
variable {σ τ : Sg} {ρ : Env}
mutual
theorem VRel.mono (h : σ.le τ) : ∀ (v : SV) (V : Value), VRel σ ρ v V → VRel τ ρ v V
  | .bool _, _, r => by simpa only [VRel] using r
  | .int _ _, _, r => by simpa only [VRel] using r
  | .str (.lit _), _, r => by simpa only [VRel] using r
  | .str (.var _), _, r => by simpa only [VRel] using r
  | .str (.cat _ _), _, r => by simpa only [VRel] using r
  | .str (.sub _ _ _), _, r => by simpa only [VRel] using r
  | .nilPtr, _, r => by simpa only [VRel] using r
  | .ptr _ _, _, r => by simp only [VRel] at r ⊢; obtain ⟨p, hp, e⟩ := r; exact ⟨p, h.pl _ _ hp, e⟩
  | .nilSlice, _, r => by simpa only [VRel] using r
  | .slice _ _ _ (.known _), _, r => by simp only [VRel] at r ⊢; obtain ⟨p, hp, e⟩ := r; exact ⟨p, h.pl _ _ hp, e⟩
  | .slice _ _ _ (.wide _), _, r => by simp only [VRel] at r ⊢; obtain ⟨p, c, hp, e⟩ := r; exact ⟨p, c, h.pl _ _ hp, e⟩
  | .nilMap, _, r => by simpa only [VRel] using r
  | .map _, _, r => by simp only [VRel] at r ⊢; obtain ⟨p, hp, e⟩ := r; exact ⟨p, h.pl _ _ hp, e⟩
  | .func _ a b, _, r => by
    simp only [VRel] at r ⊢
    obtain ⟨x, y, e, r1, r2⟩ := r
    exact ⟨x, y, e, VRels.mono h a _ r1, VRels.mono h b _ r2⟩
  | .nilFunc, _, r => by simpa only [VRel] using r
  | .iface _ v, _, r => by simp only [VRel] at r ⊢; obtain ⟨x, e, r1⟩ := r; exact ⟨x, e, VRel.mono h v _ r1⟩
  | .nilIface, _, r => by simpa only [VRel] using r
  | .agg cs, _, r => by simp only [VRel] at r ⊢; obtain ⟨x, e, r1⟩ := r; exact ⟨x, e, VRels.mono h cs _ r1⟩
  | .tuple cs, _, r => by simp only [VRel] at r ⊢; obtain ⟨x, e, r1⟩ := r; exact ⟨x, e, VRels.mono h cs _ r1⟩
  | .dyn _, _, r => by simp only [VRel] at r ⊢; exact ⟨h.v _ _ r.1, r.2⟩
theorem VRels.mono (h : σ.le τ) : ∀ (v : List SV) (V : List Value), VRels σ ρ v V → VRels τ ρ v V
  | [], _, r => by simpa only [VRels] using r
  | v :: l, _, r => by
    simp only [VRels] at r ⊢
    obtain ⟨x, xs, e, r1, r2⟩ := r
    exact ⟨x, xs, e, VRel.mono h v _ r1, VRels.mono h l _ r2⟩
end

theorem VRels.length : ∀ {l : List SV} {L : List Value}, VRels σ ρ l L → l.length = L.length
  | [], _, r => by simp only [VRels] at r; simp [r]
  | _ :: _, _, r => by simp only [VRels] at r; obtain ⟨x, xs, rfl, _, r2⟩ := r; simp [VRels.length r2]
theorem VRels.get : ∀ {l : List SV} {L : List Value} {i : Nat} {v : SV}, VRels σ ρ l L → l[i]? = some v → ∃ V, L[i]? = some V ∧ VRel σ ρ v V
  | [], _, _, _, _, h => by simp at h
  | a :: l, _, 0, v, r, h => by
    simp only [VRels] at r
    obtain ⟨x, xs, rfl, r1, _⟩ := r
    simp at h; subst h
    exact ⟨x, rfl, r1⟩
  | a :: l, _, i + 1, v, r, h => by
    simp only [VRels] at r
    obtain ⟨x, xs, rfl, _, r2⟩ := r
    simp at h
    simpa using VRels.get r2 h
theorem VRels.of_get : ∀ {l : List SV} {L : List Value}, l.length = L.length → (∀ (i : Nat) v V, l[i]? = some v → L[i]? = some V → VRel σ ρ v V) → VRels σ ρ l L
  | [], L, h, _ => by simp only [VRels]; cases L <;> simp_all
  | a :: l, [], h, _ => by simp at h
  | a :: l, x :: L, h, f => by
    simp only [VRels]
    exact ⟨x, L, rfl, f 0 a x rfl rfl, VRels.of_get (by simpa using h) (fun i v V h1 h2 => f (i + 1) v V (by simpa using h1) (by simpa using h2))⟩
theorem VRels.append {a b : List SV} {A B : List Value} (h : VRels σ ρ a A) (g : VRels σ ρ b B) : VRels σ ρ (a ++ b) (A ++ B) := by
  induction a generalizing A with
  | nil => simp only [VRels] at h; subst h; simpa using g
  | cons v a ih =>
    simp only [VRels] at h
    obtain ⟨x, xs, rfl, r1, r2⟩ := h
    simp only [List.cons_append, VRels]
    exact ⟨x, _, rfl, r1, ih r2⟩
theorem VRels.take {a : List SV} {A : List Value} (h : VRels σ ρ a A) (n : Nat) : VRels σ ρ (a.take n) (A.take n) := by
  induction a generalizing A n with
  | nil => simp only [VRels] at h; subst h; simp [VRels]
  | cons v a ih =>
    simp only [VRels] at h
    obtain ⟨x, xs, rfl, r1, r2⟩ := h
    cases n with
    | zero => simp [VRels]
    | succ n => simp only [List.take_succ_cons, VRels]; exact ⟨x, _, rfl, r1, ih r2 n⟩
theorem VRels.drop {a : List SV} {A : List Value} (h : VRels σ ρ a A) (n : Nat) : VRels σ ρ (a.drop n) (A.drop n) := by
  induction a generalizing A n with
  | nil => simp only [VRels] at h; subst h; simp [VRels]
  | cons v a ih =>
    have h' := h
    simp only [VRels] at h
    obtain ⟨x, xs, rfl, r1, r2⟩ := h
    cases n with
    | zero => simpa using h'
    | succ n => simpa using ih r2 n
theorem VRels.nil : VRels σ ρ [] [] := by simp [VRels]
theorem VRels.one {v : SV} {V : Value} (h : VRel σ ρ v V) : VRels σ ρ [v] [V] := by simp [VRels, h]
end

def FzOk (p : Pl) (fz : Nat × Nat) : Fz → Prop
  | .clean => fz.1 = fz.2
  | .head f => fz.1 = fz.2 ∨ (fz.1 = 0 ∧ fz.2 ≤ p.off + f)
  | .tail => fz.1 = fz.2 ∨ p.off + p.size ≤ fz.1
theorem FzOk.free {p : Pl} {fz : Nat × Nat} {f : Fz} (h : FzOk p fz f) {k i : Nat} (hf : frozLe f k = true) (hk : k ≤ i) (hi : i < p.size) : ¬ (fz.1 ≤ p.off + i ∧ p.off + i < fz.2) := by
  cases f with
  | clean => have : fz.1 = fz.2 := h; omega
  | head f => have h : fz.1 = fz.2 ∨ (fz.1 = 0 ∧ fz.2 ≤ p.off + f) := h; have := ble_true.1 hf; omega
  | tail => have h : fz.1 = fz.2 ∨ p.off + p.size ≤ fz.1 := h; omega

/-- What a block holds. -/
def BRel (σ : Sg) (ρ : Env) (p : Pl) : SB → Obj → Prop
  | .cells cs n e more froz, o => ∃ c fz, o = .cells c e fz ∧ p.off + p.size = c.size ∧ n ≤ p.size ∧ (more = false → n = p.size ∧ p.off = 0) ∧
      (∀ i x, cs.get i = some x → i < n ∧ ∃ V, c[p.off + i]? = some V ∧ VRel σ ρ x V) ∧
      FzOk p fz froz ∧ p.off = 0
  | .map es, o => ∃ es' clock, o = .map es' clock ∧ VRels σ ρ (es.map (·.1)) (es'.toList.map (·.key)) ∧ VRels σ ρ (es.map (·.2)) (es'.toList.map (·.val)) ∧
      (∀ e ∈ es'.toList, e.born < clock) ∧ (es'.toList.map (·.born)).Pairwise (· < ·)
  | .siter s pos, o => o = .stringIter (bytes s) pos ∧ p.off = 0
  | .resv, _ => False

theorem BRel.mono {σ τ : Sg} {ρ : Env} {p : Pl} {sb : SB} {o : Obj} (h : σ.le τ) (r : BRel σ ρ p sb o) : BRel τ ρ p sb o := by
  cases sb with
  | cells cs n e more froz =>
    obtain ⟨c, fz, h1, h2, h3, h4, h5, h6⟩ := r
    exact ⟨c, fz, h1, h2, h3, h4, fun i x hx => ⟨(h5 i x hx).1, let ⟨V, a, b⟩ := (h5 i x hx).2; ⟨V, a, b.mono h⟩⟩, h6⟩
  | map es =>
    obtain ⟨es', clock, h1, h2, h3, h4⟩ := r
    exact ⟨es', clock, h1, VRels.mono h _ _ h2, VRels.mono h _ _ h3, h4⟩
  | siter s pos => exact r
  | resv => exact r

/-- A number of the symbolic memory: held back, or a block. -/
def HasB (σ : Sg) (ρ : Env) (next : Nat) (w : World) (id : Nat) : SB → Prop
  | .resv => σ id = none ∧ id < next
  | .cells cs n e more froz => ∃ p o, σ id = some p ∧ w.heap[p.block]? = some o ∧ BRel σ ρ p (.cells cs n e more froz) o
  | .map es => ∃ p o, σ id = some p ∧ w.heap[p.block]? = some o ∧ BRel σ ρ p (.map es) o
  | .siter s pos => ∃ p o, σ id = some p ∧ w.heap[p.block]? = some o ∧ BRel σ ρ p (.siter s pos) o
theorem HasB.of {σ : Sg} {ρ : Env} {next : Nat} {w : World} {id : Nat} {sb : SB} (h : ∃ p o, σ id = some p ∧ w.heap[p.block]? = some o ∧ BRel σ ρ p sb o) : HasB σ ρ next w id sb := by
  cases sb with
  | resv => obtain ⟨_, _, _, _, h⟩ := h; exact h.elim
  | cells => exact h
  | map => exact h
  | siter => exact h
theorem HasB.step {σ σ' : Sg} {ρ : Env} {next next' : Nat} {w w' : World} {id : Nat} {sb : SB} (h : HasB σ ρ next w id sb) (hn : next ≤ next') (hr : σ id = none → id < next → σ' id = none) (hle : σ.le σ')
    (hh : ∀ p, σ id = some p → w'.heap[p.block]? = w.heap[p.block]?) : HasB σ' ρ next' w' id sb := by
  have go : (∃ p o, σ id = some p ∧ w.heap[p.block]? = some o ∧ BRel σ ρ p sb o) → HasB σ' ρ next' w' id sb := by
    rintro ⟨p, o, h1, h2, h3⟩
    exact HasB.of ⟨p, o, hle.pl _ _ h1, by rw [hh p h1]; exact h2, h3.mono hle⟩
  cases sb with
  | resv => exact ⟨hr h.1 h.2, Nat.lt_of_lt_of_le h.2 hn⟩
  | cells => exact go h
  | map => exact go h
  | siter => exact go h

/-- What the run begins with: its world; the blocks that never turn; what the rest of the memory may be known to be (by a number), and the blocks that this speaks of. -/
structure Base where
  w : World
  fr : Nat → Prop
  lt : ∀ b, fr b → b < w.heap.size
  J : Nat → Sg → (Nat → Prop) → World → Prop
  stays : ∀ i σ τ F w1 w2, σ.le τ → J i σ F w1 → (∀ b, F b → w2.heap[b]? = w1.heap[b]?) → J i τ F w2
/-- .. with nothing to turn, and nothing known of the rest. -/
def Base.plain (W : World) : Base := { w := W, fr := fun b => b < W.heap.size, lt := fun _ h => h, J := fun _ _ _ _ => True, stays := fun _ _ _ _ _ _ _ _ _ => trivial }

/-- The memory stands as the symbolic one says. -/
structure HRel (C : Cx) (ρ : Env) (W : Base) (σ : Sg) (h : SH) (w : World) : Prop where
  blk : ∀ id sb, h.blocks.get id = some sb → HasB σ ρ h.next w id sb
  own : ∀ id sb p, h.blocks.get id = some sb → σ id = some p → C.ro ≤ id → ¬ W.fr p.block
  dom : ∀ id p, σ id = some p → id < h.next ∧ p.block < w.heap.size
  domV : ∀ id V, σ.v id = some V → id < h.next
  inj : ∀ id id' sb sb' p p', h.blocks.get id = some sb → h.blocks.get id' = some sb' → σ id = some p → σ id' = some p' → p.block = p'.block → id = id'
  ro : C.ro ≤ h.next
  ng : C.ng ≤ C.ro
  glob : ∀ g, g < C.ng → ∃ n, σ g = some ⟨g, 0, n⟩
  base : ∀ b, W.fr b → w.heap[b]? = W.w.heap[b]?
  size : W.w.heap.size ≤ w.heap.size
  tape : w.tape = W.w.tape
  os : w.os = W.w.os
  output : w.output = W.w.output
  rest : ∃ F : Nat → Prop, W.J h.inv σ F w ∧ (∀ b, F b → b < w.heap.size ∧ ¬ W.fr b) ∧ (∀ id sb p, h.blocks.get id = some sb → σ id = some p → ¬ F p.block)

end Go.Sx
