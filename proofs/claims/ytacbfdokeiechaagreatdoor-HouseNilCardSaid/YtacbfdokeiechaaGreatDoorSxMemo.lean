/- Calls that were run ahead, over the part of the memory that they reach. -/
import Derived.Test.YtacbfdokeiechaaGreatDoorSxDrawA
namespace Go.Sx
open Go

section
variable {α : Type}
/-- Is all of the first the second's? -/
def trCov (e : α → α → Bool) : Tr α → Tr α → Bool
  | .nil, _ => true
  | .node a x b, t => (match x with
    | none => true
    | some v => (match t.here with
      | some w => e v w
      | none => false)) && (trCov e a t.left && trCov e b t.right)
/-- Each number of the first is the second's, or new. -/
def trChk (next : Nat) : Tr α → Tr α → Nat → Nat → Bool
  | .nil, _, _, _ => true
  | .node l x r, t, b, s => (match x with
    | none => true
    | some _ => (match t.here with
      | some _ => true
      | none => Nat.ble next b)) && (trChk next l t.left (b + s) (2 * s) && trChk next r t.right (b + 2 * s) (2 * s))
def trMinus : Tr α → Tr α → Tr α
  | t, .nil => t
  | t, .node l x r => .node (trMinus t.left l) (match x with
    | none => t.here
    | some _ => none) (trMinus t.right r)
def trPlus : Tr α → Tr α → Tr α
  | t, .nil => t
  | t, .node l x r => .node (trPlus t.left l) (match x with
    | none => t.here
    | some v => some v) (trPlus t.right r)
def trAll (p : α → Bool) : Tr α → Bool
  | .nil => true
  | .node l x r => (match x with
    | none => true
    | some v => p v) && (trAll p l && trAll p r)

theorem get_node (l : Tr α) (x : Option α) (r : Tr α) (n : Nat) : (Tr.node l x r).get n = if n = 0 then x else if n % 2 = 1 then l.get (n / 2) else r.get (n / 2 - 1) := by
  rw [Tr.get_eq]; rfl
theorem trCov_ok {e : α → α → Bool} (he : ∀ a b, e a b = true → a = b) : ∀ (a t : Tr α), trCov e a t = true → ∀ n v, a.get n = some v → t.get n = some v
  | .nil, _, _, _, _, h => by simp at h
  | .node l x r, t, c, n, v, h => by
    simp only [trCov, Bool.and_eq_true] at c
    obtain ⟨c1, c2, c3⟩ := c
    rw [get_node] at h
    rw [Tr.get_eq t n]
    by_cases h0 : n = 0
    · rw [if_pos h0] at h ⊢
      subst h
      simp only at c1
      cases ht : t.here with
      | none => rw [ht] at c1; cases c1
      | some w => rw [ht] at c1; rw [he _ _ c1]
    · rw [if_neg h0] at h ⊢
      by_cases h1 : n % 2 = 1
      · rw [if_pos h1] at h ⊢; exact trCov_ok he l t.left c2 _ _ h
      · rw [if_neg h1] at h ⊢; exact trCov_ok he r t.right c3 _ _ h
theorem trChk_ok {next : Nat} : ∀ (a t : Tr α) (b s : Nat), trChk next a t b s = true → ∀ n v, a.get n = some v → (∃ u, t.get n = some u) ∨ next ≤ s * n + b
  | .nil, _, _, _, _, _, _, h => by simp at h
  | .node l x r, t, b, s, c, n, v, h => by
    simp only [trChk, Bool.and_eq_true] at c
    obtain ⟨c1, c2, c3⟩ := c
    rw [get_node] at h
    rw [Tr.get_eq t n]
    by_cases h0 : n = 0
    · rw [if_pos h0] at h ⊢
      subst h
      simp only at c1
      cases ht : t.here with
      | none => rw [ht] at c1; right; rw [h0, Nat.mul_zero, Nat.zero_add]; exact ble_true.1 c1
      | some w => exact .inl ⟨w, rfl⟩
    · rw [if_neg h0] at h ⊢
      by_cases h1 : n % 2 = 1
      · rw [if_pos h1] at h ⊢
        rcases trChk_ok l t.left _ _ c2 _ _ h with g | g
        · exact .inl g
        · right
          have e : n = 2 * (n / 2) + 1 := by omega
          have : s * n + b = 2 * s * (n / 2) + (b + s) := by
            rw [e, Nat.mul_add, Nat.mul_one, ← Nat.mul_assoc, Nat.mul_comm s 2, show (2 * (n / 2) + 1) / 2 = n / 2 by omega]; omega
          omega
      · rw [if_neg h1] at h ⊢
        rcases trChk_ok r t.right _ _ c3 _ _ h with g | g
        · exact .inl g
        · right
          have e : n = 2 * (n / 2 - 1) + 2 := by omega
          have : s * n + b = 2 * s * (n / 2 - 1) + (b + 2 * s) := by
            have e2 : (2 * (n / 2 - 1) + 2) / 2 - 1 = n / 2 - 1 := by omega
            rw [e, Nat.mul_add, ← Nat.mul_assoc, Nat.mul_comm s 2, e2]; omega
          omega
theorem trMinus_get : ∀ (t a : Tr α) (n : Nat), (trMinus t a).get n = if (a.get n).isSome then none else t.get n
  | t, .nil, n => by simp [trMinus]
  | t, .node l x r, n => by
    simp only [trMinus]
    rw [get_node, get_node, Tr.get_eq t n]
    by_cases h0 : n = 0
    · simp only [if_pos h0]; cases x <;> simp
    · simp only [if_neg h0]
      by_cases h1 : n % 2 = 1
      · simp only [if_pos h1]; exact trMinus_get t.left l _
      · simp only [if_neg h1]; exact trMinus_get t.right r _
theorem trPlus_get : ∀ (t a : Tr α) (n : Nat), (trPlus t a).get n = match a.get n with | some v => some v | none => t.get n
  | t, .nil, n => by simp [trPlus]
  | t, .node l x r, n => by
    simp only [trPlus]
    rw [get_node, get_node, Tr.get_eq t n]
    by_cases h0 : n = 0
    · simp only [if_pos h0]; cases x <;> simp
    · simp only [if_neg h0]
      by_cases h1 : n % 2 = 1
      · simp only [if_pos h1]; exact trPlus_get t.left l _
      · simp only [if_neg h1]; exact trPlus_get t.right r _
theorem trAll_ok {p : α → Bool} : ∀ (t : Tr α), trAll p t = true → ∀ n v, t.get n = some v → p v = true
  | .nil, _, _, _, h => by simp at h
  | .node l x r, c, n, v, h => by
    simp only [trAll, Bool.and_eq_true] at c
    obtain ⟨c1, c2, c3⟩ := c
    rw [get_node] at h
    by_cases h0 : n = 0
    · rw [if_pos h0] at h; subst h; exact c1
    · rw [if_neg h0] at h
      by_cases h1 : n % 2 = 1
      · rw [if_pos h1] at h; exact trAll_ok l c2 _ _ h
      · rw [if_neg h1] at h; exact trAll_ok r c3 _ _ h
end

def notResv : SB → Bool
  | .resv => false
  | _ => true

/-- A call that was run ahead: over 'hin', the part of the memory that it looks at; 'hout': what comes of that part. -/
structure Memo where
  g : FuncId
  args : List SV
  hin : SH
  v : SV
  hout : SH
def Memo.use (m : Memo) (g : FuncId) (args : List SV) (h : SH) : Option (SV × SH) :=
  cond (Nat.beq m.g g && (svsEq m.args args && (Nat.beq m.hin.next h.next && (trCov sbEq m.hin.blocks h.blocks && trAll notResv h.blocks))))
    (some (m.v, { h with blocks := trPlus (trMinus h.blocks m.hin.blocks) m.hout.blocks, next := m.hout.next })) none
def toldMemos : List Memo → FuncId → List SV → SH → Option (SV × SH)
  | [], _, _, _ => none
  | m :: r, g, args, h => match m.use g args h with
    | some x => some x
    | none => toldMemos r g args h
/-- What was run ahead, checked. -/
def Memo.check (C : Cx) (f : Nat) (m : Memo) : Bool :=
  match call C f m.g m.args m.hin with
  | some (v, h) => svEq m.v v && (Nat.beq m.hout.next h.next && (trCov sbEq m.hout.blocks h.blocks && trChk m.hin.next m.hout.blocks m.hin.blocks 0 1))
  | none => false

section
variable {C C' : Cx} {ρ : Env} {W : Base}

theorem HRel.sub {σ : Sg} {h a : SH} {w : World} (r : HRel C ρ W σ h w) (hc : ∀ n v, a.blocks.get n = some v → h.blocks.get n = some v) (hn : a.next = h.next) (hi : a.inv = h.inv) : HRel C ρ W σ a w := by
  refine ⟨fun id sb hg => by rw [hn]; exact r.blk id sb (hc _ _ hg), fun id sb p hg hp => r.own id sb p (hc _ _ hg) hp, fun id p hp => by rw [hn]; exact r.dom id p hp, fun id V hV => by rw [hn]; exact r.domV id V hV,
    fun i j s1 s2 p1 p2 h1 h2 => r.inj i j s1 s2 p1 p2 (hc _ _ h1) (hc _ _ h2), by rw [hn]; exact r.ro, r.ng, r.glob, r.base, r.size, r.tape, r.os, r.output, ?_⟩
  obtain ⟨F, h1, h2, h3⟩ := r.rest
  exact ⟨F, by rw [hi]; exact h1, h2, fun id sb p hg hp => h3 id sb p (hc _ _ hg) hp⟩

/-- Where nothing is known of the rest its number is free. -/
theorem HRel.setInv {σ : Sg} {h : SH} {w w0 : World} {fr : Nat → Prop} {lt : ∀ b, fr b → b < w0.heap.size} {st} (r : HRel C ρ { w := w0, fr := fr, lt := lt, J := fun _ _ _ _ => True, stays := st } σ h w) (n : Nat) :
    HRel C ρ { w := w0, fr := fr, lt := lt, J := fun _ _ _ _ => True, stays := st } σ { h with inv := n } w :=
  ⟨r.blk, r.own, r.dom, r.domV, r.inj, r.ro, r.ng, r.glob, r.base, r.size, r.tape, r.os, r.output, let ⟨F, h1, h2, h3⟩ := r.rest; ⟨F, h1, h2, h3⟩⟩
theorem HasB.place {σ : Sg} {next : Nat} {w : World} {id : Nat} {sb : SB} (h : HasB σ ρ next w id sb) (hn : notResv sb = true) : ∃ p, σ id = some p := by
  cases sb <;> first | (simp [notResv] at hn; done) | (obtain ⟨p, _, hp, _⟩ := h; exact ⟨p, hp⟩)

theorem HasB.move {σ τ : Sg} {next next' : Nat} {w w' : World} {id : Nat} {sb : SB} (h : HasB σ ρ next w id sb) (hn : notResv sb = true) (hle : σ.le τ) (hh : ∀ p, σ id = some p → w'.heap[p.block]? = w.heap[p.block]?) : HasB τ ρ next' w' id sb := by
  have go : (∃ p o, σ id = some p ∧ w.heap[p.block]? = some o ∧ BRel σ ρ p sb o) → HasB τ ρ next' w' id sb := by
    rintro ⟨p, o, h1, h2, h3⟩
    exact HasB.of ⟨p, o, hle.pl _ _ h1, by rw [hh p h1]; exact h2, h3.mono hle⟩
  cases sb <;> first | (simp [notResv] at hn; done) | exact go h

/-- What becomes of a memory of which a part was handed to a call. -/
theorem HRel.frame {σ τ : Sg} {h hin hout : SH} {w w' : World} (r : HRel C ρ W σ h w) (hcov : ∀ n v, hin.blocks.get n = some v → h.blocks.get n = some v) (hnx : hin.next = h.next) (hres : trAll notResv h.blocks = true)
    (hdom : ∀ n v, hout.blocks.get n = some v → (∃ u, hin.blocks.get n = some u) ∨ hin.next ≤ n) (hle : σ.le τ)
    (r2 : HRel C ρ { w := w, fr := fun b => b < w.heap.size ∧ ∀ id sb p, hin.blocks.get id = some sb → σ id = some p → C.ro ≤ id → p.block ≠ b, lt := fun _ h => h.1, J := fun _ _ _ _ => True, stays := fun _ _ _ _ _ _ _ _ _ => trivial } τ hout w') :
    HRel C ρ W τ { h with blocks := trPlus (trMinus h.blocks hin.blocks) hout.blocks, next := hout.next } w' := by
  have hnr := trAll_ok h.blocks hres
  have split : ∀ id sb, (trPlus (trMinus h.blocks hin.blocks) hout.blocks).get id = some sb → hout.blocks.get id = some sb ∨ (hin.blocks.get id = none ∧ h.blocks.get id = some sb) := by
    intro id sb hg
    rw [trPlus_get] at hg
    cases ho : hout.blocks.get id with
    | some x => rw [ho] at hg; exact .inl hg
    | none =>
      rw [ho] at hg; simp only at hg
      rw [trMinus_get] at hg
      cases hi : hin.blocks.get id with
      | some x => rw [hi] at hg; simp at hg
      | none => rw [hi] at hg; exact .inr ⟨rfl, by simpa using hg⟩
  -- a block outside of the part
  have away : ∀ id sb p, hin.blocks.get id = none → h.blocks.get id = some sb → σ id = some p → p.block < w.heap.size ∧ ∀ id2 sb2 p2, hin.blocks.get id2 = some sb2 → σ id2 = some p2 → C.ro ≤ id2 → p2.block ≠ p.block := by
    intro id sb p hn hg hp
    refine ⟨(r.dom id p hp).2, fun id2 sb2 p2 h2 hp2 _ e => ?_⟩
    have := r.inj id2 id sb2 sb p2 p (hcov _ _ h2) hg hp2 hp e
    subst this
    rw [hn] at h2; cases h2
  have old : ∀ id sb, h.blocks.get id = some sb → ∃ p, σ id = some p := fun id sb hg => (r.blk id sb hg).place (hnr _ _ hg)
  have hfr : ∀ b, W.fr b → b < w.heap.size ∧ ∀ id sb p, hin.blocks.get id = some sb → σ id = some p → C.ro ≤ id → p.block ≠ b := fun b hb =>
    ⟨Nat.lt_of_lt_of_le (W.lt b hb) r.size, fun id sb p hg hp hro e => r.own id sb p (hcov _ _ hg) hp hro (e ▸ hb)⟩
  -- a number of the part that is read alone
  have low : ∀ id sb p, hout.blocks.get id = some sb → τ id = some p → ¬ C.ro ≤ id → σ id = some p ∧ ∃ u, hin.blocks.get id = some u := by
    intro id sb p hg hp hro
    rcases hdom id sb hg with ⟨u, hu⟩ | hu
    · obtain ⟨p0, hp0⟩ := old id u (hcov _ _ hu)
      have := hle.pl _ _ hp0
      rw [hp] at this; obtain rfl := Option.some.inj this
      exact ⟨hp0, u, hu⟩
    · have := r.ro; omega
  refine ⟨?_, ?_, ?_, ?_, ?_, r2.ro, r.ng, ?_, ?_, ?_, r2.tape.trans r.tape, r2.os.trans r.os, r2.output.trans r.output, ?_⟩
  · intro id sb hg
    rcases split id sb hg with hg | ⟨hn, hg⟩
    · exact r2.blk id sb hg
    · exact (r.blk id sb hg).move (hnr _ _ hg) hle (fun p1 hp1 => r2.base _ (away id sb p1 hn hg hp1))
  · intro id sb p hg hp hro hb
    rcases split id sb hg with hg | ⟨hn, hg⟩
    · exact r2.own id sb p hg hp hro (hfr _ hb)
    · obtain ⟨p0, hp0⟩ := old id sb hg
      have := hle.pl _ _ hp0
      rw [hp] at this; obtain rfl := Option.some.inj this
      exact r.own id sb p hg hp0 hro hb
  · exact fun id p hp => r2.dom id p hp
  · exact fun id V hV => r2.domV id V hV
  · intro id1 id2 sb1 sb2 p1 p2 h1 h2 hp1 hp2 hpp
    have mixed : ∀ i1 i2 s1 s2 q1 q2, hin.blocks.get i1 = none → h.blocks.get i1 = some s1 → hout.blocks.get i2 = some s2 → τ i1 = some q1 → τ i2 = some q2 → q1.block = q2.block → False := by
      intro i1 i2 s1 s2 q1 q2 hn hg ho hq1 hq2 hq
      obtain ⟨q0, hq0⟩ := old i1 s1 hg
      have := hle.pl _ _ hq0
      rw [hq1] at this; obtain rfl := Option.some.inj this
      by_cases hro : C.ro ≤ i2
      · exact r2.own i2 s2 q2 ho hq2 hro (hq ▸ away i1 s1 q1 hn hg hq0)
      · obtain ⟨hs2, u, hu⟩ := low i2 s2 q2 ho hq2 hro
        have := r.inj i1 i2 s1 u q1 q2 hg (hcov _ _ hu) hq0 hs2 hq
        subst this
        rw [hn] at hu; cases hu
    rcases split id1 sb1 h1 with g1 | ⟨n1, g1⟩ <;> rcases split id2 sb2 h2 with g2 | ⟨n2, g2⟩
    · exact r2.inj id1 id2 sb1 sb2 p1 p2 g1 g2 hp1 hp2 hpp
    · exact (mixed id2 id1 sb2 sb1 p2 p1 n2 g2 g1 hp2 hp1 hpp.symm).elim
    · exact (mixed id1 id2 sb1 sb2 p1 p2 n1 g1 g2 hp1 hp2 hpp).elim
    · obtain ⟨q1, e1⟩ := old id1 sb1 g1
      obtain ⟨q2, e2⟩ := old id2 sb2 g2
      have t1 := hle.pl _ _ e1
      have t2 := hle.pl _ _ e2
      rw [hp1] at t1; obtain rfl := Option.some.inj t1
      rw [hp2] at t2; obtain rfl := Option.some.inj t2
      exact r.inj id1 id2 sb1 sb2 p1 p2 g1 g2 e1 e2 hpp
  · intro g hg
    obtain ⟨n, hn⟩ := r.glob g hg
    exact ⟨n, hle.pl _ _ hn⟩
  · intro b hb
    rw [r2.base b (hfr b hb)]
    exact r.base b hb
  · exact Nat.le_trans r.size r2.size
  · obtain ⟨F, h1, h2, h3⟩ := r.rest
    have hF : ∀ b, F b → b < w.heap.size ∧ ∀ id sb p, hin.blocks.get id = some sb → σ id = some p → C.ro ≤ id → p.block ≠ b := fun b hb =>
      ⟨(h2 b hb).1, fun id sb p hg hp _ e => h3 id sb p (hcov _ _ hg) hp (e ▸ hb)⟩
    refine ⟨F, W.stays _ _ _ _ _ _ hle h1 (fun b hb => r2.base b (hF b hb)), fun b hb => ⟨Nat.lt_of_lt_of_le (h2 b hb).1 r2.size, (h2 b hb).2⟩, fun id sb p hg hp hb => ?_⟩
    rcases split id sb hg with hg | ⟨hn, hg⟩
    · by_cases hro : C.ro ≤ id
      · exact r2.own id sb p hg hp hro (hF _ hb)
      · obtain ⟨hs, u, hu⟩ := low id sb p hg hp hro
        exact h3 id u p (hcov _ _ hu) hs hb
    · obtain ⟨p0, hp0⟩ := old id sb hg
      have := hle.pl _ _ hp0
      rw [hp] at this; obtain rfl := Option.some.inj this
      exact h3 id sb p hg hp0 hb

theorem HRel.cast {σ : Sg} {h : SH} {w : World} (hro : C'.ro = C.ro) (hng : C'.ng = C.ng) (r : HRel C ρ W σ h w) : HRel C' ρ W σ h w :=
  ⟨r.blk, fun id sb p a b c => r.own id sb p a b (by rw [← hro]; exact c), r.dom, r.domV, r.inj, by rw [hro]; exact r.ro, by rw [hro, hng]; exact r.ng, by rw [hng]; exact r.glob, r.base, r.size, r.tape, r.os, r.output, r.rest⟩

/-- A call that was run ahead is told. -/
theorem memo_ok (K0 : CxOk C') (hh : Hints C' ρ) (ht : ∀ W, Told C' ρ W) (hP : C'.P = C.P) (hro : C'.ro = C.ro) (hng : C'.ng = C.ng) {m : Memo} {f : Nat} (hm : m.check C' f = true) {g : FuncId} {args : List SV} {h h' : SH} {v : SV}
    (e : m.use g args h = some (v, h')) {σ : Sg} {A : Array Value} {w : World} (hA : VRels σ ρ args A.toList) (r : HRel C ρ W σ h w) :
    Calls C.P g A w (fun e w' => ∃ V τ, σ.le τ ∧ e = .returned V ∧ VRel τ ρ v V ∧ HRel C ρ W τ h' w') := by
  unfold Memo.use at e
  cases hc : (Nat.beq m.g g && (svsEq m.args args && (Nat.beq m.hin.next h.next && (trCov sbEq m.hin.blocks h.blocks && trAll notResv h.blocks)))) with
  | false => rw [hc] at e; cases e
  | true =>
  rw [hc] at e; simp only [cond_true, Option.some.injEq, Prod.mk.injEq] at e
  obtain ⟨rfl, rfl⟩ := e
  simp only [Bool.and_eq_true, beq_true] at hc
  obtain ⟨rfl, ha, hnx, hcov, hres⟩ := hc
  obtain rfl := svsEq_ok _ _ ha
  replace hcov := trCov_ok sbEq_ok _ _ hcov
  unfold Memo.check at hm
  split at hm
  case h_2 => cases hm
  rename_i v' h2 hrun
  simp only [Bool.and_eq_true, beq_true] at hm
  obtain ⟨hv, hn2, hcov2, hchk⟩ := hm
  obtain rfl := svEq_ok _ _ hv
  replace hcov2 := trCov_ok sbEq_ok _ _ hcov2
  have hdom : ∀ n v, m.hout.blocks.get n = some v → (∃ u, m.hin.blocks.get n = some u) ∨ m.hin.next ≤ n := by
    intro n v hg
    have := trChk_ok _ _ _ _ hchk n v hg
    rwa [Nat.one_mul, Nat.add_zero] at this
  let W' : Base := { w := w, fr := fun b => b < w.heap.size ∧ ∀ id sb p, m.hin.blocks.get id = some sb → σ id = some p → C.ro ≤ id → p.block ≠ b, lt := fun _ h => h.1, J := fun _ _ _ _ => True, stays := fun _ _ _ _ _ _ _ _ _ => trivial }
  have r' : HRel C ρ W' σ m.hin w := by
    refine ⟨fun id sb hg => by rw [hnx]; exact r.blk id sb (hcov _ _ hg), fun id sb p hg hp hro hb => hb.2 id sb p hg hp hro rfl, fun id p hp => by rw [hnx]; exact r.dom id p hp, fun id V hV => by rw [hnx]; exact r.domV id V hV,
      fun i j s1 s2 p1 p2 h1 h2 => r.inj i j s1 s2 p1 p2 (hcov _ _ h1) (hcov _ _ h2), by rw [hnx]; exact r.ro, r.ng, r.glob, fun _ _ => rfl, Nat.le_refl _, rfl, rfl, rfl, ⟨fun _ => False, trivial, fun _ h => h.elim, fun _ _ _ _ _ h => h⟩⟩
  rw [← hP]
  refine (call_sound K0 hh (ht W') hrun hA (r'.cast hro hng)).mono ?_
  rintro en w' ⟨V, τ, hle, rfl, hV, r2⟩
  refine ⟨V, τ, hle, rfl, hV, r.frame hcov hnx hres hdom hle ?_⟩
  exact ((r2.cast hro.symm hng.symm).setInv m.hout.inv).sub hcov2 hn2 rfl

theorem memos_ok (K0 : CxOk C') (hh : Hints C' ρ) (ht : ∀ W, Told C' ρ W) (hP : C'.P = C.P) (hro : C'.ro = C.ro) (hng : C'.ng = C.ng) {f : Nat} : ∀ {ms : List Memo}, (∀ m ∈ ms, m.check C' f = true) → ∀ {g : FuncId} {args : List SV} {h h' : SH} {v : SV},
    toldMemos ms g args h = some (v, h') → ∀ {σ : Sg} {A : Array Value} {w : World}, VRels σ ρ args A.toList → HRel C ρ W σ h w →
    Calls C.P g A w (fun e w' => ∃ V τ, σ.le τ ∧ e = .returned V ∧ VRel τ ρ v V ∧ HRel C ρ W τ h' w')
  | [], _, _, _, _, _, _, e, _, _, _, _, _ => by cases e
  | m :: ms, hm, g, args, h, h', v, e, σ, A, w, hA, r => by
    unfold toldMemos at e
    split at e
    · rename_i x hx
      obtain rfl := Option.some.inj e
      exact memo_ok K0 hh ht hP hro hng (hm m (by simp)) hx hA r
    · exact memos_ok K0 hh ht hP hro hng (fun m' hm' => hm m' (by simp [hm'])) e hA r
end
end Go.Sx
namespace Go.Sx
open Go
/-! ### how memos are written down -/
def mkB : List (Nat × SB) → Tr SB → Tr SB
  | [], t => t
  | (i, b) :: r, t => mkB r (t.set i b)
def mkC : List (Nat × SV) → Tr SV → Tr SV
  | [], t => t
  | (i, b) :: r, t => mkC r (t.set i b)
def nI (n : Int) : SV := .int .i64 (.lit n)
def nB (n : Int) : SV := .int .u8 (.lit n)
def tX (l : List Nat) : SV := .str (.lit l)
end Go.Sx
