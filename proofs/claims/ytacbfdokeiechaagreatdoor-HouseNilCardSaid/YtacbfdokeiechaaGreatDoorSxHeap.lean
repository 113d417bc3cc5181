/- Memory: what new blocks, stores and loads do to what it stands for. -/
import Derived.Test.YtacbfdokeiechaaGreatDoorSxRel
import Derived.Laws.Cells
import Derived.Laws.Entries
namespace Go.Sx
open Go

/-- Block b turned to o; nothing else. -/
structure Upd (w : World) (b : Nat) (o : Obj) (w' : World) : Prop where
  here : w'.heap[b]? = some o
  others : ∀ c, c ≠ b → w'.heap[c]? = w.heap[c]?
  size : w'.heap.size = w.heap.size
  tape : w'.tape = w.tape
  os : w'.os = w.os
  output : w'.output = w.output

theorem Upd.trans {w w1 w2 : World} {b : Nat} {o1 o2 : Obj} (h : Upd w b o1 w1) (g : Upd w1 b o2 w2) : Upd w b o2 w2 :=
  ⟨g.here, fun c hc => (g.others c hc).trans (h.others c hc), g.size.trans h.size, g.tape.trans h.tape, g.os.trans h.os, g.output.trans h.output⟩
theorem Upd.same {w : World} {b : Nat} {o : Obj} (h : w.heap[b]? = some o) : Upd w b o w := ⟨h, fun _ _ => rfl, rfl, rfl, rfl, rfl⟩
theorem Upd.set {w : World} {b : Nat} {o o' : Obj} (h : w.heap[b]? = some o) : Upd w b o' { w with heap := w.heap.setIfInBounds b o' } := by
  have hb : b < w.heap.size := (Array.getElem?_eq_some_iff.1 h).1
  refine ⟨by simp [hb], fun c hc => ?_, by simp, rfl, rfl, rfl⟩
  simp [Ne.symm hc]

theorem cell_of {w : World} {b i : Nat} {c : Array Value} {e : TypeId} {fz : Nat × Nat} (h : w.heap[b]? = some (.cells c e fz)) : w.cell? ⟨b, i, none⟩ = c[i]? := by
  simp [World.cell?, h]
theorem frozen_of {w : World} {b i : Nat} {c : Array Value} {e : TypeId} {fz : Nat × Nat} (h : w.heap[b]? = some (.cells c e fz)) : w.frozen? ⟨b, i, none⟩ = (decide (fz.1 ≤ i) && decide (i < fz.2)) := by
  obtain ⟨lo, hi⟩ := fz
  simp [World.frozen?, h]
theorem shape_of {w : World} {b : Nat} {c : Array Value} {e : TypeId} {fz : Nat × Nat} (h : w.heap[b]? = some (.cells c e fz)) : w.shape? b = some (e, c.size) := by
  simp [World.shape?, h]

theorem addr_add (b o n : Nat) : Addr.add ⟨b, o, none⟩ n = ⟨b, o + n, none⟩ := by
  unfold Addr.add
  by_cases h : n = 0 <;> simp [h]

def spl (c : Array Value) (k : Nat) : List Value → Array Value
  | [] => c
  | v :: r => spl (c.setIfInBounds k v) (k + 1) r
@[simp] theorem spl_size (l : List Value) : ∀ (c : Array Value) (k : Nat), (spl c k l).size = c.size := by
  induction l with
  | nil => intro c k; rfl
  | cons v l ih => intro c k; simp [spl, ih]
theorem spl_get (l : List Value) : ∀ (c : Array Value) (k i : Nat), k + l.length ≤ c.size → (spl c k l)[i]? = if k ≤ i ∧ i < k + l.length then l[i - k]? else c[i]? := by
  induction l with
  | nil => intro c k i _; simp [spl]; omega
  | cons v l ih =>
    intro c k i h
    simp only [List.length_cons] at h
    simp only [spl, List.length_cons]
    rw [ih _ _ _ (by simp; omega)]
    by_cases h1 : k + 1 ≤ i ∧ i < k + 1 + l.length
    · rw [if_pos h1, if_pos (by omega)]
      have : i - k = (i - (k + 1)) + 1 := by omega
      rw [this, List.getElem?_cons_succ]
    · rw [if_neg h1]
      by_cases h2 : i = k
      · subst h2
        rw [if_pos (by omega)]
        have : i < c.size := by omega
        simp [this]
      · rw [if_neg (by omega)]
        rw [Array.getElem?_setIfInBounds, if_neg (by omega)]

theorem run_storeCells_upd (P : Program) (b o : Nat) (e : TypeId) (fz : Nat × Nat) : ∀ (vs : List Value) (i : Nat) (c : Array Value) (w : World),
    w.heap[b]? = some (.cells c e fz) → (∀ v ∈ vs, v.oneCell' = true) → o + i + vs.length ≤ c.size →
    (∀ j, i ≤ j → j < i + vs.length → ¬ (fz.1 ≤ o + j ∧ o + j < fz.2)) →
    ∃ w', (storeCells ⟨b, o, none⟩ vs i).run P w = .ok () w' ∧ Upd w b (.cells (spl c (o + i) vs) e fz) w' := by
  intro vs
  induction vs with
  | nil => intro i c w h _ _ _; exact ⟨w, by simp [storeCells], Upd.same h⟩
  | cons v vs ih =>
    intro i c w h h1 h2 h3
    simp only [List.length_cons] at h2 h3
    have hlt : o + i < c.size := by omega
    have hc : w.cell? ⟨b, o + i, none⟩ = some c[o + i] := by rw [cell_of h]; simp [hlt]
    have hf : w.frozen? ⟨b, o + i, none⟩ = false := by
      rw [frozen_of h]
      have := h3 i (Nat.le_refl _) (by omega)
      simp only [Bool.and_eq_false_iff, decide_eq_false_iff_not]
      omega
    have hs : (store (Addr.add ⟨b, o, none⟩ i) v).run P w = .ok () (w.setCell ⟨b, o + i, none⟩ v) := by
      rw [addr_add, run_store P w _ v .plain (h1 v (by simp)), hc]
      simp [hf]
    have hb : b < w.heap.size := (Array.getElem?_eq_some_iff.1 h).1
    have hb' : w.heap[b] = .cells c e fz := (Array.getElem?_eq_some_iff.1 h).2
    have hu : Upd w b (.cells (c.setIfInBounds (o + i) v) e fz) (w.setCell ⟨b, o + i, none⟩ v) := by
      refine ⟨?_, fun k hk => ?_, ?_, rfl, rfl, rfl⟩
      · simp [World.setCell, Array.getElem?_modify, h]
      · simp [World.setCell, Array.getElem?_modify, Ne.symm hk]
      · simp [World.setCell]
    obtain ⟨w', hr, hu'⟩ := ih (i + 1) (c.setIfInBounds (o + i) v) (w.setCell ⟨b, o + i, none⟩ v) hu.here (fun x hx => h1 x (by simp [hx])) (by simp; omega)
      (fun j hj hj' => h3 j (by omega) (by omega))
    refine ⟨w', ?_, hu.trans ?_⟩
    · simp only [storeCells]
      rw [Sem.run_bind, hs]
      exact hr
    · exact hu'

section
variable {C : Cx} {ρ : Env} {W : Base} {w : World} {σ : Sg} {h : SH}

/-- More is known where to look. -/
def Sg.put (σ : Sg) (id : Nat) (p : Pl) : Sg := ⟨fun i => if i = id then some p else σ i, σ.v⟩
theorem Sg.put_at (σ : Sg) (id : Nat) (p : Pl) (i : Nat) : (σ.put id p) i = if i = id then some p else σ i := rfl
theorem Sg.put_v (σ : Sg) (id : Nat) (p : Pl) : (σ.put id p).v = σ.v := rfl
/-- A value that is told. -/
def Sg.say (σ : Sg) (id : Nat) (V : Value) : Sg := ⟨σ.pl, fun i => if i = id then some V else σ.v i⟩
theorem Sg.say_at (σ : Sg) (id : Nat) (V : Value) (i : Nat) : (σ.say id V) i = σ i := rfl
theorem Sg.say_v (σ : Sg) (id : Nat) (V : Value) (i : Nat) : (σ.say id V).v i = if i = id then some V else σ.v i := rfl

theorem HRel.fresh (r : HRel C ρ W σ h w) : σ h.next = none := by
  cases e : σ h.next with
  | none => rfl
  | some p => exact absurd (r.dom _ _ e).1 (Nat.lt_irrefl _)
theorem HRel.le_put (r : HRel C ρ W σ h w) (p : Pl) : σ.le (σ.put h.next p) := by
  refine ⟨fun i q hq => ?_, fun i V hV => hV⟩
  rw [Sg.put_at]
  by_cases e : i = h.next
  · rw [e, r.fresh] at hq; cases hq
  · rw [if_neg e]; exact hq
theorem HRel.freshV (r : HRel C ρ W σ h w) : σ.v h.next = none := by
  cases e : σ.v h.next with
  | none => rfl
  | some p => exact absurd (r.domV _ _ e) (Nat.lt_irrefl _)
theorem HRel.le_say (r : HRel C ρ W σ h w) (V : Value) : σ.le (σ.say h.next V) := by
  refine ⟨fun i q hq => hq, fun i U hU => ?_⟩
  rw [Sg.say_v]
  by_cases e : i = h.next
  · rw [e, r.freshV] at hU; cases hU
  · rw [if_neg e]; exact hU
theorem Base.fresh_not {W : Base} {b : Nat} (hb : W.w.heap.size ≤ b) : ¬ W.fr b := fun h => absurd (W.lt b h) (by omega)

theorem HRel.draw (r : HRel C ρ W σ h w) (d : Nat) : HRel C ρ W σ h { w with drawn := d } :=
  ⟨r.blk, r.own, r.dom, r.domV, r.inj, r.ro, r.ng, r.glob, r.base, r.size, r.tape, r.os, r.output, by
    obtain ⟨F, h1, h2, h3⟩ := r.rest
    exact ⟨F, W.stays _ _ _ _ _ _ (Sg.le_refl _) h1 (fun _ _ => rfl), h2, h3⟩⟩

/-- A number is passed by. -/
theorem HRel.bump (r : HRel C ρ W σ h w) : HRel C ρ W σ h.bump w :=
  ⟨fun i sb hg => (r.blk i sb hg).step (Nat.le_succ _) (fun h _ => h) (Sg.le_refl _) (fun _ _ => rfl), r.own, fun i p e => ⟨Nat.lt_succ_of_lt (r.dom i p e).1, (r.dom i p e).2⟩, fun i V e => Nat.lt_succ_of_lt (r.domV i V e), r.inj, Nat.le_succ_of_le r.ro, r.ng, r.glob, r.base, r.size, r.tape, r.os, r.output, r.rest⟩

theorem HRel.lt (r : HRel C ρ W σ h w) {id : Nat} {sb : SB} (hg : h.blocks.get id = some sb) : id < h.next := by
  have hb := r.blk id sb hg
  cases sb with
  | resv => exact hb.2
  | cells => obtain ⟨p, _, hp, _⟩ := hb; exact (r.dom id p hp).1
  | map => obtain ⟨p, _, hp, _⟩ := hb; exact (r.dom id p hp).1
  | siter => obtain ⟨p, _, hp, _⟩ := hb; exact (r.dom id p hp).1

/-- A new block. -/
theorem HRel.push (r : HRel C ρ W σ h w) {sb : SB} {o : Obj} (n : Nat) (hb : BRel σ ρ ⟨w.heap.size, 0, n⟩ sb o) :
    HRel C ρ W (σ.put h.next ⟨w.heap.size, 0, n⟩) (h.new h.next sb).bump { w with heap := w.heap.push o } := by
  have hle := r.le_put ⟨w.heap.size, 0, n⟩
  have hold : ∀ b, b < w.heap.size → (w.heap.push o)[b]? = w.heap[b]? := fun b hb => by rw [Array.getElem?_push]; rw [if_neg (by omega)]
  refine ⟨?_, ?_, ?_, fun i V e => Nat.lt_succ_of_lt (r.domV i V e), ?_, Nat.le_succ_of_le r.ro, r.ng, ?_, ?_, ?_, r.tape, r.os, r.output, ?_⟩
  · intro id sb' hg
    simp only [SH.new, SH.bump, Tr.get_set] at hg
    by_cases e : id = h.next
    · rw [if_pos e] at hg
      obtain rfl := Option.some.inj hg
      exact HasB.of ⟨_, o, by rw [Sg.put_at, if_pos e], by simp, hb.mono hle⟩
    · rw [if_neg e] at hg
      exact (r.blk id sb' hg).step (Nat.le_succ _) (fun h1 _ => by rw [Sg.put_at, if_neg e]; exact h1) hle (fun p hp => hold _ (r.dom id p hp).2)
  · intro id sb1 p hg hp hid
    simp only [SH.new, SH.bump, Tr.get_set] at hg
    rw [Sg.put_at] at hp
    by_cases e : id = h.next
    · rw [if_pos e] at hp; obtain rfl := Option.some.inj hp; exact Base.fresh_not r.size
    · rw [if_neg e] at hp hg; exact r.own id sb1 p hg hp hid
  · intro id p hp
    rw [Sg.put_at] at hp
    by_cases e : id = h.next
    · rw [if_pos e] at hp; obtain rfl := Option.some.inj hp; exact ⟨by simp [e, SH.bump, SH.new], by simp⟩
    · rw [if_neg e] at hp; have := r.dom id p hp; exact ⟨by simp only [SH.bump, SH.new]; omega, by simp; omega⟩
  · intro id id' sb1 sb2 p p' h1 h2 hp hp' hpp
    simp only [SH.new, SH.bump, Tr.get_set] at h1 h2
    rw [Sg.put_at] at hp hp'
    by_cases e : id = h.next <;> by_cases e' : id' = h.next
    · rw [e, e']
    · rw [if_pos e] at hp; rw [if_neg e'] at hp'; obtain rfl := Option.some.inj hp
      have := (r.dom id' p' hp').2; simp at hpp; omega
    · rw [if_neg e] at hp; rw [if_pos e'] at hp'; obtain rfl := Option.some.inj hp'
      have := (r.dom id p hp).2; simp at hpp; omega
    · rw [if_neg e] at hp h1; rw [if_neg e'] at hp' h2
      exact r.inj id id' _ _ p p' h1 h2 hp hp' hpp
  · intro g hg
    obtain ⟨n', hn⟩ := r.glob g hg
    exact ⟨n', hle.pl _ _ hn⟩
  · intro b hb
    show (w.heap.push o)[b]? = _
    rw [hold b (Nat.lt_of_lt_of_le (W.lt b hb) r.size)]
    exact r.base b hb
  · simp; have := r.size; omega
  · obtain ⟨F, h1, h2, h3⟩ := r.rest
    refine ⟨F, W.stays _ _ _ _ _ _ hle h1 (fun b hF => hold b (h2 b hF).1), fun b hF => ⟨by have := (h2 b hF).1; simp; omega, (h2 b hF).2⟩, fun id sb' p hg hp => ?_⟩
    simp only [SH.new, SH.bump, Tr.get_set] at hg
    rw [Sg.put_at] at hp
    by_cases e : id = h.next
    · rw [if_pos e] at hp; obtain rfl := Option.some.inj hp
      intro hF; have := (h2 _ hF).1; simp at this
    · rw [if_neg e] at hp hg; exact h3 id sb' p hg hp

/-- A block turns. -/
theorem HRel.turn (r : HRel C ρ W σ h w) {id : Nat} {sb sb' : SB} {p : Pl} {o : Obj} {w' : World} {h' : SH} (hg : h.blocks.get id = some sb) (hp : σ id = some p)
    (hu : Upd w p.block o w') (hb : BRel σ ρ p sb' o) (hh : h.upd C.ro id sb' = some h') : HRel C ρ W σ h' w' := by
  unfold SH.upd at hh
  cases hro : Nat.ble C.ro id with
  | false => rw [hro] at hh; cases hh
  | true =>
    rw [hro] at hh
    obtain rfl := Option.some.inj hh
    have hro' := ble_true.1 hro
    refine ⟨?_, ?_, ?_, r.domV, ?_, r.ro, r.ng, r.glob, ?_, by rw [hu.size]; exact r.size, hu.tape.trans r.tape, hu.os.trans r.os, hu.output.trans r.output, ?_⟩
    · intro id1 sb1 hg1
      simp only [SH.new, Tr.get_set] at hg1
      by_cases e : id1 = id
      · rw [if_pos e] at hg1
        obtain rfl := Option.some.inj hg1
        exact HasB.of ⟨p, o, e ▸ hp, hu.here, hb⟩
      · rw [if_neg e] at hg1
        exact (r.blk id1 sb1 hg1).step (Nat.le_refl _) (fun h _ => h) (Sg.le_refl _) (fun p1 hp1 => hu.others _ (fun eb => e (r.inj id1 id sb1 sb p1 p hg1 hg hp1 hp eb)))
    · intro id1 sb1 p1 hg1 hp1 hid
      simp only [SH.new, Tr.get_set] at hg1
      by_cases e : id1 = id
      · subst e; exact r.own id1 sb p1 hg hp1 hid
      · rw [if_neg e] at hg1; exact r.own id1 sb1 p1 hg1 hp1 hid
    · intro id1 p1 hp1
      rw [hu.size]
      exact r.dom id1 p1 hp1
    · intro id1 id2 sb1 sb2 p1 p2 h1 h2 hp1 hp2 hpp
      simp only [SH.new, Tr.get_set] at h1 h2
      have l1 : ∃ s, h.blocks.get id1 = some s := by
        by_cases e : id1 = id
        · exact ⟨sb, e ▸ hg⟩
        · rw [if_neg e] at h1; exact ⟨_, h1⟩
      have l2 : ∃ s, h.blocks.get id2 = some s := by
        by_cases e : id2 = id
        · exact ⟨sb, e ▸ hg⟩
        · rw [if_neg e] at h2; exact ⟨_, h2⟩
      obtain ⟨s1, l1⟩ := l1
      obtain ⟨s2, l2⟩ := l2
      exact r.inj id1 id2 s1 s2 p1 p2 l1 l2 hp1 hp2 hpp
    · intro b hb
      rw [hu.others]
      · exact r.base b hb
      · intro e; subst e; exact r.own id sb p hg hp hro' hb
    · obtain ⟨F, h1, h2, h3⟩ := r.rest
      refine ⟨F, W.stays _ _ _ _ _ _ (Sg.le_refl _) h1 (fun b hF => hu.others b (fun e => h3 id sb p hg hp (e ▸ hF))), fun b hF => by rw [hu.size]; exact h2 b hF, fun id1 sb1 p1 hg1 hp1 => ?_⟩
      simp only [SH.new, Tr.get_set] at hg1
      by_cases e : id1 = id
      · subst e; exact h3 id1 sb p1 hg hp1
      · rw [if_neg e] at hg1; exact h3 id1 sb1 p1 hg1 hp1

/-- A block's known part goes on under a new number, in the same place. -/
theorem HRel.rename (r : HRel C ρ W σ h w) {id : Nat} {sb sb' : SB} {p p' : Pl} {o : Obj} {w' : World} (hg : h.blocks.get id = some sb) (hp : σ id = some p)
    (hro : C.ro ≤ id) (hblk : p'.block = p.block) (hu : Upd w p.block o w') (hb : BRel σ ρ p' sb' o) :
    HRel C ρ W (σ.put h.next p') ({ h with blocks := (h.blocks.del id).set h.next sb' } : SH).bump w' := by
  have hle := r.le_put p'
  refine ⟨?_, ?_, ?_, fun i V e => Nat.lt_succ_of_lt (r.domV i V e), ?_, Nat.le_succ_of_le r.ro, r.ng, ?_, ?_, by rw [hu.size]; exact r.size, hu.tape.trans r.tape, hu.os.trans r.os, hu.output.trans r.output, ?_⟩
  · intro id1 sb1 hg1
    simp only [SH.bump, Tr.get_set, Tr.get_del] at hg1
    by_cases e : id1 = h.next
    · rw [if_pos e] at hg1
      obtain rfl := Option.some.inj hg1
      exact HasB.of ⟨p', o, by rw [Sg.put_at, if_pos e], by rw [hblk]; exact hu.here, hb.mono hle⟩
    · rw [if_neg e] at hg1
      by_cases e2 : id1 = id
      · rw [if_pos e2] at hg1; cases hg1
      · rw [if_neg e2] at hg1
        exact (r.blk id1 sb1 hg1).step (Nat.le_succ _) (fun h1 _ => by rw [Sg.put_at, if_neg e]; exact h1) hle (fun p1 hp1 => hu.others _ (fun eb => e2 (r.inj id1 id sb1 sb p1 p hg1 hg hp1 hp eb)))
  · intro id1 sb1 p1 hg1 hp1 hid
    simp only [SH.bump, Tr.get_set, Tr.get_del] at hg1
    rw [Sg.put_at] at hp1
    by_cases e : id1 = h.next
    · rw [if_pos e] at hp1; obtain rfl := Option.some.inj hp1; rw [hblk]; exact r.own id sb p hg hp hro
    · rw [if_neg e] at hp1 hg1
      by_cases e2 : id1 = id
      · rw [if_pos e2] at hg1; cases hg1
      · rw [if_neg e2] at hg1; exact r.own id1 sb1 p1 hg1 hp1 hid
  · intro id1 p1 hp1
    rw [Sg.put_at] at hp1
    rw [hu.size]
    by_cases e : id1 = h.next
    · rw [if_pos e] at hp1; obtain rfl := Option.some.inj hp1; exact ⟨by simp [e, SH.bump], by rw [hblk]; exact (r.dom id p hp).2⟩
    · rw [if_neg e] at hp1; have := r.dom id1 p1 hp1; exact ⟨by simp only [SH.bump]; omega, this.2⟩
  · intro id1 id2 sb1 sb2 p1 p2 h1 h2 hp1 hp2 hpp
    simp only [SH.bump, Tr.get_set, Tr.get_del] at h1 h2
    rw [Sg.put_at] at hp1 hp2
    by_cases e1 : id1 = h.next <;> by_cases e2 : id2 = h.next
    · rw [e1, e2]
    · rw [if_pos e1] at hp1; rw [if_neg e2] at hp2 h2
      obtain rfl := Option.some.inj hp1
      by_cases e3 : id2 = id
      · rw [if_pos e3] at h2; cases h2
      · rw [if_neg e3] at h2
        exact absurd (r.inj id2 id sb2 sb p2 p h2 hg hp2 hp (by rw [← hpp, hblk])) e3
    · rw [if_neg e1] at hp1 h1; rw [if_pos e2] at hp2
      obtain rfl := Option.some.inj hp2
      by_cases e3 : id1 = id
      · rw [if_pos e3] at h1; cases h1
      · rw [if_neg e3] at h1
        exact absurd (r.inj id1 id sb1 sb p1 p h1 hg hp1 hp (by rw [hpp, hblk])) e3
    · rw [if_neg e1] at hp1 h1; rw [if_neg e2] at hp2 h2
      by_cases e3 : id1 = id
      · rw [if_pos e3] at h1; cases h1
      · by_cases e4 : id2 = id
        · rw [if_pos e4] at h2; cases h2
        · rw [if_neg e3] at h1; rw [if_neg e4] at h2
          exact r.inj id1 id2 sb1 sb2 p1 p2 h1 h2 hp1 hp2 hpp
  · intro g hg
    obtain ⟨n', hn⟩ := r.glob g hg
    exact ⟨n', hle.pl _ _ hn⟩
  · intro b hb
    rw [hu.others]
    · exact r.base b hb
    · intro e; subst e; exact r.own id sb p hg hp hro hb
  · obtain ⟨F, h1, h2, h3⟩ := r.rest
    refine ⟨F, W.stays _ _ _ _ _ _ hle h1 (fun b hF => hu.others b (fun e => h3 id sb p hg hp (e ▸ hF))), fun b hF => by rw [hu.size]; exact h2 b hF, fun id1 sb1 p1 hg1 hp1 => ?_⟩
    simp only [SH.bump, Tr.get_set, Tr.get_del] at hg1
    rw [Sg.put_at] at hp1
    by_cases e : id1 = h.next
    · rw [if_pos e] at hp1; obtain rfl := Option.some.inj hp1; rw [hblk]; exact h3 id sb p hg hp
    · rw [if_neg e] at hp1 hg1
      by_cases e2 : id1 = id
      · rw [if_pos e2] at hg1; cases hg1
      · rw [if_neg e2] at hg1; exact h3 id1 sb1 p1 hg1 hp1

/-- A block is forgotten, a new one takes its place. -/
theorem HRel.forget (r : HRel C ρ W σ h w) (id : Nat) : HRel C ρ W σ { h with blocks := h.blocks.del id } w := by
  have l : ∀ i sb, (h.blocks.del id).get i = some sb → h.blocks.get i = some sb := by
    intro i sb hi
    rw [Tr.get_del] at hi
    by_cases e : i = id
    · rw [if_pos e] at hi; cases hi
    · rwa [if_neg e] at hi
  exact ⟨fun i sb hi => r.blk i sb (l i sb hi), fun i sb p hi hp => r.own i sb p (l i sb hi) hp, r.dom, r.domV, fun i j s1 s2 p1 p2 h1 h2 => r.inj i j s1 s2 p1 p2 (l _ _ h1) (l _ _ h2), r.ro, r.ng, r.glob, r.base, r.size, r.tape, r.os, r.output, by
    obtain ⟨F, h1, h2, h3⟩ := r.rest
    exact ⟨F, h1, h2, fun id sb p hg hp => h3 id sb p (l _ _ hg) hp⟩⟩
end
end Go.Sx
