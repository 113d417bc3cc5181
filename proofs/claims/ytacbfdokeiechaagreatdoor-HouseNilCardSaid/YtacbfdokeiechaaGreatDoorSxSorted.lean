/- Calls that are told, not run: the sorted keys of a small map. -/
import Derived.Test.YtacbfdokeiechaaGreatDoorSxLaid
namespace Go.Sx
open Go Go.RowKit

section
variable {C : Cx} {ρ : Env} {W : Base} {w w' : World} {σ : Sg} {h : SH}

/-- Nothing that stood has turned. -/
theorem HRel.grow (r : HRel C ρ W σ h w) (hb : Below w.heap.size w w') : HRel C ρ W σ h w' :=
  ⟨fun id sb hg => (r.blk id sb hg).step (Nat.le_refl _) (fun h _ => h) (Sg.le_refl _) (fun p hp => hb.block _ (r.dom id p hp).2),
   r.own, fun id p hp => ⟨(r.dom id p hp).1, Nat.lt_of_lt_of_le (r.dom id p hp).2 hb.size⟩, r.domV, r.inj, r.ro, r.ng, r.glob,
   fun b hlt => by rw [hb.block b (Nat.lt_of_lt_of_le (W.lt b hlt) r.size)]; exact r.base b hlt,
   Nat.le_trans r.size hb.size, hb.tape.trans r.tape, hb.os.trans r.os, hb.output.trans r.output, by
    obtain ⟨F, h1, h2, h3⟩ := r.rest
    exact ⟨F, W.stays _ _ _ _ _ _ (Sg.le_refl _) h1 (fun b hF => hb.block b (h2 b hF).1), fun b hF => ⟨Nat.lt_of_lt_of_le (h2 b hF).1 hb.size, (h2 b hF).2⟩, h3⟩⟩

/-- .. and a block that is new is known. -/
theorem HRel.adopt (r : HRel C ρ W σ h w) (hb : Below w.heap.size w w') {blk n : Nat} {sb : SB} {o : Obj} (hnew : w.heap.size ≤ blk) (ho : w'.heap[blk]? = some o) (hbr : BRel σ ρ ⟨blk, 0, n⟩ sb o) :
    HRel C ρ W (σ.put h.next ⟨blk, 0, n⟩) (h.new h.next sb).bump w' := by
  have r' := r.grow hb
  have hle := r.le_put ⟨blk, 0, n⟩
  have hlt : blk < w'.heap.size := (Array.getElem?_eq_some_iff.1 ho).1
  refine ⟨?_, ?_, ?_, fun i V e => Nat.lt_succ_of_lt (r.domV i V e), ?_, Nat.le_succ_of_le r.ro, r.ng, ?_, r'.base, r'.size, r'.tape, r'.os, r'.output, ?_⟩
  · intro id sb' hg
    simp only [SH.new, SH.bump, Tr.get_set] at hg
    by_cases e : id = h.next
    · rw [if_pos e] at hg
      obtain rfl := Option.some.inj hg
      exact HasB.of ⟨_, o, by rw [Sg.put_at, if_pos e], ho, hbr.mono hle⟩
    · rw [if_neg e] at hg
      exact (r'.blk id sb' hg).step (Nat.le_succ _) (fun h1 _ => by rw [Sg.put_at, if_neg e]; exact h1) hle (fun _ _ => rfl)
  · intro id sb1 p hg hp hid
    simp only [SH.new, SH.bump, Tr.get_set] at hg
    rw [Sg.put_at] at hp
    by_cases e : id = h.next
    · rw [if_pos e] at hp; obtain rfl := Option.some.inj hp; exact Base.fresh_not (Nat.le_trans r.size hnew)
    · rw [if_neg e] at hp hg; exact r.own id sb1 p hg hp hid
  · intro id p hp
    rw [Sg.put_at] at hp
    by_cases e : id = h.next
    · rw [if_pos e] at hp; obtain rfl := Option.some.inj hp; exact ⟨by simp [e, SH.bump, SH.new], hlt⟩
    · rw [if_neg e] at hp; have := r'.dom id p hp; exact ⟨by simp only [SH.bump, SH.new]; omega, this.2⟩
  · intro id id' sb1 sb2 p p' h1 h2 hp hp' hpp
    simp only [SH.new, SH.bump, Tr.get_set] at h1 h2
    rw [Sg.put_at] at hp hp'
    by_cases e : id = h.next <;> by_cases e' : id' = h.next
    · rw [e, e']
    · rw [if_pos e] at hp; rw [if_neg e'] at hp'; obtain rfl := Option.some.inj hp
      have := (r.dom id' p' hp').2; simp at hpp; omega
    · rw [if_neg e] at hp; rw [if_pos e'] at hp'; obtain rfl := Option.some.inj hp'
      have := (r.dom id p hp).2; simp at hpp; omega
    · rw [if_neg e] at hp h1; rw [if_neg e'] at hp' h2
      exact r.inj id id' _ _ p p' h1 h2 hp hp' hpp
  · intro g hg
    obtain ⟨n', hn⟩ := r.glob g hg
    exact ⟨n', hle.pl _ _ hn⟩
  · obtain ⟨F, h1, h2, h3⟩ := r.rest
    refine ⟨F, W.stays _ _ _ _ _ _ hle h1 (fun b hF => hb.block b (h2 b hF).1), fun b hF => ⟨Nat.lt_of_lt_of_le (h2 b hF).1 hb.size, (h2 b hF).2⟩, fun id' sb' p hg hp => ?_⟩
    simp only [SH.new, SH.bump, Tr.get_set] at hg
    rw [Sg.put_at] at hp
    by_cases e : id' = h.next
    · rw [if_pos e] at hp; obtain rfl := Option.some.inj hp
      intro hF; have := (h2 _ hF).1; simp at this; omega
    · rw [if_neg e] at hp hg; exact h3 id' sb' p hg hp

/-- 'gs', handed an iterator 'fi' over the map in a box, hands back its keys, sorted: at a map of one entry at most. -/
def SortedOk (P : Program) (gs fi : FuncId) (e : TypeId) : Prop :=
  ∀ (w : World) (bx m : Nat) (es : Array MapEntry) (clock : Nat), w.cell? ⟨bx, 0, none⟩ = some (.map (some m)) → w.heap[m]? = some (.map es clock) → es.size ≤ 1 →
    (∀ x ∈ es.toList, x.born < clock ∧ ∃ z : Int, x.key = .int .i64 z ∧ -9223372036854775808 ≤ z ∧ z < 9223372036854775808) →
    Calls P gs #[.func (.func fi) #[] #[.pointer (some ⟨bx, 0, none⟩)]] w fun en w' => Below w.heap.size w w' ∧ ∃ v, en = .returned v ∧
      ((es.toList = [] ∧ v = .slice none 0 0) ∨
       ∃ x blk cap cur, es.toList = [x] ∧ v = .slice (some ⟨blk, 0, none⟩) 1 cap ∧ 1 ≤ cap ∧ w.heap.size ≤ blk ∧ w'.heap[blk]? = some (.cells cur e (0, 0)) ∧ cur.size = cap ∧ cur[0]? = some x.key)

def toldKeys (e : TypeId) (h : SH) (id : Nat) : Option (SV × SH) :=
  match h.blocks.get id with
  | some (.map []) => some (.nilSlice, h)
  | some (.map [(.int .i64 (.lit z), _)]) => cond (decide (-9223372036854775808 ≤ z) && decide (z < 9223372036854775808))
      (some (.slice h.next 0 1 (.wide 1), (h.new h.next (.cells (trOf [.int .i64 (.lit z)] 0 .nil) 1 e true .clean)).bump)) none
  | _ => none
def toldBox (e : TypeId) (h : SH) (bx : Nat) : Option (SV × SH) :=
  match h.blocks.get bx with
  | some (.cells cs _ _ _ _) => (match cs.get 0 with
    | some (.map id) => toldKeys e h id
    | _ => none)
  | _ => none
def toldSorted (gs fi : FuncId) (e : TypeId) (g : FuncId) (args : List SV) (h : SH) : Option (SV × SH) :=
  cond (Nat.beq g gs) (match args with
    | [.func (.func k) [] [.ptr bx 0]] => cond (Nat.beq k fi) (toldBox e h bx) none
    | _ => none) none

theorem told_sorted {gs fi : FuncId} {e : TypeId} (S : SortedOk C.P gs fi e) {g : FuncId} {args : List SV} {v : SV} {h' : SH} {A : Array Value} (eq : toldSorted gs fi e g args h = some (v, h'))
    (hA : VRels σ ρ args A.toList) (r : HRel C ρ W σ h w) :
    Calls C.P g A w (fun en w' => ∃ V τ, σ.le τ ∧ en = .returned V ∧ VRel τ ρ v V ∧ HRel C ρ W τ h' w') := by
  unfold toldSorted at eq
  have hg : g = gs := by
    cases c : Nat.beq g gs with
    | true => exact beq_true.1 c
    | false => rw [c] at eq; cases eq
  replace eq := bif_some eq
  split at eq
  case h_2 => cases eq
  rename_i k bx
  have hk : k = fi := by
    cases c : Nat.beq k fi with
    | true => exact beq_true.1 c
    | false => rw [c] at eq; cases eq
  replace eq := bif_some eq
  subst hg; subst hk
  simp only [VRels, VRel] at hA
  obtain ⟨x, xs, hAl, ⟨f1, f2, rfl, hf1, y, ys, hf2, ⟨p, hp, rfl⟩, rfl⟩, rfl⟩ := hA
  have hf1' : f1 = #[] := by cases f1; simp_all
  have hf2' : f2 = #[.pointer (some ⟨p.block, p.off + 0, none⟩)] := by cases f2; simp_all
  have hA' : A = #[.func (.func k) f1 f2] := by cases A; simp_all
  subst hA'; subst hf1'; subst hf2'
  unfold toldBox at eq
  split at eq
  case h_2 => cases eq
  rename_i cs n0 e0 m0 z0 hbx
  split at eq
  case h_2 => cases eq
  rename_i id hcs
  obtain ⟨p', o', hp', ho', hb'⟩ := r.blk bx _ hbx
  obtain rfl := Option.some.inj (hp.symm.trans hp')
  obtain ⟨c, fz, rfl, _, _, _, hcells, _, hoff⟩ := hb'
  obtain ⟨_, V, hV, hmv⟩ := hcells 0 _ hcs
  simp only [VRel] at hmv
  obtain ⟨q, hq, rfl⟩ := hmv
  rw [hoff] at hV
  have hcell : w.cell? ⟨p.block, 0, none⟩ = some (.map (some q.block)) := by rw [cell_of ho']; exact hV
  have go : ∀ (es : List (SV × SV)), h.blocks.get id = some (.map es) → es.length ≤ 1 → (∀ x ∈ es, ∃ z : Int, x.1 = .int .i64 (.lit z) ∧ -9223372036854775808 ≤ z ∧ z < 9223372036854775808) →
      Calls C.P g #[.func (.func k) #[] #[.pointer (some ⟨p.block, p.off + 0, none⟩)]] w fun en w' => Below w.heap.size w w' ∧ ∃ v, en = .returned v ∧
        ((es = [] ∧ v = .slice none 0 0) ∨ ∃ z blk cap cur s, es = [(.int .i64 (.lit z), s)] ∧ v = .slice (some ⟨blk, 0, none⟩) 1 cap ∧ 1 ≤ cap ∧ w.heap.size ≤ blk ∧ w'.heap[blk]? = some (.cells cur e (0, 0)) ∧ cur.size = cap ∧ cur[0]? = some (.int .i64 z)) := by
    intro es hes hlen hz
    obtain ⟨q', o, hq', ho, hbm⟩ := r.blk id _ hes
    obtain rfl := Option.some.inj (hq.symm.trans hq')
    obtain ⟨es', clock, rfl, hks, hvs, hborn, _⟩ := hbm
    have hl := hks.length
    simp only [List.length_map, Array.length_toList] at hl
    have hS := S w p.block q.block es' clock hcell ho (by omega) (by
      intro x hx
      refine ⟨hborn x hx, ?_⟩
      obtain ⟨i, hi, hxi⟩ := List.getElem_of_mem hx
      rw [Array.length_toList] at hi
      have h1 : (es.map (·.1))[i]? = some (es[i]'(by omega)).1 := by rw [List.getElem?_map, List.getElem?_eq_getElem (by omega)]; rfl
      obtain ⟨V, h2, h3⟩ := hks.get h1
      obtain ⟨z, h4, h5⟩ := hz (es[i]'(by omega)) (List.getElem_mem _)
      rw [h4] at h3
      simp only [VRel, IE.ev, Option.some.injEq] at h3
      obtain ⟨_, rfl, rfl⟩ := h3
      refine ⟨z, ?_, h5⟩
      rw [List.getElem?_map, List.getElem?_eq_getElem (by rw [Array.length_toList]; exact hi), hxi] at h2
      simpa using h2)
    rw [hoff]
    refine hS.mono ?_
    rintro en w' ⟨hb, v, rfl, hv⟩
    refine ⟨hb, v, rfl, ?_⟩
    rcases hv with ⟨hn, rfl⟩ | ⟨x, blk, cap, cur, hx, rfl, h1, h2, h3, h4, h5⟩
    · left
      refine ⟨?_, rfl⟩
      have hz0 : es'.size = 0 := by rw [← Array.length_toList, hn]; rfl
      exact List.eq_nil_of_length_eq_zero (by omega)
    · right
      have hz1 : es'.size = 1 := by rw [← Array.length_toList, hx]; rfl
      match es, (show es.length = 1 by omega) with
      | [(ky, s)], _ =>
        obtain ⟨z, h6, _⟩ := hz (ky, s) (by simp)
        simp only at h6
        subst h6
        have hkk : x.key = .int .i64 z := by
          simp only [hx, List.map_cons, List.map_nil, VRels, VRel, IE.ev, Option.some.injEq] at hks
          obtain ⟨_, _, e1, ⟨_, rfl, e2⟩, _⟩ := hks
          rw [e2] at e1
          simp at e1; exact e1.1
        exact ⟨z, blk, cap, cur, s, rfl, rfl, h1, h2, h3, h4, by rw [h5, hkk]⟩
  unfold toldKeys at eq
  split at eq
  · rename_i hes
    simp only [Option.some.injEq, Prod.mk.injEq] at eq; obtain ⟨rfl, rfl⟩ := eq
    refine (go [] hes (by simp) (by simp)).mono ?_
    rintro en w' ⟨hb, v, rfl, hv⟩
    rcases hv with ⟨_, rfl⟩ | ⟨z, blk, cap, cur, s, hx, _⟩
    · exact ⟨_, σ, Sg.le_refl _, rfl, by simp [VRel], r.grow hb⟩
    · cases hx
  · rename_i z s hes
    have hz : -9223372036854775808 ≤ z ∧ z < 9223372036854775808 := by
      cases c : (decide (-9223372036854775808 ≤ z) && decide (z < 9223372036854775808)) with
      | false => rw [c] at eq; cases eq
      | true => simpa using c
    replace eq := bif_some eq
    simp only [Option.some.injEq, Prod.mk.injEq] at eq; obtain ⟨rfl, rfl⟩ := eq
    refine (go _ hes (by simp) (by intro x hx; simp at hx; subst hx; exact ⟨z, rfl, hz⟩)).mono ?_
    rintro en w' ⟨hb, v, rfl, hv⟩
    rcases hv with ⟨hx, _⟩ | ⟨z', blk, cap, cur, s', hx, rfl, h1, h2, h3, h4, h5⟩
    · cases hx
    · simp only [List.cons.injEq, Prod.mk.injEq, SV.int.injEq, IE.lit.injEq, true_and, and_true] at hx
      obtain ⟨rfl, _⟩ := hx
      refine ⟨_, σ.put h.next ⟨blk, 0, cap⟩, r.le_put _, rfl, ?_, r.adopt hb (n := cap) h2 h3 ?_⟩
      · simp only [VRel]
        exact ⟨⟨blk, 0, cap⟩, cap, by simp [Sg.put], by simp, h1, by simp⟩
      · refine ⟨cur, (0, 0), rfl, by simp [h4], h1, (by intro hf; cases hf), ?_, rfl, rfl⟩
        intro i x hx
        rw [get_trOf] at hx
        split at hx
        · rename_i hi
          have : i = 0 := by simp at hi; exact hi
          subst this
          simp at hx; subst hx
          refine ⟨by omega, _, by simpa using h5, ?_⟩
          simp only [VRel, IE.ev]; exact ⟨z, rfl, rfl⟩
        · simp at hx
  · cases eq
end
end Go.Sx
