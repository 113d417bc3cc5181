/- Tables that are listed with what they hold: what they say of the memory. -/
import Derived.Test.YtacbfdokeiechaaGreatDoorSxDrawA
import Derived.ProofKit
import Derived.OpenShut
import Derived.LaidMore
import Derived.ChangeSame
import Derived.Below
namespace Go.Sx
open Go Go.ChangeShapes Go.RowKit

def ints (k : IntKind) (l : List Nat) : List SV := l.map fun (n : Nat) => SV.int k (.lit (Int.ofNat n))

section
variable {P : Program} {w : World} {σ : Sg} {ρ : Env} {t e : TypeId} {k : IntKind} {m fuel : Nat} {cs : List Value}

theorem vrel_int (n : Nat) : VRel σ ρ (SV.int k (.lit (Int.ofNat n))) (.int k (n : Int)) := by
  simp only [VRel]; exact ⟨_, rfl, rfl⟩

theorem rows_of_ints {l : List Nat} {p : List MemPlace} (ht : P.underlying t = some (.array m e)) (he : P.underlying e = some (.int k)) (hc : P.cellsOf e = 1) (hct : P.cellsOf t = m)
    (hd : DataW.trod (fun _ => ()) P w 0 (fun _ => true) false fuel t cs = some (.agg (l.map fun (n : Nat) => .lit (.int k n)), p)) : VRels σ ρ (ints k l) cs := by
  obtain ⟨xs, f, _, ex, hl, hn, hel⟩ := DataW.trod_array ht hd
  have e3 : (l.map fun (n : Nat) => (DataW.lit (.int k n) : DataW Unit)) = xs.map (·.1) := DataW.agg.inj (Prod.mk.inj ex).1
  have hll : l.length = m := by have := congrArg List.length e3; simpa [hn] using this
  refine VRels.of_get (by simp [ints, hll, hl, hct]) (fun i v V h1 h2 => ?_)
  have hi : i < m := by
    have := (List.getElem?_eq_some_iff.1 h2).1; omega
  have hE := hel i hi
  rw [hc, Nat.mul_one, List.getElem?_eq_getElem (by omega)] at hE
  obtain ⟨z, c1, c2, _⟩ := DataW.trod_int he hE
  have h3 := congrArg (fun q => q[i]?) e3
  simp only [List.getElem?_map, List.getElem?_eq_getElem (show i < l.length by omega), List.getElem?_eq_getElem (show i < xs.length by omega), c2, Option.map_some, Option.some.injEq, DataW.lit.injEq, Lit.int.injEq, true_and] at h3
  simp only [ints, List.getElem?_map, List.getElem?_eq_getElem (show i < l.length by omega), Option.map_some, Option.some.injEq] at h1
  have h4 : V = .int k z := by
    have : ((cs.drop i).take 1)[0]? = some (.int k z) := by rw [c1]; rfl
    simp at this
    rw [this] at h2; exact (Option.some.inj h2).symm
  subst h1; subst h4
  rw [← h3]
  exact vrel_int _

theorem rows_of_pairs {l : List (Nat × Nat)} {p : List MemPlace} {f0 f1 : Field} {u : TypeId} (ht : P.underlying t = some (.array m e)) (he : P.underlying e = some (.struct #[f0, f1])) (h0 : f0.type = u) (h1 : f1.type = u) (o0 : f0.offset = 0) (o1 : f1.offset = 1)
    (hu : P.underlying u = some (.int k)) (hcu : P.cellsOf u = 1) (hc : P.cellsOf e = 2) (hct : P.cellsOf t = m * 2)
    (hd : DataW.trod (fun _ => ()) P w 0 (fun _ => true) false fuel t cs = some (.agg (l.map fun (x : Nat × Nat) => .agg [.lit (.int k x.1), .lit (.int k x.2)]), p)) : VRels σ ρ (ints k (l.flatMap fun x => [x.1, x.2])) cs := by
  obtain ⟨xs, f, _, ex, hl, hn, hel⟩ := DataW.trod_array ht hd
  have e3 : (l.map fun (x : Nat × Nat) => (DataW.agg [.lit (.int k x.1), .lit (.int k x.2)] : DataW Unit)) = xs.map (·.1) := DataW.agg.inj (Prod.mk.inj ex).1
  have hll : l.length = m := by have := congrArg List.length e3; simpa [hn] using this
  clear hd ht ex
  rw [hct] at hl
  clear hct
  induction l generalizing m xs cs with
  | nil =>
    simp at hll; subst hll
    have : cs = [] := by cases cs <;> simp_all
    subst this; simp [ints, VRels]
  | cons x l ih =>
    obtain ⟨a, b⟩ := x
    simp at hll; subst hll
    match xs, e3, hn with
    | y :: ys, e3, hn =>
      simp only [List.map_cons, List.cons.injEq] at e3
      obtain ⟨e4, e5⟩ := e3
      have hE := hel 0 (by omega)
      rw [hc, Nat.zero_mul, List.drop_zero] at hE
      simp only [List.getElem?_cons_zero] at hE
      obtain ⟨y0, y1, n, g1, g2, g3, g4⟩ := trod_struct2 he hE
      rw [h0, o0, hcu] at g3
      rw [h1, o1, hcu] at g4
      obtain ⟨z0, c0, d0, _⟩ := DataW.trod_int hu g3
      obtain ⟨z1, c1, d1, _⟩ := DataW.trod_int hu g4
      subst g1
      simp only [d0, d1, DataW.agg.injEq, List.cons.injEq, DataW.lit.injEq, Lit.int.injEq, true_and, and_true] at e4
      obtain ⟨rfl, rfl⟩ := e4
      match cs, hl, c0, c1, hel with
      | u0 :: u1 :: cs, hl, c0, c1, hel =>
        simp at c0 c1
        subst c0; subst c1
        have hrec := ih (m := l.length) (cs := cs) ys (by simp at hl; omega) (by simpa using hn) (fun i hi => by
          have := hel (i + 1) (by omega)
          rw [hc] at this ⊢
          rw [show (i + 1) * 2 = i * 2 + 1 + 1 by omega] at this
          simpa using this) e5 rfl
        show VRels σ ρ (SV.int k (.lit (Int.ofNat a)) :: SV.int k (.lit (Int.ofNat b)) :: ints k (l.flatMap fun x => [x.1, x.2])) (.int k (a : Int) :: .int k (b : Int) :: cs)
        simp only [VRels]
        exact ⟨_, _, rfl, vrel_int a, _, _, rfl, vrel_int b, hrec⟩
      | [], hl, _, _, _ => simp at hl
      | [_], hl, _, _, _ => simp at hl; omega
end

theorem brel_row {σ : Sg} {ρ : Env} {l : List SV} {c : Array Value} {b e : Nat} (h : VRels σ ρ l c.toList) :
    BRel σ ρ ⟨b, 0, c.size⟩ (.cells (trOf l 0 .nil) l.length e false .clean) (.cells c e (0, 0)) := by
  have hl : l.length = c.size := by rw [h.length, Array.length_toList]
  refine ⟨c, (0, 0), rfl, by simp, by simp [hl], fun _ => ⟨by simp [hl], rfl⟩, fun i x hx => ?_, rfl, rfl⟩
  rw [get_trOf] at hx
  split at hx
  · rename_i hi
    obtain ⟨V, h1, h2⟩ := h.get hx
    rw [Nat.sub_zero, Array.getElem?_toList] at h1
    exact ⟨by omega, V, by simpa using h1, h2⟩
  · simp at hx

/-- What a law leaves: nothing that stood has turned. -/
theorem HRel.below {C : Cx} {ρ : Env} {W : World} {σ : Sg} {h : SH} {w : World} (r : HRel C ρ (Base.plain W) σ h w) : Below W.heap.size W w :=
  ⟨r.os, r.tape, r.output, r.size, r.base⟩

section
open Go.RowKit Go.WideShapes
variable {H : Type} {enc : TypeId × Value → H} {P : Program}
theorem post_of_below {f : Func} {s : ChangeSpec} {apart fresh handsOn again : Bool} {W W' : World} {args : Array Value} {v : Value} {ds gs : List (DataW H)} {before pa pv : List MemPlace}
    (hW : DataW.Whole enc P f.params.toList s.vars apart W args.toList ds gs before)
    (hres : ∀ (b : Nat) (sp : Nat → Bool) (hd : Bool), DataW.TrodAll enc P W' b sp hd f.resultTypes.toList (v.resultList f.resultTypes.size) (s.fn H (ds ++ gs)).results [])
    (hargs : ∀ sp : Nat → Bool, (∀ p ∈ before, sp p.block = true) → DataW.TrodAll enc P W' 0 sp true f.params.toList args.toList (s.fn H (ds ++ gs)).args pa)
    (hvars : ∀ sp : Nat → Bool, (∀ p ∈ before, sp p.block = true) → DataW.TrodVars enc P W' sp s.vars (s.fn H (ds ++ gs)).vars pv)
    (hps : before = pa ++ pv) (hb : Below W.heap.size W W')
    (hok : ∀ (j : Nat) (t : TypeId) (r : Value), f.resultTypes[j]? = some t → (v.resultList f.resultTypes.size)[j]? = some r → Value.okWide P W' .any 0 t r) :
    s.post enc P f apart fresh handsOn again W args v W' := by
  have hlt : ∀ p ∈ before, p.block < W.heap.size := fun p hp => hW.lt p hp
  have hold : ∀ p ∈ before, (fun b => decide (b < W.heap.size)) p.block = true := fun p hp => by simpa using hlt p hp
  refine ⟨ds, gs, before, [], pa, pv, hW, hres _ _ _, hargs _ hold, hvars _ hold, World.keptBut_mono (fun p hp => ⟨hp, ?_⟩) (hb.frame (· ∈ before)), fun _ => ?_⟩
  · rw [hps, List.mem_append] at hp
    exact Or.inr hp
  · obtain ⟨_, _, _, _, _, hz, hn⟩ := hW
    refine ⟨hok, _, _, ([] ++ pa) ++ pv, ⟨[] ++ pa, pv, trodAll_append (hargs _ (fun _ _ => rfl)) (hres _ _ _), hvars _ (fun _ _ => rfl), rfl, ?_, ?_⟩, ?_⟩
    · intro b off hp
      have hin : MemPlace.cell b off ∈ before := by rw [hps]; simpa using hp
      rw [hb.frozen (hlt _ hin)]
      exact hz b off hin
    · intro ha
      have := hn ha
      rw [hps] at this
      simpa using this
    · intro p hp _
      rw [hps]
      simpa using hp
/-- All arguments read as they did. -/
theorem args_stay (hl : laidOutB P = true) {W W' : World} {sp : Nat → Bool} : ∀ {ts : List TypeId} {vs : List Value} {ds : List (DataW H)} {ps : List MemPlace}, (ts.all fun t => P.readableRec t && decide (t < P.types.size)) = true →
    DataW.TrodAll enc P W 0 (fun _ => true) true ts vs ds ps → (∀ x ∈ ps, W.sameAt W' x) → (∀ x ∈ ps, sp x.block = true) → DataW.TrodAll enc P W' 0 sp true ts vs ds ps
  | [], [], [], ps, _, h, _, _ => by simp only [DataW.TrodAll] at h ⊢; exact h
  | t :: ts, v :: vs, d :: ds, ps, ha, h, h1, h2 => by
    simp only [DataW.TrodAll] at h ⊢
    obtain ⟨p, q, ht, hr, rfl⟩ := h
    simp only [List.all_cons, Bool.and_eq_true, decide_eq_true_eq] at ha
    exact ⟨p, q, WideElems.Trod_stays hl ha.1.1 ha.1.2 ht (fun x hx => h1 x (List.mem_append_left _ hx)) (fun x hx => h2 x (List.mem_append_left _ hx)),
      args_stay hl ha.2 hr (fun x hx => h1 x (List.mem_append_right _ hx)) (fun x hx => h2 x (List.mem_append_right _ hx)), rfl⟩
  | [], [], _ :: _, _, _, h, _, _ => by simp [DataW.TrodAll] at h
  | [], _ :: _, _, _, _, h, _, _ => by simp [DataW.TrodAll] at h
  | _ :: _, [], _, _, _, h, _, _ => by simp [DataW.TrodAll] at h
  | _ :: _, _ :: _, [], _, _, h, _, _ => by simp [DataW.TrodAll] at h

/-- The row's last step of a law that returns true and leaves all that stood: whatever its arguments are. -/
theorem post_true {f : Func} {s : ChangeSpec} {apart fresh handsOn again : Bool} {W W' : World} {args : Array Value} {ds gs : List (DataW H)} {before : List MemPlace} {tb : TypeId} (hl : laidOutB P = true)
    (hr : (f.params.toList.all fun t => P.readableRec t && decide (t < P.types.size)) = true) (htb : P.underlying tb = some .bool) (hres : f.resultTypes = #[tb]) (hv : s.vars = [])
    (hW : DataW.Whole enc P f.params.toList s.vars apart W args.toList ds gs before) (hs1 : (s.fn H ds).results = [.lit (.bool true)]) (hs2 : (s.fn H ds).args = ds) (hs3 : (s.fn H ds).vars = []) (hb : Below W.heap.size W W') :
    s.post enc P f apart fresh handsOn again W args (.bool true) W' := by
  have hW' := hW
  obtain ⟨p, q, hA, hV, rfl, _, _⟩ := hW'
  rw [hv] at hV
  obtain ⟨rfl, rfl⟩ : gs = [] ∧ q = [] := by
    cases gs with
    | nil => exact ⟨rfl, hV⟩
    | cons g gs => simp [DataW.TrodVars] at hV
  have hlt : ∀ x ∈ p ++ [], x.block < W.heap.size := fun x hx => hW.lt x hx
  refine post_of_below (pa := p) (pv := []) hW ?_ ?_ ?_ rfl hb ?_
  · intro b sp hd
    rw [List.append_nil, hs1, hres]
    exact (trodAll_cons_mk (shut_bool htb _) trodAll_mk0)
  · intro sp hsp
    rw [List.append_nil, hs2]
    exact args_stay hl hr hA (fun x hx => hb.same (hlt x (List.mem_append_left _ hx))) (fun x hx => hsp x (List.mem_append_left _ hx))
  · intro sp _
    rw [hv, List.append_nil, hs3]
    rfl
  · exact ok_one hres rfl (okWide_bool_mk htb _)
end
end Go.Sx
