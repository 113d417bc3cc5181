/- The runner is sound: regions that draw their order, second half; all calls. -/
import Derived.Test.YtacbfdokeiechaaGreatDoorSxDraw
namespace Go.Sx
open Go

def Hs (l : List SH) (k : Nat) : SH := (l[k]?).getD default

section
variable {C : Cx} {ρ : Env} {W : Base}

theorem valOp_same (KV : ToldV C) {f : Nat} {all : List Oper} {o : Oper} {t : Tr SV} {h h' : SH} {v : SV} (hc : changer C.P o.op = false) (e : valOp C f all o t h = some (v, h')) : h' = h := by
  cases f with
  | zero => simp [valOp, fns] at e
  | succ f =>
    simp only [valOp_succ, valOpF, fns_call] at e
    split at e
    · cases e
    · simp at e; exact e.2.symm
    · split at e
      · rename_i hop
        obtain ⟨_, hR⟩ := opT_same KV hc hop
        simp at hR; simp at e
        rw [← e.2]; exact hR.2
      · rename_i hop
        obtain ⟨_, hR⟩ := opT_same KV hc hop
        simp at hR
      · rename_i hop
        obtain ⟨_, hR⟩ := opT_same KV hc hop
        simp at hR
      · cases e

theorem rec_ok (KV : ToldV C) {all : List Oper} {n : Nat} : ∀ {f : Nat} {rest : List Oper} {t : Tr SV} {h : SH} {rs : List Rec} {hs : List SH} {u : Tr SV} {g : SH},
    runRec C f all rest n t h = some (rs, hs, u, g) →
    rs.length = rest.length ∧ hs.length = kappa (changers C.P rest) rest.length ∧ u = TM rest rs t yes rest.length ∧ g = Hs (h :: hs) (kappa (changers C.P rest) rest.length) ∧
    ∀ i o, rest[i]? = some o → ∃ r, rs[i]? = some r ∧ r.t = TM rest rs t yes i ∧ (∀ d, o.dst = some d → d < n) ∧
      ∃ f', f' < f ∧ valOp C f' all o r.t (Hs (h :: hs) (kappa (changers C.P rest) i)) = some (r.v, Hs (h :: hs) (kappa (changers C.P rest) (i + 1)))
  | 0, _, _, _, _, _, _, _, e => by simp [runRec, fns] at e
  | f + 1, [], t, h, rs, hs, u, g, e => by
    simp only [runRec_succ, runRecF, Option.some.injEq, Prod.mk.injEq] at e
    obtain ⟨rfl, rfl, rfl, rfl⟩ := e
    exact ⟨rfl, rfl, rfl, rfl, fun i o h => by simp at h⟩
  | f + 1, o :: rest, t, h, rs, hs, u, g, e => by
    simp only [runRec_succ, runRecF, fns_valOp, fns_runRec] at e
    split at e
    · cases e
    rename_i v h' hv
    split at e
    · cases e
    rename_i t' hp
    split at e
    · cases e
    rename_i rs' hs' u' g' hr
    simp only [Option.some.injEq, Prod.mk.injEq] at e
    obtain ⟨rfl, rfl, rfl, rfl⟩ := e
    obtain ⟨i1, i2, i3, i4, i5⟩ := rec_ok KV hr
    have ht' : t' = stepT t (some o) (some ⟨t, v⟩) ∧ ∀ d, o.dst = some d → d < n := by
      simp only [stepT]
      cases hd : o.dst with
      | none => rw [hd] at hp; simp [putT] at hp; subst hp; simp
      | some d =>
        rw [hd] at hp; simp only [putT] at hp
        cases hb : Nat.blt d n with
        | false => rw [hb] at hp; cases hp
        | true => rw [hb] at hp; simp at hp; subst hp; exact ⟨rfl, fun d' h => by simp at h; subst h; exact blt_true.1 hb⟩
    have hH : ∀ k, Hs (h :: cond (changer C.P o.op) (h' :: hs') hs') (cond (changer C.P o.op) (Nat.succ k) k) = Hs (h' :: hs') k := by
      intro k
      cases hc : changer C.P o.op with
      | true => simp [Hs]
      | false => rw [valOp_same KV hc hv]; rfl
    refine ⟨by simp [i1], ?_, ?_, ?_, ?_⟩
    · simp only [changers, List.length_cons, kappa]
      cases hc : changer C.P o.op with
      | true => simp [i2]
      | false => simpa using i2
    · rw [List.length_cons, TM_cons, ← ht'.1]; exact i3
    · simp only [changers, List.length_cons, kappa]
      rw [hH]; exact i4
    · intro i o' hi
      cases i with
      | zero =>
        simp at hi; subst hi
        refine ⟨⟨t, v⟩, by simp, rfl, ht'.2, f, by omega, ?_⟩
        simp only [changers]
        rw [kappa_zero]
        have : kappa (changer C.P o.op :: changers C.P rest) (0 + 1) = cond (changer C.P o.op) (Nat.succ 0) 0 := by
          show cond _ (Nat.succ (kappa (changers C.P rest) 0)) (kappa (changers C.P rest) 0) = _
          rw [kappa_zero]
        rw [this, hH]
        exact hv
      | succ i =>
        simp at hi
        obtain ⟨r, r1, r2, r3, f', r4, r5⟩ := i5 i o' hi
        refine ⟨r, by simpa using r1, ?_, r3, f', by omega, ?_⟩
        · rw [r2, TM_cons, ← ht'.1]
        · simp only [changers]
          show valOp C f' all o' r.t (Hs _ (cond _ (Nat.succ _) _)) = some (r.v, Hs _ (cond _ (Nat.succ _) _))
          rw [hH, hH]
          exact r5

theorem same_ok {all : List Oper} {o : Oper} {r : Rec} : ∀ {f : Nat} {l : List SH}, sameAt C f all o r l = true → ∀ h ∈ l, ∃ f', f' < f ∧ ∃ h', valOp C f' all o r.t h = some (r.v, h')
  | 0, _, e, _, _ => by simp [sameAt, fns] at e
  | f + 1, [], _, h, hm => by simp at hm
  | f + 1, x :: l, e, h, hm => by
    simp only [sameAt_succ, sameAtF, fns_valOp, fns_sameAt, Bool.and_eq_true] at e
    rcases List.mem_cons.1 hm with rfl | hm
    · have e1 := e.1
      split at e1
      · rename_i v h' hv
        rw [← svEq_ok _ _ e1]
        exact ⟨f, by omega, h', hv⟩
      · cases e1
    · obtain ⟨f', h1, h2⟩ := same_ok e.2 h hm
      exact ⟨f', by omega, h2⟩

theorem sameAll_ok {all : List Oper} {ch : List Bool} {anc : List Nat} {hs : List SH} : ∀ {f : Nat} {rest : List Oper} {rs : List Rec} {as : List Nat} {i : Nat},
    sameAll C f all ch anc hs rest rs as i = true → as.length = rest.length → ∀ k o r, rest[k]? = some o → rs[k]? = some r → changer C.P o.op = false →
    ∃ f', f' < f ∧ sameAt C f' all o r (takeL (highK ch (i + k) (lenL hs - 1) ch anc 0 + 1 - lowK ch ((as[k]?).getD 0) ch 0) (dropL (lowK ch ((as[k]?).getD 0) ch 0) hs)) = true
  | 0, _, _, _, _, e, _, _, _, _, _, _, _ => by simp [sameAll, fns] at e
  | f + 1, [], _, _, _, _, _, k, o, r, h, _, _ => by simp at h
  | f + 1, x :: rest, [], as, i, e, _, _, _, _, _, h, _ => by simp at h
  | f + 1, x :: rest, y :: rs, [], i, e, hl, _, _, _, _, _, _ => by simp at hl
  | f + 1, x :: rest, y :: rs, a :: as, i, e, hl, k, o, r, h1, h2, hc => by
    simp only [sameAll_succ, sameAllF, fns_sameAt, fns_sameAll, Bool.and_eq_true, Bool.or_eq_true] at e
    cases k with
    | zero =>
      simp at h1 h2; subst h1; subst h2
      rcases e.1 with e1 | e1
      · rw [hc] at e1; cases e1
      · exact ⟨f, by omega, by simpa using e1⟩
    | succ k =>
      simp at h1 h2
      obtain ⟨f', g1, g2⟩ := sameAll_ok e.2 (by simpa using hl) k o r h1 h2 hc
      refine ⟨f', by omega, ?_⟩
      rw [show i + (k + 1) = i + 1 + k by omega]
      simpa using g2

theorem valOp_congr (KV : ToldV C) {f : Nat} {all : List Oper} {o : Oper} {t t' : Tr SV} {h : SH} (H : ∀ x, memN x (readsOf all o) = true → t.get x = t'.get x) : valOp C f all o t h = valOp C f all o t' h := by
  cases f with
  | zero => simp [valOp, fns]
  | succ f =>
    have h1 : guardS all o t = guardS all o t' := by
      unfold guardS
      cases hg : o.guard with
      | none => rfl
      | some q =>
        obtain ⟨j, want⟩ := q
        simp only
        cases hd : (getL all j).bind (·.dst) with
        | none => rfl
        | some d =>
          simp only
          rw [H d (memN_true.2 (by simp only [readsOf, hg, hd]; simp))]
    have h2 : opT C t h o.op = opT C t' h o.op := opT_congr KV fun i hi => H i (memN_true.2 (by simp only [readsOf]; exact List.mem_append_left _ hi))
    simp only [valOp_succ, valOpF, fns_call, h1, h2]

/-- What an operation does, if it may be run now. -/
def StepOk (C : Cx) (ρ : Env) (W : Base) (all : List Oper) (o : Oper) (t : Tr SV) (h : SH) (v : SV) (h' : SH) : Prop :=
  ∀ (ops : Array Oper) (σ : Sg) (a : Act) (w : World) (K : Act → World → Prop) (Q : Exit → Act → World → Prop), ops.toList = all → TRel σ ρ t a.tmps → HRel C ρ W σ h w →
  (∀ τ V w', σ.le τ → VRel τ ρ v V → HRel C ρ W τ h' w' → K (a.put o.dst V) w') →
  (if Region.wanted o (yielded ops a.tmps) then o.wp C.P a w K Q ∨ (o.asks C.P a w ∧ LetsOut Q) else K (a.put o.dst undef) w)

theorem slots_ok {all : List Oper} {m : Nat → Bool} {i : Nat} {o : Oper} (hord : orderOk all (ancs all []) all (ancs all []) 0 = true) (hm : ∀ j, m j = true → Shut all m j) (hmi : m i = false) (hsi : Shut all m i) (ho : all[i]? = some o) :
    ∀ x, (memN x (readsOf all o) = true ∨ o.dst = some x) → ∀ j, j < all.length → writes all j x → i ≠ j → (j < i → m j = true) ∧ (i < j → m j = false) := by
  have hal : (ancs all []).length = all.length := by rw [(ancs_spec (l := all) (acc := [])).1]; simp
  have hordI := order_spec hal hord hal i o ho
  simp only [Nat.zero_add] at hordI
  intro x hx j hj ⟨o', h1, h2⟩ hne
  obtain ⟨h3, h4⟩ := hordI j o' x h1 h2 hx hne
  refine ⟨fun h => Shut.bits hm hsi (h3 h), fun h => ?_⟩
  cases hc : m j with
  | false => rfl
  | true => have := Shut.bits hm (hm j hc) (h4 h); rw [hmi] at this; cases this

theorem reads_agree {all : List Oper} {rs : List Rec} {t0 : Tr SV} {m : Nat → Bool} {i : Nat} {o : Oper} (hord : orderOk all (ancs all []) all (ancs all []) 0 = true) (hm : ∀ j, m j = true → Shut all m j) (hmi : m i = false) (hsi : Shut all m i) (ho : all[i]? = some o) :
    ∀ x, memN x (readsOf all o) = true → (TM all rs t0 m all.length).get x = (TM all rs t0 yes i).get x := by
  have slots := slots_ok hord hm hmi hsi ho
  have hin : i < all.length := (List.getElem?_eq_some_iff.1 ho).1
  intro x hx
  rw [TM_past (i := i) (by omega) (fun j h1 h2 hw => by
    by_cases c : j = i
    · subst c; exact hmi
    · exact (slots x (.inl hx) j h2 hw (by omega)).2 (by omega))]
  exact TM_agree (fun j hj hw => by rw [(slots x (.inl hx) j (by omega) hw (by omega)).1 hj]; rfl)

/-- The walk through any order: the memory is told by what is listed. -/
theorem drawn_core {ops : Array Oper} {all : List Oper} {rs : List Rec} {t0 u : Tr SV} {h0 g : SH} {n : Nat} {dfs : List (FuncId × List SV)} (hall : ops.toList = all)
    (hedge : edgesDown all 0 = true) (hord : orderOk all (ancs all []) all (ancs all []) 0 = true) (hu : u = TM all rs t0 yes all.length)
    (hrec : ∀ (i : Nat) (o : Oper), all[i]? = some o → ∃ r, rs[i]? = some r ∧ ∀ d, o.dst = some d → d < n)
    (Hf : (Nat → Bool) → Option SH) (hf0 : Hf (fun _ => false) = some h0) (hfin : ∀ (m : Nat → Bool) (h : SH), (∀ j, j < all.length → m j = true) → Hf m = some h → h = g)
    (hstep : ∀ (m : Nat → Bool) (i : Nat) (o : Oper) (r : Rec) (h : SH), all[i]? = some o → rs[i]? = some r → m i = false → (∀ j, m j = true → Shut all m j) → Shut all m i → Hf m = some h →
      ∃ h', Hf (addM m i) = some h' ∧ StepOk C ρ W all o (TM all rs t0 m all.length) h r.v h')
    {σ : Sg} {a : Act} {w : World} {Q : Exit → Act → World → Prop} (ht : TRel σ ρ t0 a.tmps) (hn : a.tmps.size = n) (hd : DsRel C σ ρ dfs a.defers) (hh : HRel C ρ W σ h0 w)
    (hQ : ∀ τ a' w', σ.le τ → TRel τ ρ u a'.tmps → a'.tmps.size = n → DsRel C τ ρ dfs a'.defers → HRel C ρ W τ g w' → Q .normal a' w') :
    wpAny C.P .any ops Q ops.size (Array.replicate ops.size false) a w := by
  have hsz : ops.size = all.length := by rw [← hall]; simp
  have hget : ∀ i : Nat, ops[i]? = all[i]? := by intro i; rw [← hall, Array.getElem?_toList]
  suffices H : ∀ (fuel : Nat) (L : Array Bool) (τ : Sg) (a : Act) (w : World) (h : SH), σ.le τ → L.size = all.length →
      (∀ j, L.getD j false = true → Shut all (fun j => L.getD j false) j) → fuel + nm (fun j => L.getD j false) all.length = all.length →
      TRel τ ρ (TM all rs t0 (fun j => L.getD j false) all.length) a.tmps → a.tmps.size = n → DsRel C τ ρ dfs a.defers →
      Hf (fun j => L.getD j false) = some h → HRel C ρ W τ h w → wpAny C.P .any ops Q fuel L a w by
    have hno : ∀ j, (Array.replicate ops.size false).getD j false = false := by
      intro j; rw [Array.getD_eq_getD_getElem?]
      by_cases c : j < ops.size
      · simp [c]
      · rw [Array.getElem?_eq_none (by simp; omega)]; rfl
    have hno' : (fun j => (Array.replicate ops.size false).getD j false) = fun _ => false := funext hno
    refine H _ _ σ a w h0 (Sg.le_refl _) (by simp [hsz]) (fun j h => by rw [hno] at h; cases h) ?_ ?_ hn hd ?_ hh
    · rw [hno', hsz]
      have : ∀ k, nm (fun _ => false) k = 0 := by intro k; induction k with | zero => rfl | succ k ih => simp [nm, ih]
      rw [this]; rfl
    · rw [hno']
      have : ∀ k, TM all rs t0 (fun _ => false) k = t0 := by intro k; induction k with | zero => rfl | succ k ih => simp [TM, ih]
      rw [this]; exact ht
    · rw [hno']; exact hf0
  intro fuel
  have fin : ∀ (L : Array Bool) (τ : Sg) (a : Act) (w : World) (h : SH), σ.le τ → (∀ j, j < all.length → L.getD j false = true) →
      TRel τ ρ (TM all rs t0 (fun j => L.getD j false) all.length) a.tmps → a.tmps.size = n → DsRel C τ ρ dfs a.defers →
      Hf (fun j => L.getD j false) = some h → HRel C ρ W τ h w → Q .normal a w := by
    intro L τ a w h hle hfull ht hn hd hf hh
    refine hQ τ a w hle (fun i => ?_) hn hd ?_
    · have := ht i
      rw [TM_agree (m' := yes) (fun j hj _ => hfull j hj)] at this
      rw [hu]; exact this
    · rw [← hfin _ h hfull hf]; exact hh
  have rdy : ∀ (L : Array Bool), L.size = all.length → Region.ready .any ops L = [] → ∀ j, j < all.length → L.getD j false = true := by
    intro L hLs hr j
    induction j using Nat.strongRecOn with
    | _ j ih =>
      intro hj
      cases hc : L.getD j false with
      | true => rfl
      | false =>
        exfalso
        have hm : j ∈ Region.ready .any ops L := by
          simp only [Region.ready, List.mem_filter, List.mem_range, Bool.and_eq_true, Bool.not_eq_true']
          refine ⟨by omega, ?_, ?_⟩
          · rw [Array.getD_eq_getD_getElem?] at hc ⊢
            rw [Array.getElem?_eq_getElem (by omega)] at hc ⊢
            exact hc
          · rw [hget, List.getElem?_eq_getElem hj]
            simp only [Option.map_some, Option.getD_some]
            rw [Array.all_eq_true']
            intro x hx
            cases hb : Region.binds .any x with
            | false => rfl
            | true =>
              have hin : x.on ∈ binding all[j] := by
                simp only [binding, List.mem_map, List.mem_filter]
                exact ⟨x, ⟨by simpa using hx, hb⟩, rfl⟩
              have := edges_spec hedge j all[j] (List.getElem?_eq_getElem hj) x.on hin
              rw [ih x.on (by omega) (by omega)]; rfl
        rw [hr] at hm; simp at hm
  induction fuel with
  | zero =>
    intro L τ a w h hle hLs hshut hfu ht hn hd hf hh
    have hfull := nm_full (show nm (fun j => L.getD j false) all.length = all.length by omega)
    refine ⟨?_, fin L τ a w h hle hfull ht hn hd hf hh⟩
    simp only [Region.ready, List.filter_eq_nil_iff, List.mem_range]
    intro i hi
    have := hfull i (by omega)
    rw [Array.getD_eq_getD_getElem?, Array.getElem?_eq_getElem (by omega)] at this
    rw [Array.getD_eq_getD_getElem?, Array.getElem?_eq_getElem (by omega)]
    simp at this ⊢
    simp [this]
  | succ fuel ih =>
    intro L τ a w h hle hLs hshut hfu ht hn hd hf hh
    refine ⟨fun hr => fin L τ a w h hle (rdy L hLs hr) ht hn hd hf hh, ?_⟩
    intro i hi
    simp only [Region.ready, List.mem_filter, List.mem_range, Bool.and_eq_true, Bool.not_eq_true'] at hi
    obtain ⟨hin, hnot, hbefore⟩ := hi
    rw [hsz] at hin
    obtain ⟨o, ho⟩ : ∃ o, all[i]? = some o := ⟨all[i], List.getElem?_eq_getElem hin⟩
    rw [hget, ho] at hbefore
    simp only [Option.map_some, Option.getD_some] at hbefore
    rw [Array.all_eq_true'] at hbefore
    have hL' : (fun j => (L.setIfInBounds i true).getD j false) = addM (fun j => L.getD j false) i := by
      funext j
      simp only [addM, Array.getD_eq_getD_getElem?, Array.getElem?_setIfInBounds]
      by_cases c : j = i
      · subst c; rw [if_pos rfl, if_pos (by omega), if_pos rfl]; rfl
      · rw [if_neg (Ne.symm c), if_neg c]
    have hmi : (fun j => L.getD j false) i = false := by
      simp only
      rw [Array.getD_eq_getD_getElem?] at hnot ⊢
      rw [Array.getElem?_eq_getElem (by omega)] at hnot ⊢
      exact hnot
    have hsi : Shut all (fun j => L.getD j false) i := by
      intro o' ho' e he
      rw [ho] at ho'; simp at ho'; subst ho'
      simp only [binding, List.mem_map, List.mem_filter] at he
      obtain ⟨x, ⟨hx, hb⟩, rfl⟩ := he
      have := hbefore x (by simpa using hx)
      rw [hb] at this
      simpa using this
    replace hshut : ∀ j, (fun j => L.getD j false) j = true → Shut all (fun j => L.getD j false) j := hshut
    generalize hm : (fun j => L.getD j false) = m at *
    obtain ⟨r, hr1, hr3⟩ := hrec i o ho
    have slots := slots_ok hord hshut hmi hsi ho
    obtain ⟨h', hf', hst⟩ := hstep m i o r h ho hr1 hmi hshut hsi hf
    unfold wpOp
    rw [hget, ho]
    refine hst ops τ a w _ Q hall ht hh ?_
    intro υ V w' hle' hV hh'
    refine ih (L.setIfInBounds i true) υ (a.put o.dst V) w' h' (Sg.le_trans hle hle') (by simpa using hLs) ?_ ?_ ?_ ?_ ?_ ?_ hh'
    · rw [hL']
      intro j hj o' ho' e he
      have hmono : ∀ x, m x = true → addM m i x = true := by intro x hx; simp only [addM]; split <;> simp [hx]
      by_cases c : j = i
      · subst c; exact hmono _ (hsi o' ho' e he)
      · have hj' : addM m i j = true := by rw [← hL']; exact hj
        have : m j = true := by simpa [addM, c] using hj'
        exact hmono _ (hshut j this o' ho' e he)
    · rw [hL', nm_add hmi hin]; omega
    · rw [hL']
      intro x
      have agree : ∀ x, o.dst ≠ some x → (TM all rs t0 (addM m i) all.length).get x = (TM all rs t0 m all.length).get x := by
        intro x hx
        refine TM_agree (fun j hj hw => ?_)
        have : j ≠ i := by rintro rfl; obtain ⟨o', h1, h2⟩ := hw; rw [ho] at h1; simp at h1; subst h1; exact hx h2
        simp [addM, this]
      have write : ∀ x, o.dst = some x → (TM all rs t0 (addM m i) all.length).get x = some r.v := by
        intro x hx
        rw [TM_past (i := i + 1) (by omega) (fun j h1 h2 hw => by
          have := (slots x (.inr hx) j h2 hw (by omega)).2 (by omega)
          simp [addM, this]; omega)]
        exact TM_write (by simp [addM]) ho hr1 hx
      cases hd : o.dst with
      | none => rw [agree x (by rw [hd]; simp)]; exact (ht.mono hle') x
      | some d =>
        simp only [Act.put, Array.getD_eq_getD_getElem?]
        by_cases c : x = d
        · subst c
          rw [write x hd, Array.getElem?_setIfInBounds, if_pos rfl, if_pos (by rw [hn]; exact hr3 x hd)]
          exact hV
        · rw [agree x (by rw [hd]; exact fun h => c (Option.some.inj h).symm), Array.getElem?_setIfInBounds, if_neg (Ne.symm c)]
          have := (ht.mono hle') x
          rwa [Array.getD_eq_getD_getElem?] at this
    · cases o.dst with
      | none => exact hn
      | some d => simpa [Act.put] using hn
    · rw [put_defers]; exact hd.mono hle'
    · rw [hL']; exact hf'

/-- Where two changers stand in the text the one behind stands behind in each order, too. -/
theorem chain_prefix {all : List Oper} {ch : List Bool} {m : Nat → Bool} {i : Nat} (hlen : ch.length = all.length) (hchain : chainOk ch ch (ancs all []) 0 = true) (hm : ∀ j, m j = true → Shut all m j) (hmi : m i = false) (hsi : Shut all m i) :
    (at' ch i = true → cm ch m all.length = kappa ch i) ∧
    lowK ch (((ancs all [])[i]?).getD 0) ch 0 ≤ cm ch m all.length ∧
    ∀ top, cm ch m all.length ≤ top → cm ch m all.length ≤ highK ch i top ch (ancs all []) 0 := by
  have hal : (ancs all []).length = ch.length := by rw [(ancs_spec (l := all) (acc := [])).1, hlen]; simp
  have hchL : ∀ {i : Nat}, at' ch i = true → i < all.length := by
    intro i h
    by_cases c : i < all.length
    · exact c
    · simp [at', List.getElem?_eq_none (show ch.length ≤ i by omega)] at h
  have bitsI : ∀ b, Nat.testBit (((ancs all [])[i]?).getD 0) b = true → m b = true := fun b hb => Shut.bits hm hsi hb
  have bitsJ : ∀ j b, m j = true → Nat.testBit (((ancs all [])[j]?).getD 0) b = true → m b = true := fun j b hj hb => Shut.bits hm (hm j hj) hb
  refine ⟨fun hc => ?_, ?_, fun top htop => ?_⟩
  · have hin := hchL hc
    rw [cm_stop (k := i) (by omega) (fun j h1 h2 h3 => by
      by_cases c : j = i
      · subst c; exact hmi
      · have hb := chain_spec hchain hal j h3 i (by omega) hc
        cases hmj : m j with
        | false => rfl
        | true => have := bitsJ j i hmj hb; rw [hmi] at this; cases this)]
    exact cm_all (fun j h1 h2 => bitsI j (chain_spec hchain hal i hc j (by omega) h2))
  · refine low_spec (fun l h1 h2 => ?_)
    rw [Nat.zero_add] at h2 ⊢
    have hml := bitsI l h2
    have := cm_mono (ch := ch) (m := m) (show l + 1 ≤ all.length from hchL h1)
    rw [cm_all (k := l + 1) (fun j h3 h4 => by
      by_cases c : j = l
      · subst c; exact hml
      · exact bitsJ l j hml (chain_spec hchain hal l h1 j (by omega) h4)), kappa_succ, h1] at this
    simpa using this
  · refine high_spec htop (fun l h1 h2 => ?_)
    rw [Nat.zero_add]
    have hml : m l = false := by
      cases hc : m l with
      | false => rfl
      | true => have := bitsJ l i hc h2; rw [hmi] at this; cases this
    rw [cm_stop (k := l) (Nat.le_of_lt (hchL h1)) (fun j h3 h4 h5 => by
      by_cases c : j = l
      · subst c; exact hml
      · cases hc : m j with
        | false => rfl
        | true => have := bitsJ j l hc (chain_spec hchain hal j h5 l (by omega) h1); rw [hml] at this; cases this)]
    exact cm_le

theorem drawn_step (KV : ToldV C) {f : Nat} (hv : ∀ f', f' ≤ f → ValOk C ρ W f') : DrawnOk C ρ W (f + 1) := by
  intro ops s s' e σ a w Q hs hQ
  simp only [drawn_succ, drawnF, fns_runRec, fns_sameAll] at e
  generalize hall : ops.toList = all at e
  generalize hch : changers C.P all = ch at e
  have e0 := bif_some e
  have eg : (edgesDown all 0 && orderOk all (ancs all []) all (ancs all []) 0 && chainOk ch ch (ancs all []) 0) = true := by
    cases hc : (edgesDown all 0 && orderOk all (ancs all []) all (ancs all []) 0 && chainOk ch ch (ancs all []) 0) with
    | true => rfl
    | false => rw [hc] at e; cases e
  simp only [Bool.and_eq_true] at eg
  obtain ⟨⟨hedge, hord⟩, hchain⟩ := eg
  clear e
  split at e0
  · cases e0
  rename_i rs hs' u g hrec
  have esame : sameAll C f all ch (ancs all []) (s.h :: hs') all rs (ancs all []) 0 = true := by
    cases hc : sameAll C f all ch (ancs all []) (s.h :: hs') all rs (ancs all []) 0 with
    | true => rfl
    | false => rw [hc] at e0; cases e0
  have e1 := bif_some e0
  simp only [Option.some.injEq] at e1
  subst e1
  obtain ⟨l1, l2, l3, l4, l5⟩ := rec_ok KV hrec
  rw [hch] at l2 l4 l5
  have hal : (ancs all []).length = all.length := by rw [(ancs_spec (l := all) (acc := [])).1]; simp
  have hcl : ch.length = all.length := by rw [← hch, changers_len]
  have hchA : ∀ {i : Nat} {o : Oper}, all[i]? = some o → at' ch i = changer C.P o.op := by intro i o h; rw [← hch]; exact changers_at h
  have hzero : cm ch (fun _ => false) all.length = 0 := by
    have : ∀ k, cm ch (fun _ => false) k = 0 := by intro k; induction k with | zero => rfl | succ k ih => simp [cm, ih]
    exact this _
  refine drawn_core (u := u) (g := g) (h0 := s.h) hall hedge hord l3 (fun i o ho => let ⟨r, h1, _, h3, _⟩ := l5 i o ho; ⟨r, h1, h3⟩) (fun m => some (Hs (s.h :: hs') (cm ch m all.length))) ?_ ?_ ?_ hs.tm hs.n hs.df hs.h
    (fun τ a' w' h1 h2 h3 h4 h5 => hQ τ a' w' h1 ⟨h2, h3, h4, h5⟩)
  · rw [hzero]; rfl
  · intro m h hfull hh
    rw [cm_all (fun j hj _ => hfull j hj)] at hh
    rw [l4]; exact (Option.some.inj hh).symm
  · intro m i o r h ho hr1 hmi hm hsi hf
    obtain rfl := (Option.some.inj hf).symm
    have hin : i < all.length := (List.getElem?_eq_some_iff.1 ho).1
    obtain ⟨r', hr1', hr2, hr3, f', hf', hval⟩ := l5 i o ho
    obtain rfl := Option.some.inj (hr1.symm.trans hr1')
    have reads := reads_agree (rs := rs) (t0 := s.tmps) hord hm hmi hsi ho
    rw [← hr2] at reads
    obtain ⟨pre1, pre2, pre3⟩ := chain_prefix hcl hchain hm hmi hsi
    refine ⟨_, rfl, ?_⟩
    have key : ∃ f'', f'' ≤ f ∧ valOp C f'' all o (TM all rs s.tmps m all.length) (Hs (s.h :: hs') (cm ch m all.length)) = some (r.v, Hs (s.h :: hs') (cm ch (addM m i) all.length)) := by
      rw [cm_add hmi]
      cases hc : at' ch i with
      | true =>
        refine ⟨f', by omega, ?_⟩
        rw [valOp_congr KV reads, pre1 hc]
        rw [kappa_succ, hc] at hval
        simpa [hin] using hval
      | false =>
        have hnc : changer C.P o.op = false := by rw [← hchA ho]; exact hc
        obtain ⟨f2, g1, g2⟩ := sameAll_ok esame hal i o r ho hr1 hnc
        rw [Nat.zero_add] at g2
        have htop : cm ch m all.length ≤ hs'.length := by rw [l2]; exact cm_le
        have hhi := pre3 (lenL (s.h :: hs') - 1) (by simpa using htop)
        have hmem : Hs (s.h :: hs') (cm ch m all.length) ∈ takeL (highK ch i (lenL (s.h :: hs') - 1) ch (ancs all []) 0 + 1 - lowK ch (((ancs all [])[i]?).getD 0) ch 0) (dropL (lowK ch (((ancs all [])[i]?).getD 0) ch 0) (s.h :: hs')) := by
          generalize highK ch i (lenL (s.h :: hs') - 1) ch (ancs all []) 0 = hi at *
          generalize lowK ch (((ancs all [])[i]?).getD 0) ch 0 = lo at *
          rw [takeL_eq, dropL_eq]
          refine List.mem_of_getElem? (i := cm ch m all.length - lo) ?_
          rw [List.getElem?_take, if_pos (by omega), List.getElem?_drop, show lo + (cm ch m all.length - lo) = cm ch m all.length by omega]
          have hlt : cm ch m all.length < (s.h :: hs').length := by simp; omega
          unfold Hs
          rw [List.getElem?_eq_getElem hlt]; rfl
        obtain ⟨f3, g3, h', g4⟩ := same_ok g2 _ hmem
        refine ⟨f3, by omega, ?_⟩
        rw [valOp_congr KV reads]
        have hsm := valOp_same KV hnc g4
        rw [hsm] at g4
        simpa using g4
    obtain ⟨f'', hf'', hval'⟩ := key
    exact hv f'' hf'' all o _ _ _ _ hval'

end
end Go.Sx
