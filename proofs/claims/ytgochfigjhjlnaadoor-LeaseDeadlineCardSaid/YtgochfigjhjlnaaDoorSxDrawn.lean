/- The runner is sound: regions that draw their order, second half; all calls. -/
import Derived.Test.YtgochfigjhjlnaaDoorSxDraw
namespace Go.Sx
open Go

def Hs (l : List SH) (k : Nat) : SH := (l[k]?).getD default

section
variable {C : Cx} {ρ : Env} {W : World}

theorem valOp_same {f : Nat} {all : List Oper} {o : Oper} {t : Tr SV} {h h' : SH} {v : SV} (hc : changer C.P o.op = false) (e : valOp C f all o t h = some (v, h')) : h' = h := by
  cases f with
  | zero => simp [valOp] at e
  | succ f =>
    simp only [valOp] at e
    split at e
    · cases e
    · simp at e; exact e.2.symm
    · split at e
      · rename_i hop
        obtain ⟨_, hR⟩ := op_same hc hop
        simp at hR; simp at e
        rw [← e.2]; exact hR.2
      · rename_i hop
        obtain ⟨_, hR⟩ := op_same hc hop
        simp at hR
      · rename_i hop
        obtain ⟨_, hR⟩ := op_same hc hop
        simp at hR
      · cases e

theorem rec_ok {all : List Oper} {n : Nat} : ∀ {f : Nat} {rest : List Oper} {t : Tr SV} {h : SH} {rs : List Rec} {hs : List SH} {u : Tr SV} {g : SH},
    runRec C f all rest n t h = some (rs, hs, u, g) →
    rs.length = rest.length ∧ hs.length = kappa (changers C.P rest) rest.length ∧ u = TM rest rs t yes rest.length ∧ g = Hs (h :: hs) (kappa (changers C.P rest) rest.length) ∧
    ∀ i o, rest[i]? = some o → ∃ r, rs[i]? = some r ∧ r.t = TM rest rs t yes i ∧ (∀ d, o.dst = some d → d < n) ∧
      ∃ f', f' < f ∧ valOp C f' all o r.t (Hs (h :: hs) (kappa (changers C.P rest) i)) = some (r.v, Hs (h :: hs) (kappa (changers C.P rest) (i + 1)))
  | 0, _, _, _, _, _, _, _, e => by simp [runRec] at e
  | f + 1, [], t, h, rs, hs, u, g, e => by
    simp only [runRec, Option.some.injEq, Prod.mk.injEq] at e
    obtain ⟨rfl, rfl, rfl, rfl⟩ := e
    exact ⟨rfl, rfl, rfl, rfl, fun i o h => by simp at h⟩
  | f + 1, o :: rest, t, h, rs, hs, u, g, e => by
    simp only [runRec] at e
    split at e
    · cases e
    rename_i v h' hv
    split at e
    · cases e
    rename_i t' hp
    split at e
    · cases e
    rename_i rs' hs' u' g' hr
    simp only [Option.some.injEq, Prod.mk.injEq] at e
    obtain ⟨rfl, rfl, rfl, rfl⟩ := e
    obtain ⟨i1, i2, i3, i4, i5⟩ := rec_ok hr
    have ht' : t' = stepT t (some o) (some ⟨t, v⟩) ∧ ∀ d, o.dst = some d → d < n := by
      simp only [stepT]
      cases hd : o.dst with
      | none => rw [hd] at hp; simp [putT] at hp; subst hp; simp
      | some d =>
        rw [hd] at hp; simp only [putT] at hp
        cases hb : Nat.blt d n with
        | false => rw [hb] at hp; cases hp
        | true => rw [hb] at hp; simp at hp; subst hp; exact ⟨rfl, fun d' h => by simp at h; subst h; exact blt_true.1 hb⟩
    have hH : ∀ k, Hs (h :: cond (changer C.P o.op) (h' :: hs') hs') (cond (changer C.P o.op) (Nat.succ k) k) = Hs (h' :: hs') k := by
      intro k
      cases hc : changer C.P o.op with
      | true => simp [Hs]
      | false => rw [valOp_same hc hv]; rfl
    refine ⟨by simp [i1], ?_, ?_, ?_, ?_⟩
    · simp only [changers, List.length_cons, kappa]
      cases hc : changer C.P o.op with
      | true => simp [i2]
      | false => simpa using i2
    · rw [List.length_cons, TM_cons, ← ht'.1]; exact i3
    · simp only [changers, List.length_cons, kappa]
      rw [hH]; exact i4
    · intro i o' hi
      cases i with
      | zero =>
        simp at hi; subst hi
        refine ⟨⟨t, v⟩, by simp, rfl, ht'.2, f, by omega, ?_⟩
        simp only [changers]
        rw [kappa_zero]
        have : kappa (changer C.P o.op :: changers C.P rest) (0 + 1) = cond (changer C.P o.op) (Nat.succ 0) 0 := by
          show cond _ (Nat.succ (kappa (changers C.P rest) 0)) (kappa (changers C.P rest) 0) = _
          rw [kappa_zero]
        rw [this, hH]
        exact hv
      | succ i =>
        simp at hi
        obtain ⟨r, r1, r2, r3, f', r4, r5⟩ := i5 i o' hi
        refine ⟨r, by simpa using r1, ?_, r3, f', by omega, ?_⟩
        · rw [r2, TM_cons, ← ht'.1]
        · simp only [changers]
          show valOp C f' all o' r.t (Hs _ (cond _ (Nat.succ _) _)) = some (r.v, Hs _ (cond _ (Nat.succ _) _))
          rw [hH, hH]
          exact r5

theorem same_ok {all : List Oper} {o : Oper} {r : Rec} : ∀ {f : Nat} {l : List SH}, sameAt C f all o r l = true → ∀ h ∈ l, ∃ f', f' < f ∧ ∃ h', valOp C f' all o r.t h = some (r.v, h')
  | 0, _, e, _, _ => by simp [sameAt] at e
  | f + 1, [], _, h, hm => by simp at hm
  | f + 1, x :: l, e, h, hm => by
    simp only [sameAt, Bool.and_eq_true] at e
    rcases List.mem_cons.1 hm with rfl | hm
    · have e1 := e.1
      split at e1
      · rename_i v h' hv
        rw [← svEq_ok _ _ e1]
        exact ⟨f, by omega, h', hv⟩
      · cases e1
    · obtain ⟨f', h1, h2⟩ := same_ok e.2 h hm
      exact ⟨f', by omega, h2⟩

theorem sameAll_ok {all : List Oper} {ch : List Bool} {anc : List Nat} {hs : List SH} : ∀ {f : Nat} {rest : List Oper} {rs : List Rec} {as : List Nat} {i : Nat},
    sameAll C f all ch anc hs rest rs as i = true → as.length = rest.length → ∀ k o r, rest[k]? = some o → rs[k]? = some r → changer C.P o.op = false →
    ∃ f', f' < f ∧ sameAt C f' all o r (takeL (highK ch (i + k) (lenL hs - 1) ch anc 0 + 1 - lowK ch ((as[k]?).getD 0) ch 0) (dropL (lowK ch ((as[k]?).getD 0) ch 0) hs)) = true
  | 0, _, _, _, _, e, _, _, _, _, _, _, _ => by simp [sameAll] at e
  | f + 1, [], _, _, _, _, _, k, o, r, h, _, _ => by simp at h
  | f + 1, x :: rest, [], as, i, e, _, _, _, _, _, h, _ => by simp at h
  | f + 1, x :: rest, y :: rs, [], i, e, hl, _, _, _, _, _, _ => by simp at hl
  | f + 1, x :: rest, y :: rs, a :: as, i, e, hl, k, o, r, h1, h2, hc => by
    simp only [sameAll, Bool.and_eq_true, Bool.or_eq_true] at e
    cases k with
    | zero =>
      simp at h1 h2; subst h1; subst h2
      rcases e.1 with e1 | e1
      · rw [hc] at e1; cases e1
      · exact ⟨f, by omega, by simpa using e1⟩
    | succ k =>
      simp at h1 h2
      obtain ⟨f', g1, g2⟩ := sameAll_ok e.2 (by simpa using hl) k o r h1 h2 hc
      refine ⟨f', by omega, ?_⟩
      rw [show i + (k + 1) = i + 1 + k by omega]
      simpa using g2

theorem valOp_congr {f : Nat} {all : List Oper} {o : Oper} {t t' : Tr SV} {h : SH} (H : ∀ x, memN x (readsOf all o) = true → t.get x = t'.get x) : valOp C f all o t h = valOp C f all o t' h := by
  cases f with
  | zero => simp [valOp]
  | succ f =>
    have h1 : guardS all o t = guardS all o t' := by
      unfold guardS
      cases hg : o.guard with
      | none => rfl
      | some q =>
        obtain ⟨j, want⟩ := q
        simp only
        cases hd : (getL all j).bind (·.dst) with
        | none => rfl
        | some d =>
          simp only
          rw [H d (memN_true.2 (by simp only [readsOf, hg, hd]; simp))]
    have h2 : op C t h o.op = op C t' h o.op := op_congr fun i hi => H i (memN_true.2 (by simp only [readsOf]; exact List.mem_append_left _ hi))
    simp only [valOp, h1, h2]

theorem drawn_step {f : Nat} (hv : ∀ f', f' ≤ f → ValOk C ρ W f') : DrawnOk C ρ W (f + 1) := by
  intro ops s s' e σ a w Q hs hQ
  simp only [drawn] at e
  generalize hall : ops.toList = all at e
  generalize hanc : ancs all [] = anc at e
  generalize hch : changers C.P all = ch at e
  have e0 := bif_some e
  have eg : (edgesDown all 0 && orderOk all anc all anc 0 && chainOk ch ch anc 0) = true := by
    cases hc : (edgesDown all 0 && orderOk all anc all anc 0 && chainOk ch ch anc 0) with
    | true => rfl
    | false => rw [hc] at e; cases e
  simp only [Bool.and_eq_true] at eg
  obtain ⟨⟨hedge, hord⟩, hchain⟩ := eg
  clear e
  split at e0
  · cases e0
  rename_i rs hs' u g hrec
  have esame : sameAll C f all ch anc (s.h :: hs') all rs anc 0 = true := by
    cases hc : sameAll C f all ch anc (s.h :: hs') all rs anc 0 with
    | true => rfl
    | false => rw [hc] at e0; cases e0
  have e1 := bif_some e0
  simp only [Option.some.injEq] at e1
  subst e1
  obtain ⟨l1, l2, l3, l4, l5⟩ := rec_ok hrec
  rw [hch] at l2 l4 l5
  have hal : anc.length = all.length := by rw [← hanc, (ancs_spec (l := all) (acc := [])).1]; simp
  have hcl : ch.length = all.length := by rw [← hch, changers_len]
  have hsz : ops.size = all.length := by rw [← hall]; simp
  have hget : ∀ i : Nat, ops[i]? = all[i]? := by intro i; rw [← hall, Array.getElem?_toList]
  have hchA : ∀ {i : Nat} {o : Oper}, all[i]? = some o → at' ch i = changer C.P o.op := by intro i o h; rw [← hch]; exact changers_at h
  have hchL : ∀ {i : Nat}, at' ch i = true → i < all.length := by
    intro i h
    by_cases c : i < all.length
    · exact c
    · simp [at', List.getElem?_eq_none (show ch.length ≤ i by omega)] at h
  -- the walk through any order
  suffices H : ∀ (fuel : Nat) (L : Array Bool) (τ : Sg) (a : Act) (w : World), σ.le τ → L.size = all.length →
      (∀ j, L.getD j false = true → Shut all (fun j => L.getD j false) j) → fuel + nm (fun j => L.getD j false) all.length = all.length →
      TRel τ ρ (TM all rs s.tmps (fun j => L.getD j false) all.length) a.tmps → a.tmps.size = s.n → DsRel C τ ρ s.defers a.defers →
      HRel C ρ W τ (Hs (s.h :: hs') (cm ch (fun j => L.getD j false) all.length)) w → wpAny C.P .any ops Q fuel L a w by
    have hno : ∀ j, (Array.replicate ops.size false).getD j false = false := by
      intro j; rw [Array.getD_eq_getD_getElem?]
      by_cases c : j < ops.size
      · simp [c]
      · rw [Array.getElem?_eq_none (by simp; omega)]; rfl
    have hno' : (fun j => (Array.replicate ops.size false).getD j false) = fun _ => false := funext hno
    refine H _ _ σ a w (Sg.le_refl _) (by simp [hsz]) (fun j h => by rw [hno] at h; cases h) ?_ ?_ hs.n hs.df ?_
    · rw [hno', hsz]
      have : ∀ k, nm (fun _ => false) k = 0 := by intro k; induction k with | zero => rfl | succ k ih => simp [nm, ih]
      rw [this]; rfl
    · rw [hno']
      have : ∀ k, TM all rs s.tmps (fun _ => false) k = s.tmps := by intro k; induction k with | zero => rfl | succ k ih => simp [TM, ih]
      rw [this]; exact hs.tm
    · rw [hno']
      have : ∀ k, cm ch (fun _ => false) k = 0 := by intro k; induction k with | zero => rfl | succ k ih => simp [cm, ih]
      rw [this]; exact hs.h
  intro fuel
  -- all listed
  have fin : ∀ (L : Array Bool) (τ : Sg) (a : Act) (w : World), σ.le τ → (∀ j, j < all.length → L.getD j false = true) →
      TRel τ ρ (TM all rs s.tmps (fun j => L.getD j false) all.length) a.tmps → a.tmps.size = s.n → DsRel C τ ρ s.defers a.defers →
      HRel C ρ W τ (Hs (s.h :: hs') (cm ch (fun j => L.getD j false) all.length)) w → Q .normal a w := by
    intro L τ a w hle hfull ht hn hd hh
    refine hQ τ a w hle ⟨fun i => ?_, hn, hd, ?_⟩
    · have := ht i
      rw [TM_agree (m' := yes) (fun j hj _ => hfull j hj)] at this
      simp only
      rw [l3]; exact this
    · rw [cm_all (fun j hj _ => hfull j hj)] at hh
      simp only
      rw [l4]; exact hh
  have rdy : ∀ (L : Array Bool), L.size = all.length → Region.ready .any ops L = [] → ∀ j, j < all.length → L.getD j false = true := by
    intro L hLs hr j
    induction j using Nat.strongRecOn with
    | _ j ih =>
      intro hj
      cases hc : L.getD j false with
      | true => rfl
      | false =>
        exfalso
        have hm : j ∈ Region.ready .any ops L := by
          simp only [Region.ready, List.mem_filter, List.mem_range, Bool.and_eq_true, Bool.not_eq_true']
          refine ⟨by omega, ?_, ?_⟩
          · rw [Array.getD_eq_getD_getElem?] at hc ⊢
            rw [Array.getElem?_eq_getElem (by omega)] at hc ⊢
            exact hc
          · rw [hget, List.getElem?_eq_getElem hj]
            simp only [Option.map_some, Option.getD_some]
            rw [Array.all_eq_true']
            intro x hx
            cases hb : Region.binds .any x with
            | false => rfl
            | true =>
              have hin : x.on ∈ binding all[j] := by
                simp only [binding, List.mem_map, List.mem_filter]
                exact ⟨x, ⟨by simpa using hx, hb⟩, rfl⟩
              have := edges_spec hedge j all[j] (List.getElem?_eq_getElem hj) x.on hin
              rw [ih x.on (by omega) (by omega)]; rfl
        rw [hr] at hm; simp at hm
  induction fuel with
  | zero =>
    intro L τ a w hle hLs hshut hfu ht hn hd hh
    have hfull := nm_full (show nm (fun j => L.getD j false) all.length = all.length by omega)
    refine ⟨?_, fin L τ a w hle hfull ht hn hd hh⟩
    simp only [Region.ready, List.filter_eq_nil_iff, List.mem_range]
    intro i hi
    have := hfull i (by omega)
    rw [Array.getD_eq_getD_getElem?, Array.getElem?_eq_getElem (by omega)] at this
    rw [Array.getD_eq_getD_getElem?, Array.getElem?_eq_getElem (by omega)]
    simp at this ⊢
    simp [this]
  | succ fuel ih =>
    intro L τ a w hle hLs hshut hfu ht hn hd hh
    refine ⟨fun hr => fin L τ a w hle (rdy L hLs hr) ht hn hd hh, ?_⟩
    intro i hi
    simp only [Region.ready, List.mem_filter, List.mem_range, Bool.and_eq_true, Bool.not_eq_true'] at hi
    obtain ⟨hin, hnot, hbefore⟩ := hi
    rw [hsz] at hin
    obtain ⟨o, ho⟩ : ∃ o, all[i]? = some o := ⟨all[i], List.getElem?_eq_getElem hin⟩
    rw [hget, ho] at hbefore
    simp only [Option.map_some, Option.getD_some] at hbefore
    rw [Array.all_eq_true'] at hbefore
    generalize hm : (fun j => L.getD j false) = m at *
    have hmi : m i = false := by
      rw [← hm]; simp only
      rw [Array.getD_eq_getD_getElem?] at hnot ⊢
      rw [Array.getElem?_eq_getElem (by omega)] at hnot ⊢
      exact hnot
    have hshut' : ∀ j, m j = true → Shut all m j := by intro j hj; rw [← hm] at hj; exact hshut j hj
    have hsi : Shut all m i := by
      intro o' ho' e he
      rw [ho] at ho'; simp at ho'; subst ho'
      simp only [binding, List.mem_map, List.mem_filter] at he
      obtain ⟨x, ⟨hx, hb⟩, rfl⟩ := he
      have := hbefore x (by simpa using hx)
      rw [hb] at this
      rw [← hm]; simpa using this
    have bitsI : ∀ b, Nat.testBit ((anc[i]?).getD 0) b = true → m b = true := by
      intro b hb; rw [← hanc] at hb; exact Shut.bits hshut' hsi hb
    have bitsJ : ∀ j b, m j = true → Nat.testBit ((anc[j]?).getD 0) b = true → m b = true := by
      intro j b hj hb; rw [← hanc] at hb; exact Shut.bits hshut' (hshut' j hj) hb
    obtain ⟨r, hr1, hr2, hr3, f', hf', hval⟩ := l5 i o ho
    have hordI := order_spec hal hord hal i o ho
    simp only [Nat.zero_add] at hordI
    -- slots
    have slots : ∀ x, (memN x (readsOf all o) = true ∨ o.dst = some x) → ∀ j, j < all.length → writes all j x → i ≠ j → (j < i → m j = true) ∧ (i < j → m j = false) := by
      intro x hx j hj ⟨o', h1, h2⟩ hne
      obtain ⟨h3, h4⟩ := hordI j o' x h1 h2 hx hne
      refine ⟨fun h => bitsI j (h3 h), fun h => ?_⟩
      cases hc : m j with
      | false => rfl
      | true => have := bitsJ j i hc (h4 h); rw [hmi] at this; cases this
    have reads : ∀ x, memN x (readsOf all o) = true → (TM all rs s.tmps m all.length).get x = r.t.get x := by
      intro x hx
      rw [TM_past (i := i) (by omega) (fun j h1 h2 hw => by
        by_cases c : j = i
        · subst c; exact hmi
        · exact (slots x (.inl hx) j h2 hw (by omega)).2 (by omega)), hr2]
      exact TM_agree (fun j hj hw => by rw [(slots x (.inl hx) j (by omega) hw (by omega)).1 hj]; rfl)
    -- the memory
    have hval' : ∃ f'', f'' ≤ f ∧ valOp C f'' all o (TM all rs s.tmps m all.length) (Hs (s.h :: hs') (cm ch m all.length)) = some (r.v, Hs (s.h :: hs') (cm ch (addM m i) all.length)) := by
      rw [cm_add hmi]
      cases hc : at' ch i with
      | true =>
        have hck : cm ch m all.length = kappa ch i := by
          rw [cm_stop (k := i) (by omega) (fun j h1 h2 h3 => by
            by_cases c : j = i
            · subst c; exact hmi
            · have hb := chain_spec hchain (by omega) j h3 i (by omega) hc
              cases hmj : m j with
              | false => rfl
              | true => have := bitsJ j i hmj hb; rw [hmi] at this; cases this)]
          exact cm_all (fun j h1 h2 => bitsI j (chain_spec hchain (by omega) i hc j (by omega) h2))
        refine ⟨f', by omega, ?_⟩
        rw [valOp_congr reads, hck]
        rw [kappa_succ, hc] at hval
        simpa [hin] using hval
      | false =>
        have hnc : changer C.P o.op = false := by rw [← hchA ho]; exact hc
        obtain ⟨f2, g1, g2⟩ := sameAll_ok esame hal i o r ho hr1 hnc
        rw [Nat.zero_add] at g2
        have hlo : lowK ch ((anc[i]?).getD 0) ch 0 ≤ cm ch m all.length := by
          refine low_spec (fun l h1 h2 => ?_)
          rw [Nat.zero_add] at h2 ⊢
          have hml := bitsI l h2
          have := cm_mono (ch := ch) (m := m) (show l + 1 ≤ all.length from hchL h1)
          rw [cm_all (k := l + 1) (fun j h3 h4 => by
            by_cases c : j = l
            · subst c; exact hml
            · exact bitsJ l j hml (chain_spec hchain (by omega) l h1 j (by omega) h4)), kappa_succ, h1] at this
          simpa using this
        have hhi : cm ch m all.length ≤ highK ch i (lenL (s.h :: hs') - 1) ch anc 0 := by
          refine high_spec ?_ (fun l h1 h2 => ?_)
          · simp only [lenL_eq, List.length_cons, Nat.add_sub_cancel]
            rw [l2]; exact cm_le
          · rw [Nat.zero_add]
            have hml : m l = false := by
              cases hc : m l with
              | false => rfl
              | true => have := bitsJ l i hc h2; rw [hmi] at this; cases this
            rw [cm_stop (k := l) (Nat.le_of_lt (hchL h1)) (fun j h3 h4 h5 => by
              by_cases c : j = l
              · subst c; exact hml
              · cases hc : m j with
                | false => rfl
                | true => have := bitsJ j l hc (chain_spec hchain (by omega) j h5 l (by omega) h1); rw [hml] at this; cases this)]
            exact cm_le
        have htop : cm ch m all.length ≤ hs'.length := by rw [l2]; exact cm_le
        have hmem : Hs (s.h :: hs') (cm ch m all.length) ∈ takeL (highK ch i (lenL (s.h :: hs') - 1) ch anc 0 + 1 - lowK ch ((anc[i]?).getD 0) ch 0) (dropL (lowK ch ((anc[i]?).getD 0) ch 0) (s.h :: hs')) := by
          generalize highK ch i (lenL (s.h :: hs') - 1) ch anc 0 = hi at *
          generalize lowK ch ((anc[i]?).getD 0) ch 0 = lo at *
          rw [takeL_eq, dropL_eq]
          refine List.mem_of_getElem? (i := cm ch m all.length - lo) ?_
          rw [List.getElem?_take, if_pos (by omega), List.getElem?_drop, show lo + (cm ch m all.length - lo) = cm ch m all.length by omega]
          have hlt : cm ch m all.length < (s.h :: hs').length := by simp; omega
          unfold Hs
          rw [List.getElem?_eq_getElem hlt]; rfl
        obtain ⟨f3, g3, h', g4⟩ := same_ok g2 _ hmem
        refine ⟨f3, by omega, ?_⟩
        rw [valOp_congr reads]
        have hsm := valOp_same hnc g4
        rw [hsm] at g4
        simpa using g4
    obtain ⟨f'', hf'', hval'⟩ := hval'
    -- the step
    have hL' : (fun j => (L.setIfInBounds i true).getD j false) = addM m i := by
      funext j
      rw [← hm]
      simp only [addM, Array.getD_eq_getD_getElem?, Array.getElem?_setIfInBounds]
      by_cases c : j = i
      · subst c; rw [if_pos rfl, if_pos (by omega), if_pos rfl]; rfl
      · rw [if_neg (Ne.symm c), if_neg c]
    unfold wpOp
    rw [hget, ho]
    refine hv f'' hf'' all o _ _ _ _ hval' ops τ a w _ Q hall ht hh ?_
    intro υ V w' hle' hV hh'
    refine ih (L.setIfInBounds i true) υ (a.put o.dst V) w' (Sg.le_trans hle hle') (by simpa using hLs) ?_ ?_ ?_ ?_ ?_ ?_
    · rw [hL']
      intro j hj o' ho' e he
      have hmono : ∀ x, m x = true → addM m i x = true := by intro x hx; simp only [addM]; split <;> simp [hx]
      by_cases c : j = i
      · subst c; exact hmono _ (hsi o' ho' e he)
      · have hj' : addM m i j = true := by rw [← hL']; exact hj
        have : m j = true := by simpa [addM, c] using hj'
        exact hmono _ (hshut' j this o' ho' e he)
    · rw [hL', nm_add hmi hin]; omega
    · rw [hL']
      intro x
      have agree : ∀ x, o.dst ≠ some x → (TM all rs s.tmps (addM m i) all.length).get x = (TM all rs s.tmps m all.length).get x := by
        intro x hx
        refine TM_agree (fun j hj hw => ?_)
        have : j ≠ i := by rintro rfl; obtain ⟨o', h1, h2⟩ := hw; rw [ho] at h1; simp at h1; subst h1; exact hx h2
        simp [addM, this]
      have write : ∀ x, o.dst = some x → (TM all rs s.tmps (addM m i) all.length).get x = some r.v := by
        intro x hx
        rw [TM_past (i := i + 1) (by omega) (fun j h1 h2 hw => by
          have := (slots x (.inr hx) j h2 hw (by omega)).2 (by omega)
          simp [addM, this]; omega)]
        exact TM_write (by simp [addM]) ho hr1 hx
      cases hd : o.dst with
      | none => rw [agree x (by rw [hd]; simp)]; exact (ht.mono hle') x
      | some d =>
        simp only [Act.put, Array.getD_eq_getD_getElem?]
        by_cases c : x = d
        · subst c
          rw [write x hd, Array.getElem?_setIfInBounds, if_pos rfl, if_pos (by rw [hn]; exact hr3 x hd)]
          exact hV
        · rw [agree x (by rw [hd]; exact fun h => c (Option.some.inj h).symm), Array.getElem?_setIfInBounds, if_neg (Ne.symm c)]
          have := (ht.mono hle') x
          rwa [Array.getD_eq_getD_getElem?] at this
    · cases o.dst with
      | none => exact hn
      | some d => simpa [Act.put] using hn
    · rw [put_defers]; exact hd.mono hle'
    · rw [hL']; exact hh'

/-- Everything is sound. -/
structure Good (C : Cx) (ρ : Env) (W : World) (f : Nat) : Prop where
  call : CallOk C ρ W f
  callD : CallDOk C ρ W f
  val : ValOk C ρ W f
  run : RunOk C ρ W f
  drawn : DrawnOk C ρ W f
  exec : ExecOk C ρ W f
  loops : LoopsOk C ρ W f
  defers : DefersOk C ρ W f

theorem good (K0 : CxOk C) (hh : Hints C ρ) (ht : ToldOk C ρ W) : ∀ f, Good C ρ W f := by
  intro f
  induction f using Nat.strongRecOn with
  | _ f ih =>
    cases f with
    | zero =>
      refine ⟨?_, ?_, ?_, ?_, ?_, ?_, ?_, ?_⟩
      · intro g args h v h' e; simp [call] at e
      · intro g args h h' e; simp [callD] at e
      · intro all o t h v h' e; simp [valOp] at e
      · intro all rest s s' e; simp [runOps] at e
      · intro ops s s' e; simp [drawn] at e
      · intro c s e s' h; simp [exec] at h
      · intro b s e s' h; simp [loops] at h
      · intro ds h h' e; simp [defers] at e
    | succ f =>
      have G := ih f (by omega)
      exact ⟨call_step ht G.exec G.defers, callD_step G.exec, val_step K0 hh G.call, run_step K0 hh G.val G.run,
        drawn_step (fun f' hf' => (ih f' (by omega)).val), exec_step K0 G.exec G.loops G.run G.drawn, loops_step G.exec G.loops, defers_step G.callD G.defers⟩

theorem call_sound (K0 : CxOk C) (hh : Hints C ρ) (ht : ToldOk C ρ W) {f : Nat} {g : FuncId} {args : List SV} {h h' : SH} {v : SV} (e : call C f g args h = some (v, h')) {σ : Sg} {A : Array Value} {w : World} (hA : VRels σ ρ args A.toList) (hr : HRel C ρ W σ h w) :
    Calls C.P g A w (fun e w' => ∃ V τ, σ.le τ ∧ e = .returned V ∧ VRel τ ρ v V ∧ HRel C ρ W τ h' w') :=
  (good K0 hh ht f).call g args h v h' e σ A w hA hr
end
end Go.Sx
