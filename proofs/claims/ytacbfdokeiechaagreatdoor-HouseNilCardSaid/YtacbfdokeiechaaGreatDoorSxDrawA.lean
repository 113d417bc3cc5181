/- The runner is sound: regions that draw their order, where one allocation is free; all calls. -/
import Derived.Test.YtacbfdokeiechaaGreatDoorSxDrawn
namespace Go.Sx
open Go

/-! ### memories that are the same -/
theorem trEq_ok {α : Type} {e : α → α → Bool} (he : ∀ a b, e a b = true → a = b) : ∀ (s t : Tr α), trEq e s t = true → s = t
  | .nil, .nil, _ => rfl
  | .nil, .node _ _ _, h => by simp [trEq] at h
  | .node _ _ _, .nil, h => by simp [trEq] at h
  | .node a x b, .node c y d, h => by
    simp only [trEq, Bool.and_eq_true] at h
    obtain ⟨h1, h2, h3⟩ := h
    rw [trEq_ok he a c h2, trEq_ok he b d h3]
    cases x <;> cases y <;> simp_all
    exact he _ _ h1
theorem pairsEq_ok : ∀ (a b : List (SV × SV)), pairsEq a b = true → a = b
  | [], [], _ => rfl
  | [], _ :: _, h => by simp [pairsEq] at h
  | _ :: _, [], h => by simp [pairsEq] at h
  | (a, b) :: r, (c, d) :: s, h => by
    simp only [pairsEq, Bool.and_eq_true] at h
    rw [svEq_ok _ _ h.1, svEq_ok _ _ h.2.1, pairsEq_ok r s h.2.2]
theorem sbEq_ok : ∀ (a b : SB), sbEq a b = true → a = b
  | .cells a n e m f, b, h => by
    cases b <;> simp only [sbEq, Bool.false_eq_true, Bool.and_eq_true, decide_eq_true_eq, beq_iff_eq] at h
    obtain ⟨h1, h2, h3, h4, h5⟩ := h
    rw [trEq_ok svEq_ok _ _ h1, beq_true.1 h2, beq_true.1 h3, h4, h5]
  | .map a, b, h => by
    cases b <;> simp only [sbEq, Bool.false_eq_true] at h
    rw [pairsEq_ok _ _ h]
  | .siter a n, b, h => by
    cases b <;> simp only [sbEq, Bool.false_eq_true, Bool.and_eq_true, eqL_eq, decide_eq_true_eq] at h
    rw [h.1, beq_true.1 h.2]
  | .resv, b, h => by cases b <;> simp [sbEq] at h; rfl
theorem shEq_ok {a b : SH} (h : shEq a b = true) : a = b := by
  simp only [shEq, Bool.and_eq_true] at h
  cases a; cases b
  simp only at h
  rw [beq_true.1 h.1.1, beq_true.1 h.1.2, trEq_ok sbEq_ok _ _ h.2]

section
variable {C : Cx} {ρ : Env} {W : Base}

/-- A number is held back. -/
theorem HRel.reserve {σ : Sg} {h : SH} {w : World} (r : HRel C ρ W σ h w) : HRel C ρ W σ (h.new h.next .resv).bump w := by
  have hf := r.fresh
  refine ⟨?_, ?_, fun i p e => ⟨Nat.lt_succ_of_lt (r.dom i p e).1, (r.dom i p e).2⟩, fun i V e => Nat.lt_succ_of_lt (r.domV i V e), ?_, Nat.le_succ_of_le r.ro, r.ng, r.glob, r.base, r.size, r.tape, r.os, r.output, ?_⟩
  · intro id sb hg
    simp only [SH.new, SH.bump, Tr.get_set] at hg
    by_cases e : id = h.next
    · rw [if_pos e] at hg
      obtain rfl := Option.some.inj hg
      exact ⟨by rw [e]; exact hf, by rw [e]; exact Nat.lt_succ_self _⟩
    · rw [if_neg e] at hg
      exact (r.blk id sb hg).step (Nat.le_succ _) (fun h _ => h) (Sg.le_refl _) (fun _ _ => rfl)
  · intro id sb p hg hp hid
    simp only [SH.new, SH.bump, Tr.get_set] at hg
    have n1 : id ≠ h.next := by rintro rfl; rw [hf] at hp; cases hp
    rw [if_neg n1] at hg
    exact r.own id sb p hg hp hid
  · intro id id' sb sb' p p' h1 h2 hp hp' hpp
    simp only [SH.new, SH.bump, Tr.get_set] at h1 h2
    have n1 : id ≠ h.next := by rintro rfl; rw [hf] at hp; cases hp
    have n2 : id' ≠ h.next := by rintro rfl; rw [hf] at hp'; cases hp'
    rw [if_neg n1] at h1; rw [if_neg n2] at h2
    exact r.inj id id' _ _ p p' h1 h2 hp hp' hpp
  · obtain ⟨F, h1, h2, h3⟩ := r.rest
    refine ⟨F, h1, h2, fun id sb p hg hp => ?_⟩
    simp only [SH.new, SH.bump, Tr.get_set] at hg
    have n1 : id ≠ h.next := by rintro rfl; rw [hf] at hp; cases hp
    rw [if_neg n1] at hg
    exact h3 id sb p hg hp

/-- A number that was held back gets its block. -/
theorem HRel.fill {σ : Sg} {h : SH} {w : World} (r : HRel C ρ W σ h w) {id : Nat} (hid : h.blocks.get id = some .resv) {sb : SB} {o : Obj} (n : Nat) (hb : BRel σ ρ ⟨w.heap.size, 0, n⟩ sb o) :
    σ.le (σ.put id ⟨w.heap.size, 0, n⟩) ∧ HRel C ρ W (σ.put id ⟨w.heap.size, 0, n⟩) (h.new id sb) { w with heap := w.heap.push o } := by
  obtain ⟨hnone, hlt⟩ : σ id = none ∧ id < h.next := r.blk id _ hid
  have hle : σ.le (σ.put id ⟨w.heap.size, 0, n⟩) := by
    refine ⟨fun i q hq => ?_, fun i V hV => hV⟩
    rw [Sg.put_at]
    by_cases e : i = id
    · rw [e, hnone] at hq; cases hq
    · rw [if_neg e]; exact hq
  have hold : ∀ b, b < w.heap.size → (w.heap.push o)[b]? = w.heap[b]? := fun b hb => by rw [Array.getElem?_push]; rw [if_neg (by omega)]
  refine ⟨hle, ⟨?_, ?_, ?_, r.domV, ?_, r.ro, r.ng, ?_, ?_, ?_, r.tape, r.os, r.output, ?_⟩⟩
  · intro id' sb' hg
    simp only [SH.new, Tr.get_set] at hg
    by_cases e : id' = id
    · rw [if_pos e] at hg
      obtain rfl := Option.some.inj hg
      exact HasB.of ⟨_, o, by rw [Sg.put_at, if_pos e], by simp, hb.mono hle⟩
    · rw [if_neg e] at hg
      exact (r.blk id' sb' hg).step (Nat.le_refl _) (fun h1 _ => by rw [Sg.put_at, if_neg e]; exact h1) hle (fun p hp => hold _ (r.dom id' p hp).2)
  · intro id' sb1 p hg hp hid'
    simp only [SH.new, Tr.get_set] at hg
    rw [Sg.put_at] at hp
    by_cases e : id' = id
    · rw [if_pos e] at hp; obtain rfl := Option.some.inj hp; exact Base.fresh_not r.size
    · rw [if_neg e] at hp hg; exact r.own id' sb1 p hg hp hid'
  · intro id' p hp
    rw [Sg.put_at] at hp
    by_cases e : id' = id
    · rw [if_pos e] at hp; obtain rfl := Option.some.inj hp; exact ⟨by rw [e]; exact hlt, by simp⟩
    · rw [if_neg e] at hp; have := r.dom id' p hp; exact ⟨this.1, by simp; omega⟩
  · intro i1 i2 sb1 sb2 p p' h1 h2 hp hp' hpp
    simp only [SH.new, Tr.get_set] at h1 h2
    rw [Sg.put_at] at hp hp'
    by_cases e : i1 = id <;> by_cases e' : i2 = id
    · rw [e, e']
    · rw [if_pos e] at hp; rw [if_neg e'] at hp'; obtain rfl := Option.some.inj hp
      have := (r.dom i2 p' hp').2; simp at hpp; omega
    · rw [if_neg e] at hp; rw [if_pos e'] at hp'; obtain rfl := Option.some.inj hp'
      have := (r.dom i1 p hp).2; simp at hpp; omega
    · rw [if_neg e] at hp h1; rw [if_neg e'] at hp' h2
      exact r.inj i1 i2 _ _ p p' h1 h2 hp hp' hpp
  · intro g hg
    obtain ⟨n', hn⟩ := r.glob g hg
    exact ⟨n', hle.pl _ _ hn⟩
  · intro b hb
    show (w.heap.push o)[b]? = _
    rw [hold b (Nat.lt_of_lt_of_le (W.lt b hb) r.size)]
    exact r.base b hb
  · simp; have := r.size; omega
  · obtain ⟨F, h1, h2, h3⟩ := r.rest
    refine ⟨F, W.stays _ _ _ _ _ _ hle h1 (fun b hF => hold b (h2 b hF).1), fun b hF => ⟨by have := (h2 b hF).1; simp; omega, (h2 b hF).2⟩, fun id' sb' p hg hp => ?_⟩
    simp only [SH.new, Tr.get_set] at hg
    rw [Sg.put_at] at hp
    by_cases e : id' = id
    · rw [if_pos e] at hp; obtain rfl := Option.some.inj hp
      intro hF; have := (h2 _ hF).1; simp at this
    · rw [if_neg e] at hp hg; exact h3 id' sb' p hg hp

theorem allocAt_val {r : Nat} {o : Oper} {h h' : SH} {v : SV} (e : allocAt C r o h = some (v, h')) : v = .ptr r 0 := by
  unfold allocAt at e
  split at e
  · split at e
    · simp only [Option.some.injEq, Prod.mk.injEq] at e; exact e.1.symm
    · cases e
  · cases e

theorem fill_row {σ : Sg} {l : List SV} {c : Array Value} {b e : Nat} (h : VRels σ ρ l c.toList) :
    BRel σ ρ ⟨b, 0, c.size⟩ (.cells (trOf l 0 .nil) (lenL l) e false .clean) (.cells c e (0, 0)) := by
  have hl : l.length = c.size := by rw [h.length, Array.length_toList]
  refine ⟨c, (0, 0), rfl, by simp, by simp [hl], fun _ => ⟨by simp [hl], rfl⟩, fun i x hx => ?_, rfl, rfl⟩
  rw [get_trOf] at hx
  split at hx
  · rename_i hi
    obtain ⟨V, h1, h2⟩ := h.get hx
    rw [Nat.sub_zero, Array.getElem?_toList] at h1
    exact ⟨by rw [lenL_eq]; omega, V, by simpa using h1, h2⟩
  · simp at hx

theorem alloc_step {all : List Oper} {o : Oper} {t : Tr SV} {h h' : SH} {v : SV} {r : Nat} (hg : o.guard = none) (e : allocAt C r o h = some (v, h')) : StepOk C ρ W all o t h v h' := by
  intro ops σ a w K Q hall ht hr hK
  rw [if_pos (by simp [Region.wanted, hg])]
  left
  obtain rfl := allocAt_val e
  unfold allocAt at e
  split at e
  case h_2 => cases e
  rename_i el hop
  split at e
  case h_2 => cases e
  rename_i z hres hz
  simp only [Option.some.injEq, Prod.mk.injEq, true_and] at e
  subst e
  obtain ⟨Z, hZ, hZr⟩ := run_zero hz
  have hrow := fill_row (b := w.heap.size) (e := el) (cells_any (hZr σ ρ))
  obtain ⟨hle, hr'⟩ := hr.fill hres _ hrow
  have hrun : (execOp a.eval o).run C.P w = .ok (.value (.pointer (some ⟨w.heap.size, 0, none⟩))) { w with heap := w.heap.push (.cells Z.cells el) } := by
    unfold execOp
    rw [hop]
    show Sem.run C.P (do pure (Next.value (← Instr.alloc el true (.tuple #[])))) w = _
    unfold Instr.alloc
    rw [Sem.run_bind, Sem.run_bind, hZ]
    rfl
  unfold Oper.wp
  rw [hrun]
  exact hK _ _ _ hle (by simp only [VRel]; exact ⟨_, by simp [Sg.put]; rfl, by simp⟩) hr'

theorem chainFlags_at {P : Program} {ia : Nat} : ∀ {l : List Oper} {k j : Nat} {o : Oper}, l[j]? = some o → at' (chainFlags P ia l k) j = (changer P o.op && !Nat.beq (k + j) ia)
  | [], _, _, _, h => by simp at h
  | x :: l, k, 0, o, h => by simp at h; subst h; rfl
  | x :: l, k, j + 1, o, h => by
    simp at h
    have := chainFlags_at (P := P) (ia := ia) (l := l) (k := k + 1) h
    rw [show k + (j + 1) = k + 1 + j by omega]
    exact this
theorem chainFlags_len {P : Program} {ia : Nat} : ∀ {l : List Oper} {k : Nat}, (chainFlags P ia l k).length = l.length
  | [], _ => rfl
  | x :: l, k => by simp [chainFlags, chainFlags_len (l := l)]

theorem recB_ok (KV : ToldV C) {all : List Oper} {n ia id : Nat} : ∀ {f : Nat} {rest : List Oper} {cs : List Bool} {t : Tr SV} {h : SH} {rs : List Rec} {hs : List SH} {u : Tr SV} {g : SH} {k : Nat},
    runRecB C f all ia id rest cs n t h k = some (rs, hs, u, g) → (∀ (j : Nat) (o : Oper), rest[j]? = some o → at' cs j = (changer C.P o.op && !Nat.beq (k + j) ia)) →
    rs.length = rest.length ∧ hs.length = kappa cs rest.length ∧ u = TM rest rs t yes rest.length ∧ g = Hs (h :: hs) (kappa cs rest.length) ∧
    ∀ (j : Nat) (o : Oper), rest[j]? = some o → ∃ r, rs[j]? = some r ∧ r.t = TM rest rs t yes j ∧ (∀ d, o.dst = some d → d < n) ∧ (k + j = ia → r.v = .ptr id 0) ∧
      (k + j ≠ ia → ∃ f', f' < f ∧ valOp C f' all o r.t (Hs (h :: hs) (kappa cs j)) = some (r.v, Hs (h :: hs) (kappa cs (j + 1))))
  | 0, _, _, _, _, _, _, _, _, _, e, _ => by simp [runRecB, fns] at e
  | f + 1, [], cs, t, h, rs, hs, u, g, k, e, _ => by
    simp only [runRecB_succ, runRecBF, Option.some.injEq, Prod.mk.injEq] at e
    obtain ⟨rfl, rfl, rfl, rfl⟩ := e
    exact ⟨rfl, by simp [kappa_zero], rfl, by simp [kappa_zero, Hs], fun i o h => by simp at h⟩
  | f + 1, o :: rest, [], t, h, rs, hs, u, g, k, e, _ => by simp [runRecB_succ, runRecBF] at e
  | f + 1, o :: rest, c :: cs, t, h, rs, hs, u, g, k, e, hcs => by
    simp only [runRecB_succ, runRecBF, fns_valOp, fns_runRecB] at e
    split at e
    · cases e
    rename_i v h' hv
    split at e
    · cases e
    rename_i t' hp
    split at e
    · cases e
    rename_i rs' hs' u' g' hr
    simp only [Option.some.injEq, Prod.mk.injEq] at e
    obtain ⟨rfl, rfl, rfl, rfl⟩ := e
    have hc : c = (changer C.P o.op && !Nat.beq k ia) := by simpa [at'] using hcs 0 o (by simp)
    obtain ⟨i1, i2, i3, i4, i5⟩ := recB_ok KV hr (fun j o' hj => by
      have := hcs (j + 1) o' (by simpa using hj)
      rw [show k + (j + 1) = k + 1 + j by omega] at this
      simpa [at'] using this)
    have ht' : t' = stepT t (some o) (some ⟨t, v⟩) ∧ ∀ d, o.dst = some d → d < n := by
      simp only [stepT]
      cases hd : o.dst with
      | none => rw [hd] at hp; simp [putT] at hp; subst hp; simp
      | some d =>
        rw [hd] at hp; simp only [putT] at hp
        cases hb : Nat.blt d n with
        | false => rw [hb] at hp; cases hp
        | true => rw [hb] at hp; simp at hp; subst hp; exact ⟨rfl, fun d' h => by simp at h; subst h; exact blt_true.1 hb⟩
    have hval : k ≠ ia → valOp C f all o t h = some (v, h') := by
      intro hne; rw [beq_false.2 hne] at hv; exact hv
    have hsame : c = false → h' = h := by
      intro hcf
      by_cases hk : k = ia
      · rw [beq_true.2 hk] at hv; simp at hv; exact hv.2.symm
      · rw [beq_false.2 hk] at hc
        rw [hcf] at hc
        exact valOp_same KV (by simpa using hc.symm) (hval hk)
    have hH : ∀ q, Hs (h :: cond c (h' :: hs') hs') (cond c (Nat.succ q) q) = Hs (h' :: hs') q := by
      intro q
      cases hcc : c with
      | true => simp [Hs]
      | false => rw [hsame hcc]; rfl
    refine ⟨by simp [i1], ?_, ?_, ?_, ?_⟩
    · simp only [List.length_cons, kappa]
      cases c with
      | true => simp [i2]
      | false => simpa using i2
    · rw [List.length_cons, TM_cons, ← ht'.1]; exact i3
    · simp only [List.length_cons, kappa]
      rw [hH]; exact i4
    · intro j o' hj
      cases j with
      | zero =>
        simp at hj; subst hj
        refine ⟨⟨t, v⟩, by simp, rfl, ht'.2, fun hk => ?_, fun hk => ⟨f, by omega, ?_⟩⟩
        · rw [Nat.add_zero] at hk
          rw [beq_true.2 hk] at hv; simp at hv; exact hv.1.symm
        · rw [kappa_zero]
          have : kappa (c :: cs) (0 + 1) = cond c (Nat.succ 0) 0 := by
            show cond _ (Nat.succ (kappa cs 0)) (kappa cs 0) = _
            rw [kappa_zero]
          rw [this, hH]
          exact hval (by simpa using hk)
      | succ j =>
        simp at hj
        obtain ⟨r, r1, r2, r3, r4, r5⟩ := i5 j o' hj
        refine ⟨r, by simpa using r1, ?_, r3, fun hk => r4 (by omega), fun hk => ?_⟩
        · rw [r2, TM_cons, ← ht'.1]
        · obtain ⟨f', r6, r7⟩ := r5 (by omega)
          refine ⟨f', by omega, ?_⟩
          show valOp C f' all o' r.t (Hs _ (cond _ (Nat.succ _) _)) = some (r.v, Hs _ (cond _ (Nat.succ _) _))
          rw [hH, hH]
          exact r7

theorem runA_ok {all : List Oper} {ia : Nat} : ∀ {f : Nat} {rest : List Oper} {cs : List Bool} {as : List Nat} {rs : List Rec} {h : SH} {hs : List SH},
    runA C f all ia rest cs as rs h = some hs → cs.length = rest.length → as.length = rest.length → rs.length = rest.length →
    ∀ j, j < rest.length → (∀ l, l ≤ j → at' cs l = true → Nat.testBit ((as[l]?).getD 0) ia = false) →
      kappa cs (j + 1) ≤ hs.length ∧ ∀ o r, rest[j]? = some o → rs[j]? = some r → at' cs j = true →
        ∃ f', f' < f ∧ valOp C f' all o r.t (Hs (h :: hs) (kappa cs j)) = some (r.v, Hs (h :: hs) (kappa cs (j + 1)))
  | 0, _, _, _, _, _, _, e, _, _, _, _, _, _ => by simp [runA, fns] at e
  | f + 1, [], _, _, _, _, _, _, _, _, _, j, hj, _ => by simp at hj
  | f + 1, o :: rest, [], _, _, _, _, _, hc, _, _, _, _, _ => by simp at hc
  | f + 1, o :: rest, c :: cs, [], _, _, _, _, _, ha, _, _, _, _ => by simp at ha
  | f + 1, o :: rest, c :: cs, a :: as, [], _, _, _, _, _, hr, _, _, _ => by simp at hr
  | f + 1, o :: rest, c :: cs, a :: as, r :: rs, h, hs, e, hc, ha, hr, j, hj, H => by
    simp only [runA_succ, runAF, fns_valOp, fns_runA] at e
    cases c with
    | false =>
      simp only [cond_false] at e
      cases j with
      | zero =>
        refine ⟨?_, fun o' r' _ _ hat => by simp [at'] at hat⟩
        show kappa cs 0 ≤ _
        rw [kappa_zero]; exact Nat.zero_le _
      | succ j =>
        obtain ⟨g1, g2⟩ := runA_ok e (by simpa using hc) (by simpa using ha) (by simpa using hr) j (by simpa using hj) (fun l hl hat => by
          have := H (l + 1) (by omega) (by simpa [at'] using hat)
          simpa using this)
        refine ⟨g1, fun o' r' h1 h2 hat => ?_⟩
        obtain ⟨f', g3, g4⟩ := g2 o' r' (by simpa using h1) (by simpa using h2) (by simpa [at'] using hat)
        exact ⟨f', by omega, g4⟩
    | true =>
      simp only [cond_true] at e
      have hb := H 0 (by omega) (by simp [at'])
      simp only [List.getElem?_cons_zero, Option.getD_some] at hb
      rw [hb] at e
      simp only [cond_false] at e
      split at e
      case h_2 => cases e
      rename_i v h' hv
      have hsv : svEq v r.v = true := by
        cases hx : svEq v r.v with
        | true => rfl
        | false => rw [hx] at e; cases e
      rw [hsv] at e
      simp only [cond_true, Option.map_eq_some_iff] at e
      obtain ⟨hs', e', rfl⟩ := e
      cases j with
      | zero =>
        refine ⟨?_, fun o' r' h1 h2 _ => ⟨f, by omega, ?_⟩⟩
        · show Nat.succ (kappa cs 0) ≤ _
          rw [kappa_zero]; simp
        · simp at h1 h2; subst h1; subst h2
          show valOp C f all o r.t (Hs (h :: h' :: hs') (kappa (true :: cs) 0)) = some (r.v, Hs (h :: h' :: hs') (Nat.succ (kappa cs 0)))
          rw [kappa_zero, kappa_zero, ← svEq_ok _ _ hsv]
          exact hv
      | succ j =>
        obtain ⟨g1, g2⟩ := runA_ok e' (by simpa using hc) (by simpa using ha) (by simpa using hr) j (by simpa using hj) (fun l hl hat => by
          have := H (l + 1) (by omega) (by simpa [at'] using hat)
          simpa using this)
        refine ⟨by show Nat.succ _ ≤ _; simp; omega, fun o' r' h1 h2 hat => ?_⟩
        obtain ⟨f', g3, g4⟩ := g2 o' r' (by simpa using h1) (by simpa using h2) (by simpa [at'] using hat)
        exact ⟨f', by omega, g4⟩

theorem joins_ok {id : Nat} {o : Oper} : ∀ {f : Nat} {as bs : List SH}, joins C f id o as bs = true → ∀ k, k < as.length → ∃ v, allocAt C id o (Hs as k) = some (v, Hs bs k)
  | 0, _, _, e, _, _ => by simp [joins, fns] at e
  | f + 1, [], _, _, k, hk => by simp at hk
  | f + 1, a :: as, [], e, _, _ => by simp [joins_succ, joinsF] at e
  | f + 1, a :: as, b :: bs, e, k, hk => by
    simp only [joins_succ, joinsF, fns_joins, Bool.and_eq_true] at e
    cases k with
    | zero =>
      have e1 := e.1
      split at e1
      · rename_i v h hv
        exact ⟨v, by show allocAt C id o a = some (v, b); rw [hv, shEq_ok e1]⟩
      · cases e1
    | succ k => exact joins_ok e.2 k (by simpa using hk)

theorem sameAllA_ok {all : List Oper} {ia : Nat} {ch : List Bool} {anc : List Nat} {hs : List SH} : ∀ {f : Nat} {rest : List Oper} {rs : List Rec} {as : List Nat} {i : Nat},
    sameAllA C f all ia ch anc hs rest rs as i = true → as.length = rest.length → ∀ k o r, rest[k]? = some o → rs[k]? = some r → changer C.P o.op = false → Nat.testBit ((as[k]?).getD 0) ia = false →
    ∃ f', f' < f ∧ sameAt C f' all o r (takeL (highK ch (i + k) (lenL hs - 1) ch anc 0 + 1 - lowK ch ((as[k]?).getD 0) ch 0) (dropL (lowK ch ((as[k]?).getD 0) ch 0) hs)) = true
  | 0, _, _, _, _, e, _, _, _, _, _, _, _, _ => by simp [sameAllA, fns] at e
  | f + 1, [], _, _, _, _, _, k, o, r, h, _, _, _ => by simp at h
  | f + 1, x :: rest, [], as, i, e, _, _, _, _, _, h, _, _ => by simp at h
  | f + 1, x :: rest, y :: rs, [], i, e, hl, _, _, _, _, _, _, _ => by simp at hl
  | f + 1, x :: rest, y :: rs, a :: as, i, e, hl, k, o, r, h1, h2, hc, hb => by
    simp only [sameAllA_succ, sameAllAF, fns_sameAt, fns_sameAllA, Bool.and_eq_true, Bool.or_eq_true] at e
    cases k with
    | zero =>
      simp at h1 h2 hb; subst h1; subst h2
      rcases e.1 with (e1 | e1) | e1
      · rw [hc] at e1; cases e1
      · rw [hb] at e1; cases e1
      · exact ⟨f, by omega, by simpa using e1⟩
    | succ k =>
      simp at h1 h2
      obtain ⟨f', g1, g2⟩ := sameAllA_ok e.2 (by simpa using hl) k o r h1 h2 hc (by simpa using hb)
      refine ⟨f', by omega, ?_⟩
      rw [show i + (k + 1) = i + 1 + k by omega]
      simpa using g2

theorem freeAt_ok : ∀ {l : List Oper} {k ia : Nat}, freeAt l k = some ia → ∃ j o, ia = k + j ∧ l[j]? = some o ∧ isFree o = true
  | [], _, _, h => by simp [freeAt] at h
  | o :: r, k, ia, h => by
    simp only [freeAt] at h
    cases hc : isFree o with
    | true => rw [hc] at h; simp at h; exact ⟨0, o, by omega, by simp, hc⟩
    | false =>
      rw [hc] at h; simp only [cond_false] at h
      obtain ⟨j, o', h1, h2, h3⟩ := freeAt_ok h
      exact ⟨j + 1, o', by omega, by simpa using h2, h3⟩
theorem isFree_ok {o : Oper} (h : isFree o = true) : o.guard = none ∧ binding o = [] ∧ ∃ e, o.op = .alloc e := by
  unfold isFree at h
  split at h
  · rename_i h1 h2 h3; exact ⟨h2, h3, _, h1⟩
  · cases h

/-- Up to where a set holds all. -/
theorem least_not {p m : Nat → Bool} : ∀ n, (∀ j, j < n → p j = true → m j = true) ∨ ∃ k, k < n ∧ p k = true ∧ m k = false ∧ ∀ j, j < k → p j = true → m j = true
  | 0 => .inl fun j h => by omega
  | n + 1 => by
    rcases least_not (p := p) (m := m) n with h | ⟨k, h1, h2⟩
    · cases hp : p n with
      | false => left; intro j hj hpj; by_cases c : j = n
                 · subst c; rw [hp] at hpj; cases hpj
                 · exact h j (by omega) hpj
      | true =>
        cases hm : m n with
        | true => left; intro j hj hpj; by_cases c : j = n
                  · subst c; exact hm
                  · exact h j (by omega) hpj
        | false => exact .inr ⟨n, by omega, hp, hm, h⟩
    · exact .inr ⟨k, by omega, h2⟩

theorem drawnA_step (KV : ToldV C) {f : Nat} (hv : ∀ f', f' ≤ f → ValOk C ρ W f') : DrawnAOk C ρ W (f + 1) := by
  intro ops s s' e σ a w Q hs hQ
  simp only [drawnA_succ, drawnAF, fns_runRecB, fns_runA, fns_sameAll, fns_sameAllA, fns_joins] at e
  generalize hall : ops.toList = all at e
  split at e
  · cases e
  rename_i ia hia
  split at e
  · cases e
  rename_i oa hoa
  rw [getL_eq] at hoa
  generalize hcc : chainFlags C.P ia all 0 = cc at e
  have e0 := bif_some e
  have eg : (edgesDown all 0 && orderOk all (ancs all []) all (ancs all []) 0 && chainOk cc cc (ancs all []) 0) = true := by
    cases hc : (edgesDown all 0 && orderOk all (ancs all []) all (ancs all []) 0 && chainOk cc cc (ancs all []) 0) with
    | true => rfl
    | false => rw [hc] at e; cases e
  simp only [Bool.and_eq_true] at eg
  obtain ⟨⟨hedge, hord⟩, hchain⟩ := eg
  clear e
  split at e0
  · cases e0
  rename_i v0 b0 hb0
  split at e0
  · cases e0
  rename_i rs hs' u g hrec
  split at e0
  · cases e0
  rename_i has hA
  have hchk : (sameAll C f all cc (ancs all []) (b0 :: hs') all rs (ancs all []) 0 && sameAllA C f all ia cc (ancs all []) ((s.h.new s.h.next .resv).bump :: has) all rs (ancs all []) 0 && joins C f s.h.next oa ((s.h.new s.h.next .resv).bump :: has) (b0 :: hs')) = true := by
    cases hc : (sameAll C f all cc (ancs all []) (b0 :: hs') all rs (ancs all []) 0 && sameAllA C f all ia cc (ancs all []) ((s.h.new s.h.next .resv).bump :: has) all rs (ancs all []) 0 && joins C f s.h.next oa ((s.h.new s.h.next .resv).bump :: has) (b0 :: hs')) with
    | true => rfl
    | false => rw [hc] at e0; cases e0
  have e1 := bif_some e0
  simp only [Option.some.injEq] at e1
  subst e1
  simp only [Bool.and_eq_true] at hchk
  obtain ⟨⟨esame, esameA⟩, ejoin⟩ := hchk
  generalize hh0 : (s.h.new s.h.next .resv).bump = h0 at *
  have hr0 : HRel C ρ W σ h0 w := by rw [← hh0]; exact hs.h.reserve
  obtain ⟨j0, oa', hj0, hoa', hfree⟩ := freeAt_ok hia
  rw [Nat.zero_add] at hj0
  subst hj0
  obtain rfl := Option.some.inj (hoa.symm.trans hoa')
  obtain ⟨hguard, hbind, _⟩ := isFree_ok hfree
  have hal : (ancs all []).length = all.length := by rw [(ancs_spec (l := all) (acc := [])).1]; simp
  have hcl : cc.length = all.length := by rw [← hcc, chainFlags_len]
  have hccA : ∀ {i : Nat} {o : Oper}, all[i]? = some o → at' cc i = (changer C.P o.op && !Nat.beq i ia) := by
    intro i o h; rw [← hcc, chainFlags_at h, Nat.zero_add]
  obtain ⟨l1, l2, l3, l4, l5⟩ := recB_ok KV hrec (fun j o hj => by rw [Nat.zero_add]; exact hccA hj)
  have hiaL : ia < all.length := (List.getElem?_eq_some_iff.1 hoa).1
  have hcia : at' cc ia = false := by
    rw [hccA hoa, beq_true.2 rfl]; simp
  have hzero : cm cc (fun _ => false) all.length = 0 := by
    have : ∀ k, cm cc (fun _ => false) k = 0 := by intro k; induction k with | zero => rfl | succ k ih => simp [cm, ih]
    exact this _
  refine drawn_core (u := u) (g := g) (h0 := h0) hall hedge hord l3 (fun i o ho => let ⟨r, h1, _, h3, _⟩ := l5 i o ho; ⟨r, h1, h3⟩)
    (fun m => some (if m ia = true then Hs (b0 :: hs') (cm cc m all.length) else Hs (h0 :: has) (cm cc m all.length))) ?_ ?_ ?_ hs.tm hs.n hs.df hr0
    (fun τ a' w' h1 h2 h3 h4 h5 => hQ τ a' w' h1 ⟨h2, h3, h4, h5⟩)
  · rw [hzero]; rfl
  · intro m h hfull hh
    rw [if_pos (hfull ia hiaL), cm_all (fun j hj _ => hfull j hj)] at hh
    rw [l4]; exact (Option.some.inj hh).symm
  · intro m i o r h ho hr1 hmi hm hsi hf
    have hin : i < all.length := (List.getElem?_eq_some_iff.1 ho).1
    obtain ⟨r', hr1', hr2, hr3, hrv, hval⟩ := l5 i o ho
    obtain rfl := Option.some.inj (hr1.symm.trans hr1')
    rw [Nat.zero_add] at hrv hval
    have reads := reads_agree (rs := rs) (t0 := s.tmps) hord hm hmi hsi ho
    rw [← hr2] at reads
    obtain ⟨pre1, pre2, pre3⟩ := chain_prefix hcl hchain hm hmi hsi
    have bitsI : ∀ b, Nat.testBit (((ancs all [])[i]?).getD 0) b = true → m b = true := fun b hb => Shut.bits hm hsi hb
    have bitsJ : ∀ j b, m j = true → Nat.testBit (((ancs all [])[j]?).getD 0) b = true → m b = true := fun j b hj hb => Shut.bits hm (hm j hj) hb
    -- without the allocation only what doesn't need it has run
    have short : m ia = false → cm cc m all.length ≤ has.length := by
      intro hma
      have noBit : ∀ j, m j = true → Nat.testBit (((ancs all [])[j]?).getD 0) ia = false := by
        intro j hj
        cases hb : Nat.testBit (((ancs all [])[j]?).getD 0) ia with
        | false => rfl
        | true => have := bitsJ j ia hj hb; rw [hma] at this; cases this
      have upTo : ∀ k, k ≤ all.length → (∀ j, j < k → at' cc j = true → m j = true) → kappa cc k ≤ has.length := by
        intro k hk hall'
        cases k with
        | zero => rw [kappa_zero]; exact Nat.zero_le _
        | succ k => exact (runA_ok hA hcl hal l1 k (by omega) (fun l hl hat => noBit l (hall' l (by omega) hat))).1
      rcases least_not (p := at' cc) (m := m) all.length with h1 | ⟨k, h1, h2, h3, h4⟩
      · rw [cm_all h1]; exact upTo _ (Nat.le_refl _) h1
      · rw [cm_stop (k := k) (by omega) (fun j h5 h6 h7 => by
          by_cases c : j = k
          · subst c; exact h3
          · cases hc : m j with
            | false => rfl
            | true => have := bitsJ j k hc (chain_spec hchain (by omega) j h7 k (by omega) h2); rw [h3] at this; cases this), cm_all h4]
        exact upTo k (by omega) h4
    by_cases hiia : i = ia
    · -- the allocation
      subst hiia
      obtain rfl := Option.some.inj (hoa.symm.trans ho)
      rw [if_neg (by rw [hmi]; simp)] at hf
      obtain rfl := Option.some.inj hf
      obtain ⟨v1, hj⟩ := joins_ok ejoin (cm cc m all.length) (by simp only [List.length_cons]; have := short hmi; omega)
      have hv1 := allocAt_val hj
      refine ⟨_, rfl, ?_⟩
      rw [if_pos (by simp [addM]), cm_add hmi, hcia, hrv rfl, ← hv1]
      simpa using alloc_step (t := TM all rs s.tmps m all.length) (all := all) hguard hj
    · obtain ⟨f', hf', hval'⟩ := hval hiia
      have haddia : addM m i ia = m ia := by simp [addM]; intro h; exact absurd h.symm hiia
      have key : ∃ f'', f'' ≤ f ∧ ∃ h', (if m ia = true then Hs (b0 :: hs') (cm cc (addM m i) all.length) else Hs (h0 :: has) (cm cc (addM m i) all.length)) = h' ∧ valOp C f'' all o (TM all rs s.tmps m all.length) h = some (r.v, h') := by
        obtain rfl := Option.some.inj hf
        rw [cm_add hmi]
        cases hma : m ia with
        | true =>
          simp only [if_true]
          cases hc : at' cc i with
          | true =>
            refine ⟨f', by omega, _, rfl, ?_⟩
            rw [valOp_congr KV reads, pre1 hc]
            rw [kappa_succ, hc] at hval'
            simpa [hin] using hval'
          | false =>
            have hnc : changer C.P o.op = false := by
              have := hccA ho
              rw [hc, beq_false.2 hiia] at this
              simpa using this.symm
            obtain ⟨f2, g1, g2⟩ := sameAll_ok esame hal i o r ho hr1 hnc
            rw [Nat.zero_add] at g2
            have htop : cm cc m all.length ≤ hs'.length := by rw [l2]; exact cm_le
            have hhi := pre3 (lenL (b0 :: hs') - 1) (by simpa using htop)
            have hmem : Hs (b0 :: hs') (cm cc m all.length) ∈ takeL (highK cc i (lenL (b0 :: hs') - 1) cc (ancs all []) 0 + 1 - lowK cc (((ancs all [])[i]?).getD 0) cc 0) (dropL (lowK cc (((ancs all [])[i]?).getD 0) cc 0) (b0 :: hs')) := by
              generalize highK cc i (lenL (b0 :: hs') - 1) cc (ancs all []) 0 = hi at *
              generalize lowK cc (((ancs all [])[i]?).getD 0) cc 0 = lo at *
              rw [takeL_eq, dropL_eq]
              refine List.mem_of_getElem? (i := cm cc m all.length - lo) ?_
              rw [List.getElem?_take, if_pos (by omega), List.getElem?_drop, show lo + (cm cc m all.length - lo) = cm cc m all.length by omega]
              have hlt : cm cc m all.length < (b0 :: hs').length := by simp; omega
              unfold Hs
              rw [List.getElem?_eq_getElem hlt]; rfl
            obtain ⟨f3, g3, h', g4⟩ := same_ok g2 _ hmem
            refine ⟨f3, by omega, _, rfl, ?_⟩
            rw [valOp_congr KV reads]
            have hsm := valOp_same KV hnc g4
            rw [hsm] at g4
            simpa using g4
        | false =>
          simp only [Bool.false_eq_true, if_false]
          have hbit : Nat.testBit (((ancs all [])[i]?).getD 0) ia = false := by
            cases hb : Nat.testBit (((ancs all [])[i]?).getD 0) ia with
            | false => rfl
            | true => have := bitsI ia hb; rw [hma] at this; cases this
          cases hc : at' cc i with
          | true =>
            obtain ⟨_, g2⟩ := runA_ok hA hcl hal l1 i hin (fun l hl hat => by
              by_cases c : l = i
              · subst c; exact hbit
              · have hml := bitsI l (chain_spec hchain (by omega) i hc l (by omega) hat)
                cases hb : Nat.testBit (((ancs all [])[l]?).getD 0) ia with
                | false => rfl
                | true => have := bitsJ l ia hml hb; rw [hma] at this; cases this)
            obtain ⟨f3, g3, g4⟩ := g2 o r ho hr1 hc
            refine ⟨f3, by omega, _, rfl, ?_⟩
            rw [valOp_congr KV reads, pre1 hc]
            rw [kappa_succ, hc] at g4
            simpa [hin] using g4
          | false =>
            have hnc : changer C.P o.op = false := by
              have := hccA ho
              rw [hc, beq_false.2 hiia] at this
              simpa using this.symm
            obtain ⟨f2, g1, g2⟩ := sameAllA_ok esameA hal i o r ho hr1 hnc hbit
            rw [Nat.zero_add] at g2
            have htop := short hma
            have hhi := pre3 (lenL (h0 :: has) - 1) (by simpa using htop)
            have hmem : Hs (h0 :: has) (cm cc m all.length) ∈ takeL (highK cc i (lenL (h0 :: has) - 1) cc (ancs all []) 0 + 1 - lowK cc (((ancs all [])[i]?).getD 0) cc 0) (dropL (lowK cc (((ancs all [])[i]?).getD 0) cc 0) (h0 :: has)) := by
              generalize highK cc i (lenL (h0 :: has) - 1) cc (ancs all []) 0 = hi at *
              generalize lowK cc (((ancs all [])[i]?).getD 0) cc 0 = lo at *
              rw [takeL_eq, dropL_eq]
              refine List.mem_of_getElem? (i := cm cc m all.length - lo) ?_
              rw [List.getElem?_take, if_pos (by omega), List.getElem?_drop, show lo + (cm cc m all.length - lo) = cm cc m all.length by omega]
              have hlt : cm cc m all.length < (h0 :: has).length := by simp; omega
              unfold Hs
              rw [List.getElem?_eq_getElem hlt]; rfl
            obtain ⟨f3, g3, h', g4⟩ := same_ok g2 _ hmem
            refine ⟨f3, by omega, _, rfl, ?_⟩
            rw [valOp_congr KV reads]
            have hsm := valOp_same KV hnc g4
            rw [hsm] at g4
            simpa using g4
      obtain ⟨f'', hf'', h', hh', hval''⟩ := key
      exact ⟨h', by rw [haddia, hh'], hv f'' hf'' all o _ _ _ _ hval''⟩

/-- Everything is sound. -/
structure Good (C : Cx) (ρ : Env) (W : Base) (f : Nat) : Prop where
  call : CallOk C ρ W f
  callD : CallDOk C ρ W f
  val : ValOk C ρ W f
  run : RunOk C ρ W f
  drawn : DrawnOk C ρ W f
  drawnA : DrawnAOk C ρ W f
  exec : ExecOk C ρ W f
  loops : LoopsOk C ρ W f
  defers : DefersOk C ρ W f

theorem good (K0 : CxOk C) (hh : Hints C ρ) (ht : Told C ρ W) : ∀ f, Good C ρ W f := by
  intro f
  induction f using Nat.strongRecOn with
  | _ f ih =>
    cases f with
    | zero =>
      refine ⟨?_, ?_, ?_, ?_, ?_, ?_, ?_, ?_, ?_⟩
      · intro g args h v h' e; simp [call, fns] at e
      · intro g args h h' e; simp [callD, fns] at e
      · intro all o t h v h' e; simp [valOp, fns] at e
      · intro all rest s s' e; simp [runOps, fns] at e
      · intro ops s s' e; simp [drawn, fns] at e
      · intro ops s s' e; simp [drawnA, fns] at e
      · intro c s e s' h; simp [exec, fns] at h
      · intro b s e s' h; simp [loops, fns] at h
      · intro ds h h' e; simp [defers, fns] at e
    | succ f =>
      have G := ih f (by omega)
      exact ⟨call_step ht G.exec G.defers, callD_step G.exec, val_step K0 hh ht G.call, run_step K0 hh G.val G.run,
        drawn_step ht.toToldV (fun f' hf' => (ih f' (by omega)).val), drawnA_step ht.toToldV (fun f' hf' => (ih f' (by omega)).val), exec_step K0 ht G.exec G.loops G.run G.drawn G.drawnA, loops_step G.exec G.loops, defers_step G.callD G.defers⟩

theorem call_sound (K0 : CxOk C) (hh : Hints C ρ) (ht : Told C ρ W) {f : Nat} {g : FuncId} {args : List SV} {h h' : SH} {v : SV} (e : call C f g args h = some (v, h')) {σ : Sg} {A : Array Value} {w : World} (hA : VRels σ ρ args A.toList) (hr : HRel C ρ W σ h w) :
    Calls C.P g A w (fun e w' => ∃ V τ, σ.le τ ∧ e = .returned V ∧ VRel τ ρ v V ∧ HRel C ρ W τ h' w') :=
  (good K0 hh ht f).call g args h v h' e σ A w hA hr
end
end Go.Sx
