/- The runner is sound: regions that draw their order. -/
import Derived.Test.YtacbfdokeiechaaGreatDoorSxRun
namespace Go.Sx
open Go

/-! ### the masks -/
theorem bit_ancOf {acc : List Nat} {b : Nat} : ∀ {l : List Nat}, Nat.testBit (ancOf acc l) b = true → ∃ e ∈ l, b = e ∨ Nat.testBit ((acc[e]?).getD 0) b = true
  | [], h => by simp [ancOf] at h
  | e :: r, h => by
    simp only [ancOf, Nat.testBit_or, Bool.or_eq_true, getL_eq, Nat.testBit_two_pow, decide_eq_true_eq] at h
    rcases h with (h | h) | h
    · exact ⟨e, by simp, .inl h.symm⟩
    · exact ⟨e, by simp, .inr h⟩
    · obtain ⟨e', h1, h2⟩ := bit_ancOf h; exact ⟨e', by simp [h1], h2⟩
theorem ancs_spec : ∀ {l : List Oper} {acc : List Nat},
    (ancs l acc).length = acc.length + l.length ∧ (∀ k, k < acc.length → (ancs l acc)[k]? = acc[k]?) ∧
    ∀ k o, l[k]? = some o → (ancs l acc)[acc.length + k]? = some (ancOf ((ancs l acc).take (acc.length + k)) (binding o))
  | [], acc => by simp [ancs]
  | o :: r, acc => by
    obtain ⟨h1, h2, h3⟩ := ancs_spec (l := r) (acc := acc ++ [ancOf acc (binding o)])
    simp only [ancs]
    refine ⟨by rw [h1]; simp; omega, fun k hk => ?_, fun k o' hk => ?_⟩
    · rw [h2 k (by simp; omega), List.getElem?_append_left hk]
    · cases k with
      | zero =>
        simp only [List.getElem?_cons_zero, Option.some.injEq] at hk; subst hk
        rw [Nat.add_zero, h2 acc.length (by simp)]
        have ht : (ancs r (acc ++ [ancOf acc (binding o)])).take acc.length = acc := by
          apply List.ext_getElem?
          intro j
          rw [List.getElem?_take]
          split
          · rw [h2 j (by simp; omega), List.getElem?_append_left (by omega)]
          · rw [List.getElem?_eq_none (by omega)]
        rw [ht]; simp
      | succ k =>
        simp only [List.getElem?_cons_succ] at hk
        have := h3 k o' hk
        simp only [List.length_append, List.length_cons, List.length_nil] at this
        rw [show acc.length + (k + 1) = acc.length + (0 + 1) + k by omega]
        exact this
theorem bit_anc {all : List Oper} {i b : Nat} (h : Nat.testBit (((ancs all [])[i]?).getD 0) b = true) :
    ∃ o, all[i]? = some o ∧ ∃ e ∈ binding o, b = e ∨ (e < i ∧ Nat.testBit (((ancs all [])[e]?).getD 0) b = true) := by
  obtain ⟨h1, _, h3⟩ := ancs_spec (l := all) (acc := [])
  cases ho : all[i]? with
  | none =>
    rw [List.getElem?_eq_none (by rw [h1]; simp; exact List.getElem?_eq_none_iff.1 ho)] at h
    simp at h
  | some o =>
    have := h3 i o ho
    simp only [List.length_nil, Nat.zero_add] at this
    rw [this] at h
    obtain ⟨e, he, hb⟩ := bit_ancOf h
    refine ⟨o, rfl, e, he, ?_⟩
    rcases hb with rfl | hb
    · exact .inl rfl
    · right
      rw [List.getElem?_take] at hb
      split at hb
      · exact ⟨‹_›, hb⟩
      · simp at hb

/-- A set of operations that holds what stands ahead of each. -/
def Shut (all : List Oper) (m : Nat → Bool) (i : Nat) : Prop := ∀ o, all[i]? = some o → ∀ e ∈ binding o, m e = true
theorem Shut.bits {all : List Oper} {m : Nat → Bool} (hm : ∀ j, m j = true → Shut all m j) : ∀ {i b : Nat}, Shut all m i → Nat.testBit (((ancs all [])[i]?).getD 0) b = true → m b = true := by
  intro i
  induction i using Nat.strongRecOn with
  | _ i ih =>
    intro b hs hb
    obtain ⟨o, ho, e, he, h⟩ := bit_anc hb
    have hme := hs o ho e he
    rcases h with rfl | ⟨h1, h2⟩
    · exact hme
    · exact ih e h1 (hm e hme) h2

theorem edges_spec : ∀ {l : List Oper} {i : Nat}, edgesDown l i = true → ∀ k o, l[k]? = some o → ∀ e ∈ binding o, e < i + k
  | [], _, _, k, o, h => by simp at h
  | x :: l, i, H, k, o, h => by
    simp only [edgesDown, Bool.and_eq_true, List.all_eq_true] at H
    cases k with
    | zero =>
      simp at h; subst h
      intro e he
      have := blt_true.1 (H.1 e he); omega
    | succ k =>
      simp at h
      intro e he
      have := edges_spec H.2 k o h e he; omega

theorem row_spec {i : Nat} {rs : List Nat} {di : Option Tmp} {ai : Nat} : ∀ {l : List Oper} {as : List Nat} {j : Nat}, orderRow i rs di ai l as j = true → as.length = l.length →
    ∀ k o d, l[k]? = some o → o.dst = some d → (memN d rs = true ∨ di = some d) → i ≠ j + k → (j + k < i → Nat.testBit ai (j + k) = true) ∧ (i < j + k → Nat.testBit ((as[k]?).getD 0) i = true)
  | [], _, _, _, _, k, o, d, h, _, _, _ => by simp at h
  | x :: l, [], j, H, hl, k, o, d, h, hd, hr, hne => by simp at hl
  | x :: l, aj :: as, j, H, hl, k, o, d, h, hd, hr, hne => by
    simp only [orderRow, Bool.and_eq_true] at H
    obtain ⟨H1, H2⟩ := H
    cases k with
    | zero =>
      simp at h; subst h
      rw [hd] at H1
      simp only [Bool.or_eq_true, Nat.add_zero, List.getElem?_cons_zero, Option.getD_some] at *
      have hb : Nat.beq i j = false := beq_false.2 hne
      replace H1 : (bif Nat.blt j i then Nat.testBit ai j else Nat.testBit aj i) = true := by
        rcases H1 with (h | h) | h
        · rw [hb] at h; cases h
        · exfalso
          rcases hr with hr | hr
          · simp [hr] at h
          · subst hr; simp at h
        · exact h
      refine ⟨fun hlt => ?_, fun hlt => ?_⟩
      · rw [blt_true.2 hlt] at H1; exact H1
      · have : Nat.blt j i = false := by
          cases hc : Nat.blt j i with
          | false => rfl
          | true => have := blt_true.1 hc; omega
        rw [this] at H1; exact H1
    | succ k =>
      simp at h
      have := row_spec H2 (by simpa using hl) k o d h hd hr (by omega)
      rw [show j + (k + 1) = j + 1 + k by omega]
      simpa using this
theorem order_spec {all : List Oper} {anc : List Nat} (hlen : anc.length = all.length) : ∀ {l : List Oper} {as : List Nat} {i : Nat}, orderOk all anc l as i = true → as.length = l.length →
    ∀ k o, l[k]? = some o → ∀ j o' d, all[j]? = some o' → o'.dst = some d → (memN d (readsOf all o) = true ∨ o.dst = some d) → i + k ≠ j →
    (j < i + k → Nat.testBit ((as[k]?).getD 0) j = true) ∧ (i + k < j → Nat.testBit ((anc[j]?).getD 0) (i + k) = true)
  | [], _, _, _, _, k, o, h => by simp at h
  | x :: l, [], _, _, hl, _, _, _ => by simp at hl
  | x :: l, ai :: as, i, H, hl, k, o, h => by
    simp only [orderOk, Bool.and_eq_true] at H
    cases k with
    | zero =>
      simp at h; subst h
      intro j o' d h1 h2 h3 hne
      have := row_spec H.1 hlen j o' d h1 h2 h3 (by omega)
      simpa using this
    | succ k =>
      simp at h
      intro j o' d h1 h2 h3 hne
      have := order_spec hlen H.2 (by simpa using hl) k o h j o' d h1 h2 h3 (by omega)
      rw [show i + (k + 1) = i + 1 + k by omega]
      simpa using this

theorem memN_true {n : Nat} : ∀ {l : List Nat}, memN n l = true ↔ n ∈ l
  | [] => by simp [memN]
  | m :: r => by
    simp only [memN, Bool.or_eq_true, List.mem_cons, memN_true (l := r)]
    rw [beq_true]

/-! ### the changers -/
def at' (ch : List Bool) (i : Nat) : Bool := (ch[i]?).getD false
theorem changers_at {P : Program} : ∀ {l : List Oper} {i : Nat} {o : Oper}, l[i]? = some o → at' (changers P l) i = changer P o.op
  | [], i, o, h => by simp at h
  | x :: l, 0, o, h => by simp at h; subst h; rfl
  | x :: l, i + 1, o, h => by simp at h; exact changers_at (l := l) h
theorem changers_len {P : Program} : ∀ {l : List Oper}, (changers P l).length = l.length
  | [] => rfl
  | x :: l => by simp [changers, changers_len (l := l)]
theorem kappa_succ : ∀ (cs : List Bool) (i : Nat), kappa cs (i + 1) = kappa cs i + (if at' cs i then 1 else 0)
  | [], 0 => rfl
  | [], i + 1 => rfl
  | c :: cs, 0 => by cases c <;> simp [kappa, at'] <;> cases cs <;> rfl
  | c :: cs, i + 1 => by
    have ih := kappa_succ cs i
    have e : at' (c :: cs) (i + 1) = at' cs i := by simp [at']
    rw [e]
    cases c
    · show kappa cs (i + 1) = kappa cs i + _
      exact ih
    · show kappa cs (i + 1) + 1 = kappa cs i + 1 + _
      omega
theorem kappa_zero (cs : List Bool) : kappa cs 0 = 0 := by cases cs <;> rfl

theorem chainRow_spec {ai : Nat} : ∀ {cs : List Bool} {j k : Nat}, chainRow ai cs j k = true → ∀ l, l < k → at' cs l = true → Nat.testBit ai (j + l) = true
  | _, _, 0, _, l, h, _ => by omega
  | [], _, _ + 1, _, l, _, h => by simp [at'] at h
  | c :: cs, j, k + 1, H, l, hl, h => by
    simp only [chainRow, Bool.and_eq_true, Bool.or_eq_true, Bool.not_eq_true'] at H
    cases l with
    | zero =>
      have : c = true := by simpa [at'] using h
      subst this
      simpa using H.1
    | succ l =>
      rw [show j + (l + 1) = j + 1 + l by omega]
      exact chainRow_spec H.2 l (by omega) (by simpa [at'] using h)
theorem chain_spec {all : List Bool} : ∀ {cs : List Bool} {as : List Nat} {i : Nat}, chainOk all cs as i = true → as.length = cs.length →
    ∀ k, at' cs k = true → ∀ j, j < i + k → at' all j = true → Nat.testBit ((as[k]?).getD 0) j = true
  | [], _, _, _, _, k, h => by simp [at'] at h
  | c :: cs, [], _, _, hl, _, _ => by simp at hl
  | c :: cs, a :: as, i, H, hl, k, h => by
    simp only [chainOk, Bool.and_eq_true, Bool.or_eq_true, Bool.not_eq_true'] at H
    cases k with
    | zero =>
      have : c = true := by simpa [at'] using h
      subst this
      intro j hj ha
      have h1 : chainRow a all 0 i = true := by rcases H.1 with h | h; · cases h
                                                · exact h
      simpa using chainRow_spec h1 j hj ha
    | succ k =>
      intro j hj ha
      simpa using chain_spec H.2 (by simpa using hl) k (by simpa [at'] using h) j (by omega) ha

theorem low_spec {all : List Bool} {ai K : Nat} : ∀ {cs : List Bool} {j : Nat}, (∀ l, at' cs l = true → Nat.testBit ai (j + l) = true → kappa all (j + l) + 1 ≤ K) → lowK all ai cs j ≤ K
  | [], _, _ => Nat.zero_le _
  | c :: cs, j, H => by
    have h2 := low_spec (cs := cs) (j := j + 1) (fun l h1 h2 => by
      have := H (l + 1) (by simpa [at'] using h1) (by rw [show j + (l + 1) = j + 1 + l by omega]; exact h2)
      rw [show j + (l + 1) = j + 1 + l by omega] at this; exact this)
    simp only [lowK]
    refine Nat.max_le.2 ⟨?_, h2⟩
    cases hc : c && Nat.testBit ai j with
    | false => exact Nat.zero_le _
    | true =>
      simp only [Bool.and_eq_true] at hc
      exact H 0 (by simp [at', hc.1]) (by simpa using hc.2)
theorem high_spec {all : List Bool} {i top K : Nat} (ht : K ≤ top) : ∀ {cs : List Bool} {as : List Nat} {j : Nat}, (∀ l, at' cs l = true → Nat.testBit ((as[l]?).getD 0) i = true → K ≤ kappa all (j + l)) → K ≤ highK all i top cs as j
  | [], _, _, _ => ht
  | c :: cs, [], _, _ => ht
  | c :: cs, a :: as, j, H => by
    have h2 := high_spec ht (cs := cs) (as := as) (j := j + 1) (fun l h1 h2 => by
      have := H (l + 1) (by simpa [at'] using h1) (by simpa using h2)
      rw [show j + (l + 1) = j + 1 + l by omega] at this; exact this)
    simp only [highK]
    refine Nat.le_min.2 ⟨?_, h2⟩
    cases hc : c && Nat.testBit a i with
    | false => exact ht
    | true =>
      simp only [Bool.and_eq_true] at hc
      have := H 0 (by simp [at', hc.1]) (by simpa using hc.2)
      simpa using this

/-- How many changers of a set stand below k. -/
def cm (ch : List Bool) (m : Nat → Bool) : Nat → Nat
  | 0 => 0
  | k + 1 => cm ch m k + (if m k && at' ch k then 1 else 0)
theorem cm_all {ch : List Bool} {m : Nat → Bool} : ∀ {k : Nat}, (∀ j, j < k → at' ch j = true → m j = true) → cm ch m k = kappa ch k
  | 0, _ => by rw [kappa_zero]; rfl
  | k + 1, H => by
    rw [kappa_succ, cm, cm_all (fun j hj => H j (by omega))]
    cases hc : at' ch k with
    | false => simp
    | true => rw [H k (by omega) hc]; rfl
theorem cm_stop {ch : List Bool} {m : Nat → Bool} {k : Nat} : ∀ {l : Nat}, k ≤ l → (∀ j, k ≤ j → j < l → at' ch j = true → m j = false) → cm ch m l = cm ch m k
  | 0, h, _ => by rw [Nat.le_zero.1 h]
  | l + 1, h, H => by
    by_cases c : k = l + 1
    · rw [c]
    · rw [cm, cm_stop (l := l) (by omega) (fun j h1 h2 => H j h1 (by omega))]
      cases hc : at' ch l with
      | false => simp
      | true => rw [H l (by omega) (by omega) hc]; rfl
theorem cm_le {ch : List Bool} {m : Nat → Bool} : ∀ {k : Nat}, cm ch m k ≤ kappa ch k
  | 0 => Nat.zero_le _
  | k + 1 => by
    have := cm_le (ch := ch) (m := m) (k := k)
    rw [cm, kappa_succ]
    cases at' ch k <;> cases m k <;> simp <;> omega
theorem cm_mono {ch : List Bool} {m : Nat → Bool} {k : Nat} : ∀ {l : Nat}, k ≤ l → cm ch m k ≤ cm ch m l
  | 0, h => by rw [Nat.le_zero.1 h]; exact Nat.le_refl _
  | l + 1, h => by
    by_cases c : k = l + 1
    · rw [c]; exact Nat.le_refl _
    · have := cm_mono (ch := ch) (m := m) (l := l) (by omega : k ≤ l)
      rw [cm]; omega
def addM (m : Nat → Bool) (i : Nat) : Nat → Bool := fun j => if j = i then true else m j
theorem cm_add {ch : List Bool} {m : Nat → Bool} {i : Nat} (hi : m i = false) : ∀ {k : Nat}, cm ch (addM m i) k = cm ch m k + (if i < k ∧ at' ch i = true then 1 else 0)
  | 0 => rfl
  | k + 1 => by
    rw [cm, cm, cm_add hi (k := k)]
    by_cases c : k = i
    · subst c
      rw [show addM m k k = true by simp [addM], hi]
      cases at' ch k <;> simp
    · rw [show addM m i k = m k by simp [addM, c]]
      by_cases c2 : i < k
      · simp [c2, show i < k + 1 by omega]; omega
      · simp [c2, show ¬ i < k + 1 by omega]
/-- How many of a set stand below k. -/
def nm (m : Nat → Bool) : Nat → Nat
  | 0 => 0
  | k + 1 => nm m k + (if m k then 1 else 0)
theorem nm_le {m : Nat → Bool} : ∀ {k : Nat}, nm m k ≤ k
  | 0 => Nat.zero_le _
  | k + 1 => by have := nm_le (m := m) (k := k); rw [nm]; split <;> omega
theorem nm_full {m : Nat → Bool} : ∀ {k : Nat}, nm m k = k → ∀ j, j < k → m j = true
  | 0, _, j, h => by omega
  | k + 1, e, j, h => by
    have := nm_le (m := m) (k := k)
    rw [nm] at e
    split at e
    · by_cases c : j = k
      · subst c; assumption
      · exact nm_full (k := k) (by omega) j (by omega)
    · omega
theorem nm_add {m : Nat → Bool} {i : Nat} (hi : m i = false) : ∀ {k : Nat}, i < k → nm (addM m i) k = nm m k + 1
  | 0, h => by omega
  | k + 1, h => by
    by_cases c : i = k
    · subst c
      have : ∀ l, l ≤ i → nm (addM m i) l = nm m l := by
        intro l
        induction l with
        | zero => intro _; rfl
        | succ l ih => intro hl; rw [nm, nm, ih (by omega), show addM m i l = m l by simp [addM]; omega]
      rw [nm, nm, this i (Nat.le_refl _), hi]; simp [addM]
    · rw [nm, nm, nm_add hi (by omega : i < k), show addM m i k = m k by simp [addM]; omega]; omega

/-! ### slots -/
def stepT (t : Tr SV) (o : Option Oper) (r : Option Rec) : Tr SV :=
  match o, r with
  | some o, some r => (match o.dst with | none => t | some d => t.set d r.v)
  | _, _ => t
def TM (l : List Oper) (rs : List Rec) (t : Tr SV) (m : Nat → Bool) : Nat → Tr SV
  | 0 => t
  | k + 1 => cond (m k) (stepT (TM l rs t m k) l[k]? rs[k]?) (TM l rs t m k)
def yes : Nat → Bool := fun _ => true
theorem TM_cons {o : Oper} {l : List Oper} {r : Rec} {rs : List Rec} {t : Tr SV} : ∀ {k : Nat}, TM (o :: l) (r :: rs) t yes (k + 1) = TM l rs (stepT t (some o) (some r)) yes k
  | 0 => rfl
  | k + 1 => by rw [TM, TM_cons (k := k), TM]; rfl
/-- Does operation k write x? -/
def writes (l : List Oper) (k x : Nat) : Prop := ∃ o, l[k]? = some o ∧ o.dst = some x
theorem TM_skip {l : List Oper} {rs : List Rec} {t : Tr SV} {m : Nat → Bool} {k x : Nat} (h : m k = false ∨ ¬ writes l k x) : (TM l rs t m (k + 1)).get x = (TM l rs t m k).get x := by
  rw [TM]
  cases hm : m k with
  | false => rfl
  | true =>
    simp only [cond_true]
    rcases h with h | h
    · rw [hm] at h; cases h
    · unfold stepT
      split
      · rename_i o r ho _
        cases hd : o.dst with
        | none => rfl
        | some d =>
          simp only
          rw [Tr.get_set, if_neg]
          rintro rfl
          exact h ⟨o, ho, hd⟩
      · rfl
theorem TM_write {l : List Oper} {rs : List Rec} {t : Tr SV} {m : Nat → Bool} {k x : Nat} {o : Oper} {r : Rec} (hm : m k = true) (ho : l[k]? = some o) (hr : rs[k]? = some r) (hd : o.dst = some x) :
    (TM l rs t m (k + 1)).get x = some r.v := by
  rw [TM, hm]
  simp only [cond_true, stepT, ho, hr, hd]
  rw [Tr.get_set, if_pos rfl]
theorem TM_agree {l : List Oper} {rs : List Rec} {t : Tr SV} {m m' : Nat → Bool} {x : Nat} : ∀ {k : Nat}, (∀ j, j < k → writes l j x → m j = m' j) → (TM l rs t m k).get x = (TM l rs t m' k).get x
  | 0, _ => rfl
  | k + 1, H => by
    have ih := TM_agree (l := l) (rs := rs) (t := t) (m := m) (m' := m') (x := x) (k := k) (fun j hj => H j (by omega))
    by_cases hw : writes l k x
    · have e := H k (by omega) hw
      cases hm : m k with
      | false => rw [TM_skip (.inl hm), TM_skip (.inl (e ▸ hm)), ih]
      | true =>
        obtain ⟨o, ho, hd⟩ := hw
        cases hr : rs[k]? with
        | none => rw [TM, TM, hm, ← e, hm]; simp only [cond_true, ho, hr, stepT]; exact ih
        | some r => rw [TM_write hm ho hr hd, TM_write (e ▸ hm) ho hr hd]
    · rw [TM_skip (.inr hw), TM_skip (.inr hw), ih]
theorem TM_past {l : List Oper} {rs : List Rec} {t : Tr SV} {m : Nat → Bool} {x i : Nat} : ∀ {k : Nat}, i ≤ k → (∀ j, i ≤ j → j < k → writes l j x → m j = false) → (TM l rs t m k).get x = (TM l rs t m i).get x
  | 0, h, _ => by rw [Nat.le_zero.1 h]
  | k + 1, h, H => by
    by_cases c : i = k + 1
    · rw [c]
    · have ih := TM_past (l := l) (rs := rs) (t := t) (m := m) (k := k) (by omega) (fun j h1 h2 => H j h1 (by omega))
      by_cases hw : writes l k x
      · rw [TM_skip (.inl (H k (by omega) (by omega) hw)), ih]
      · rw [TM_skip (.inr hw), ih]
end Go.Sx
