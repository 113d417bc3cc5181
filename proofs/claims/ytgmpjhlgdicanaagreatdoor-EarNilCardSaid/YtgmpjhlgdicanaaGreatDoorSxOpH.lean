/- Maps; lengths; texts that share bytes; iterators over texts. -/
import Derived.Test.YtgmpjhlgdicanaaGreatDoorSxOpG
namespace Go.Sx
open Go

section
variable {C : Cx} {ρ : Env} {W w : World} {σ : Sg} {h : SH} {tm : Tr SV} {a : Act}

theorem checkKey_ok {P : Program} {t : TypeId} {d : TypeDesc} (hu : P.underlying t = some d) (hd : (∃ k, d = .int k) ∨ d = .string ∨ d = .bool) (em : Bool) (n : Nat) (v : Value) (w : World) :
    (Instr.checkKey em (n + 1) t v).run P w = .ok () w := by
  rcases hd with ⟨k, rfl⟩ | rfl | rfl <;> cases v <;> simp [Instr.checkKey, run_underlying hu]

/-- Does a key stand there? -/
theorem sameKey_ok {k x : SV} {K X : Value} {b : Bool} {d : TypeDesc} (e : sameKey k x = some b) (hk : VRel σ ρ k K) (hx : VRel σ ρ x X) (hd : ((∃ j m, K = .int j m) → ∃ k, d = .int k) ∧ ((∃ s, K = .string s) → d = .string) ∧ ((∃ s, K = .bool s) → d = .bool)) :
    Instr.sameNow d K X = some b ∧ (b = true → Instr.sameBits 10000 K X = true ∧ Instr.sameBits 10000 X K = true) := by
  unfold sameKey at e
  split at e
  · rename_i j m k n
    simp only [VRel, IE.ev] at hk hx
    obtain ⟨_, h1, rfl⟩ := hk; obtain rfl := Option.some.inj h1
    obtain ⟨_, h1, rfl⟩ := hx; obtain rfl := Option.some.inj h1
    obtain ⟨kk, rfl⟩ := hd.1 ⟨_, _, rfl⟩
    by_cases c : j = k
    · subst c
      rw [decide_eq_true rfl] at e; simp only [cond_true, Option.some.injEq] at e
      subst e
      refine ⟨by simp [Instr.sameNow], fun hb => ?_⟩
      have hb' : m = n := by simpa using hb
      subst hb'
      simp [Instr.sameBits]
    · rw [decide_eq_false c] at e; cases e
  · simp only [VRel] at hk hx
    obtain ⟨s1, rfl⟩ := hk; obtain ⟨s2, rfl⟩ := hx
    obtain rfl := hd.2.1 ⟨_, rfl⟩
    obtain rfl := Option.some.inj e
    rw [eqL_eq]
    refine ⟨by simp [Instr.sameNow, bytes_beq s1 s2], fun hb => ?_⟩
    have hb' := of_decide_eq_true hb
    subst hb'
    simp [Instr.sameBits, bytes_beq s1 s1]
  · simp only [VRel, BE.ev] at hk hx
    obtain ⟨_, h1, rfl⟩ := hk; obtain rfl := Option.some.inj h1
    obtain ⟨_, h1, rfl⟩ := hx; obtain rfl := Option.some.inj h1
    obtain rfl := hd.2.2 ⟨_, rfl⟩
    obtain rfl := Option.some.inj e
    refine ⟨by simp [Instr.sameNow], fun hb => ?_⟩
    have hb' := by simpa using hb
    subst hb'
    simp [Instr.sameBits]
  · cases e

theorem findS_ok {k : SV} {K : Value} {d : TypeDesc} (hk : VRel σ ρ k K) (hd : ((∃ j m, K = .int j m) → ∃ k, d = .int k) ∧ ((∃ s, K = .string s) → d = .string) ∧ ((∃ s, K = .bool s) → d = .bool)) :
    ∀ {es : List (SV × SV)} {ES : List MapEntry} {i : Nat} {r : Option (Nat × SV)}, findS k es i = some r → VRels σ ρ (es.map (·.1)) (ES.map (·.key)) → VRels σ ρ (es.map (·.2)) (ES.map (·.val)) →
      match r with
      | none => Instr.findNow d K ES i = some none
      | some (j, v) => ∃ V, Instr.findNow d K ES i = some (some (j, V)) ∧ VRel σ ρ v V ∧ i ≤ j ∧ ∃ E, ES[j - i]? = some E ∧ E.val = V ∧ Instr.sameBits 10000 E.key K = true
  | [], ES, i, r, e, h1, h2 => by
    simp only [findS, Option.some.injEq] at e; subst e
    simp only [List.map_nil, VRels, List.map_eq_nil_iff] at h1; subst h1
    rfl
  | (x, v) :: es, ES, i, r, e, h1, h2 => by
    cases ES with
    | nil => simp [VRels] at h1
    | cons E ES =>
      simp only [List.map_cons, VRels, List.cons.injEq] at h1 h2
      obtain ⟨_, _, ⟨rfl, rfl⟩, hx, h1⟩ := h1
      obtain ⟨_, _, ⟨rfl, rfl⟩, hv, h2⟩ := h2
      simp only [findS] at e
      split at e
      · rename_i hs
        obtain ⟨g1, g2⟩ := sameKey_ok hs hk hx hd
        obtain rfl := Option.some.inj e
        refine ⟨E.val, by simp [Instr.findNow, g1], hv, Nat.le_refl _, E, by simp, rfl, (g2 rfl).2⟩
      · rename_i hs
        obtain ⟨g1, _⟩ := sameKey_ok hs hk hx hd
        have ih := findS_ok hk hd e h1 h2
        cases r with
        | none => simp only at ih ⊢; simp [Instr.findNow, g1, ih]
        | some q =>
          obtain ⟨j, v'⟩ := q
          simp only at ih ⊢
          obtain ⟨V, f1, f2, f3, E', f4, f5, f6⟩ := ih
          refine ⟨V, by simp [Instr.findNow, g1, f1], f2, by omega, E', ?_, f5, f6⟩
          rw [show j - i = (j - (i + 1)) + 1 by omega, List.getElem?_cons_succ]
          exact f4
      · cases e

theorem keyFits_ok {P : Program} {t : TypeId} {k : SV} {K : Value} (e : keyFits P t k = true) (hk : VRel σ ρ k K) : ∃ d, P.underlying t = some d ∧ ((∃ k, d = .int k) ∨ d = .string ∨ d = .bool) ∧
    (((∃ j m, K = .int j m) → ∃ k, d = .int k) ∧ ((∃ s, K = .string s) → d = .string) ∧ ((∃ s, K = .bool s) → d = .bool)) := by
  unfold keyFits at e
  split at e
  · rename_i kk j m hu
    simp only [VRel] at hk; obtain ⟨n, _, rfl⟩ := hk
    exact ⟨_, hu, .inl ⟨kk, rfl⟩, fun _ => ⟨kk, rfl⟩, (fun ⟨s, h⟩ => by cases h), (fun ⟨s, h⟩ => by cases h)⟩
  · rename_i s hu
    have : ∃ S, K = .string S := by cases s <;> simp only [VRel] at hk <;> obtain ⟨_, h⟩ := hk <;> first | exact ⟨_, h⟩ | exact ⟨_, h.2⟩
    obtain ⟨S, rfl⟩ := this
    exact ⟨_, hu, .inr (.inl rfl), (fun ⟨_, s, h⟩ => by cases h), fun _ => rfl, (fun ⟨s, h⟩ => by cases h)⟩
  · rename_i b hu
    simp only [VRel] at hk; obtain ⟨n, _, rfl⟩ := hk
    exact ⟨_, hu, .inr (.inr rfl), (fun ⟨_, s, h⟩ => by cases h), (fun ⟨s, h⟩ => by cases h), fun _ => rfl⟩
  · cases e

theorem run_findKey {P : Program} {t : TypeId} {d : TypeDesc} {K : Value} {ES : List MapEntry} {r : Option (Nat × Value)} (hu : P.underlying t = some d) (e : Instr.findNow d K ES 0 = some r) (w : World) :
    (Instr.findKey t K ES).run P w = .ok r w := by
  simp [Instr.findKey, run_underlying hu, e]

theorem HRel.mapAt (r : HRel C ρ W σ h w) {id : Nat} {es : List (SV × SV)} (hg : h.blocks.get id = some (.map es)) :
    ∃ p ES clock, σ id = some p ∧ w.heap[p.block]? = some (.map ES clock) ∧ VRels σ ρ (es.map (·.1)) (ES.toList.map (·.key)) ∧ VRels σ ρ (es.map (·.2)) (ES.toList.map (·.val)) ∧
      (∀ e ∈ ES.toList, e.born < clock) ∧ (ES.toList.map (·.born)).Pairwise (· < ·) := by
  obtain ⟨p, o, hp, ho, es', clock, rfl, h1⟩ := r.blk id _ hg
  exact ⟨p, es', clock, hp, ho, h1⟩
theorem run_getObj_map {P : Program} {b : Nat} {ES : Array MapEntry} {clock : Nat} (hw : w.heap[b]? = some (.map ES clock)) : (getObj b).run P w = .ok (.map ES clock) w := by
  simp [getObj, Sem.run, hw]
theorem run_setObj_of {P : Program} {b : Nat} {o o' : Obj} (hw : w.heap[b]? = some o) (ho : ∀ c e f, o ≠ .cells c e f) : (setObj b o').run P w = .ok () { w with heap := w.heap.setIfInBounds b o' } := by
  cases o <;> first | exact absurd rfl (ho _ _ _) | simp [setObj, Sem.run, hw]

theorem entriesS_ok (r : HRel C ρ W σ h w) {m : SV} {M : Value} {es : List (SV × SV)} (e : entriesS h m = some es) (hm : VRel σ ρ m M) :
    (M = .map none ∧ es = []) ∨ ∃ id p ES clock, m = .map id ∧ h.blocks.get id = some (.map es) ∧ σ id = some p ∧ M = .map (some p.block) ∧ w.heap[p.block]? = some (.map ES clock) ∧
      VRels σ ρ (es.map (·.1)) (ES.toList.map (·.key)) ∧ VRels σ ρ (es.map (·.2)) (ES.toList.map (·.val)) ∧ (∀ e ∈ ES.toList, e.born < clock) ∧ (ES.toList.map (·.born)).Pairwise (· < ·) := by
  unfold entriesS at e
  split at e
  · obtain rfl := Option.some.inj e
    simp only [VRel] at hm
    exact .inl ⟨hm, rfl⟩
  · rename_i id
    split at e
    · rename_i es' hg
      obtain rfl := Option.some.inj e
      obtain ⟨p, ES, clock, hp, hw, h1⟩ := r.mapAt hg
      simp only [VRel] at hm; obtain ⟨p', hp', rfl⟩ := hm
      rw [hp] at hp'; obtain rfl := Option.some.inj hp'
      exact .inr ⟨id, p, ES, clock, rfl, hg, hp, rfl, hw, h1⟩
    · cases e
  · cases e

theorem okPair_ok {v : SV} {V : Value} (ok b : Bool) (r : VRel σ ρ v V) : VRel σ ρ (okPair ok v b) (if ok then .tuple #[V, .bool b] else V) := by
  cases ok
  · simpa [okPair] using r
  · simp only [okPair, cond_true, if_true, VRel]
    exact ⟨_, rfl, by simp [VRels, r, VRel, BE.ev]⟩

theorem lookupS_ok (r : HRel C ρ W σ h w) {t : TypeId} {m k v : SV} {M K : Value} {ok : Bool} (e : lookupS C.P h t m k ok = some v) (hm : VRel σ ρ m M) (hk : VRel σ ρ k K) :
    OpOk C ρ W σ w (do pure (.value (← Instr.lookup t M K ok))) (.val v h) := by
  unfold lookupS at e
  split at e
  case h_2 => cases e
  rename_i kt et hu
  cases hf : keyFits C.P kt k with
  | false => rw [hf] at e; cases e
  | true =>
  rw [hf] at e; simp only [cond_true] at e
  obtain ⟨d, hd, hd3, hd4⟩ := keyFits_ok hf hk
  have hck := fun em => checkKey_ok hd hd3 em 9999 K w
  split at e
  · cases e
  rename_i es he
  rcases entriesS_ok r he hm with ⟨rfl, rfl⟩ | ⟨id, p, ES, clock, rfl, hg, hp, rfl, hw, h1, h2, _⟩
  · simp only [findS] at e
    cases hz : zeroP C.P et with
    | none => rw [hz] at e; cases e
    | some z =>
      rw [hz] at e; simp only [Option.map_some, Option.some.injEq] at e; subst e
      obtain ⟨Z, hZ, hr⟩ := run_zero hz
      refine OpOk.val (Sg.le_refl _) ?_ (okPair_ok ok false (hr σ ρ)) r
      have hfk := run_findKey (K := K) (ES := []) hd rfl w
      simp only [Instr.lookup, Sem.run_bind, run_underlying hu, Result.andThen_ok, Sem.run_pure]
      rw [hck]
      simp only [Result.andThen_ok]
      rw [hfk]
      simp only [Result.andThen_ok, Sem.run_bind, hZ, Sem.run_pure]
  · split at e
    · cases e
    · rename_i i v' hfind
      obtain rfl := Option.some.inj e
      obtain ⟨V, hnow, hv, _⟩ := findS_ok hk hd4 hfind h1 h2
      have hfk := run_findKey (K := K) hd hnow w
      refine OpOk.val (Sg.le_refl _) ?_ (okPair_ok ok true hv) r
      simp only [Instr.lookup, Sem.run_bind, run_underlying hu, Result.andThen_ok, Sem.run_pure, run_getObj_map hw]
      rw [hck]
      simp only [Result.andThen_ok, hfk]
      rfl
    · rename_i hfind
      have hnow := findS_ok hk hd4 hfind h1 h2
      have hfk := run_findKey (K := K) hd hnow w
      cases hz : zeroP C.P et with
      | none => rw [hz] at e; cases e
      | some z =>
        rw [hz] at e; simp only [Option.map_some, Option.some.injEq] at e; subst e
        obtain ⟨Z, hZ, hr⟩ := run_zero hz
        refine OpOk.val (Sg.le_refl _) ?_ (okPair_ok ok false (hr σ ρ)) r
        simp only [Instr.lookup, Sem.run_bind, run_underlying hu, Result.andThen_ok, Sem.run_pure, run_getObj_map hw]
        rw [hck]
        simp only [Result.andThen_ok, hfk, Sem.run_bind, hZ, Sem.run_pure]

theorem setAt_get (l : List (SV × SV)) : ∀ (i : Nat) (x : SV × SV), setAt l i x = l.set i x := by
  induction l with
  | nil => intro i x; simp [setAt]
  | cons a l ih => intro i x; cases i <;> simp [setAt, ih]
theorem dropAt_get (l : List (SV × SV)) : ∀ (i : Nat), dropAt l i = l.eraseIdx i := by
  induction l with
  | nil => intro i; simp [dropAt]
  | cons a l ih => intro i; cases i <;> simp [dropAt, ih]
theorem map_erase {α β : Type} (f : α → β) (l : List α) : ∀ i, (l.eraseIdx i).map f = (l.map f).eraseIdx i := by
  induction l with
  | nil => intro i; simp
  | cons a l ih => intro i; cases i <;> simp [ih]
theorem VRels.set {l : List SV} {L : List Value} (r : VRels σ ρ l L) {v : SV} {V : Value} (hv : VRel σ ρ v V) (i : Nat) : VRels σ ρ (l.set i v) (L.set i V) := by
  have hl := r.length
  refine VRels.of_get (by simp [hl]) fun j a A ha hA => ?_
  rw [List.getElem?_set] at ha hA
  by_cases c : i = j
  · rw [if_pos c] at ha hA
    split at ha
    · split at hA
      · obtain rfl := Option.some.inj ha; obtain rfl := Option.some.inj hA; exact hv
      · cases hA
    · cases ha
  · rw [if_neg c] at ha hA
    obtain ⟨A', hA', hr⟩ := r.get ha
    rw [hA'] at hA; obtain rfl := Option.some.inj hA
    exact hr
theorem VRels.eraseIdx {l : List SV} : ∀ {L : List Value}, VRels σ ρ l L → ∀ i, VRels σ ρ (l.eraseIdx i) (L.eraseIdx i) := by
  induction l with
  | nil => intro L r i; simp only [VRels] at r; subst r; simp [VRels]
  | cons a l ih =>
    intro L r i
    simp only [VRels] at r
    obtain ⟨x, xs, rfl, r1, r2⟩ := r
    cases i with
    | zero => simpa using r2
    | succ i => simp only [List.eraseIdx_cons_succ, VRels]; exact ⟨x, _, rfl, r1, ih r2 i⟩

theorem updateS_ok (r : HRel C ρ W σ h w) {t : TypeId} {m k v : SV} {M K V : Value} {h' : SH} (e : updateS C h t m k v = some h') (hm : VRel σ ρ m M) (hk : VRel σ ρ k K) (hv : VRel σ ρ v V) :
    OpOk C ρ W σ w (do Instr.mapUpdate t M K V; pure .skip) (.skip h') := by
  unfold updateS at e
  split at e
  case h_2 => cases e
  rename_i kt et id hu
  cases hf : keyFits C.P kt k with
  | false => rw [hf] at e; cases e
  | true =>
  rw [hf] at e; simp only [cond_true] at e
  obtain ⟨d, hd, hd3, hd4⟩ := keyFits_ok hf hk
  have hck := fun em => checkKey_ok hd hd3 em 9999 K w
  split at e
  case h_2 => cases e
  rename_i es hg
  obtain ⟨p, ES, clock, hp, hw, h1, h2, h3, h4⟩ := r.mapAt hg
  simp only [VRel] at hm; obtain ⟨p', hp', rfl⟩ := hm
  rw [hp] at hp'; obtain rfl := Option.some.inj hp'
  split at e
  · cases e
  · rename_i i v' hfind
    obtain ⟨V', hnow, _, _, E, hE, _, hsame⟩ := findS_ok hk hd4 hfind h1 h2
    rw [Nat.sub_zero, Array.getElem?_toList] at hE
    have hfk := run_findKey (K := K) hd hnow w
    have hset := run_setObj_of (P := C.P) (o' := .map (ES.modify i fun e => { e with key := K, val := V }) clock) hw (fun _ _ _ h => by cases h)
    refine OpOk.skip (Sg.le_refl _) (w' := { w with heap := w.heap.setIfInBounds p.block (.map (ES.modify i fun e => { e with key := K, val := V }) clock) }) ?_ (r.turn hg hp (Upd.set hw) ?_ e)
    · simp only [Instr.mapUpdate, Sem.run_bind, run_underlying hu, Result.andThen_ok, run_getObj_map hw]
      rw [hck]
      simp only [Result.andThen_ok, hfk, Sem.run_bind, hE, Option.map_some, Option.getD_some, Instr.keyThatStays, hsame, if_true, Sem.run_pure, hset]
    · have hmod : (ES.modify i fun e => { e with key := K, val := V }).toList = ES.toList.set i { E with key := K, val := V } := by
        apply List.ext_getElem?
        intro j
        rw [Array.getElem?_toList, Array.getElem?_modify, List.getElem?_set]
        by_cases c : i = j
        · subst c
          have hi : i < ES.toList.length := by rw [Array.length_toList]; exact (Array.getElem?_eq_some_iff.1 hE).1
          rw [if_pos rfl, if_pos rfl, if_pos hi, hE]; rfl
        · rw [if_neg c, if_neg c, Array.getElem?_toList]
      have hborn : ({ E with key := K, val := V } : MapEntry).born = E.born := rfl
      refine ⟨_, clock, rfl, ?_, ?_, ?_, ?_⟩
      · rw [hmod, setAt_get, List.map_set, List.map_set]; exact h1.set hk i
      · rw [hmod, setAt_get, List.map_set, List.map_set]; exact h2.set hv i
      · intro x hx
        rw [hmod] at hx
        rcases List.mem_or_eq_of_mem_set hx with hx | rfl
        · exact h3 x hx
        · exact h3 E (List.mem_of_getElem? (i := i) (by rw [Array.getElem?_toList]; exact hE))
      · rw [hmod, List.map_set]
        have : (ES.toList.map (·.born)).set i E.born = ES.toList.map (·.born) := by
          apply List.ext_getElem?
          intro j
          rw [List.getElem?_set]
          by_cases c : i = j
          · subst c
            have hi : i < ES.toList.length := by rw [Array.length_toList]; exact (Array.getElem?_eq_some_iff.1 hE).1
            rw [if_pos rfl, if_pos (by simpa using hi), List.getElem?_map, Array.getElem?_toList, hE]; rfl
          · rw [if_neg c]
        rw [this]; exact h4
  · rename_i hfind
    have hnow := findS_ok hk hd4 hfind h1 h2
    have hfk := run_findKey (K := K) hd hnow w
    have hset := run_setObj_of (P := C.P) (o' := .map (ES.push { key := K, val := V, born := clock }) (clock + 1)) hw (fun _ _ _ h => by cases h)
    refine OpOk.skip (Sg.le_refl _) (w' := { w with heap := w.heap.setIfInBounds p.block (.map (ES.push { key := K, val := V, born := clock }) (clock + 1)) }) ?_ (r.turn hg hp (Upd.set hw) ?_ e)
    · simp only [Instr.mapUpdate, Sem.run_bind, run_underlying hu, Result.andThen_ok, run_getObj_map hw]
      rw [hck]
      simp only [Result.andThen_ok, hfk, hset]
    · refine ⟨_, clock + 1, rfl, ?_, ?_, ?_, ?_⟩
      · rw [Array.toList_push, List.map_append, List.map_append]; exact h1.append (VRels.one hk)
      · rw [Array.toList_push, List.map_append, List.map_append]; exact h2.append (VRels.one hv)
      · intro x hx
        rw [Array.toList_push, List.mem_append, List.mem_singleton] at hx
        rcases hx with hx | rfl
        · have := h3 x hx; omega
        · simp
      · rw [Array.toList_push, List.map_append, List.pairwise_append]
        refine ⟨h4, by simp, fun x hx y hy => ?_⟩
        simp at hy; subst hy
        obtain ⟨E, hE, rfl⟩ := List.mem_map.1 hx
        exact h3 E hE

theorem deleteS_ok (r : HRel C ρ W σ h w) {t ty : TypeId} {ts : List TypeId} {m k : SV} {M K : Value} {h' : SH} (e : deleteS C h t m k = some h') (hm : VRel σ ρ m M) (hk : VRel σ ρ k K) :
    OpOk C ρ W σ w (do pure (.value (← Builtin.delete_ (t :: ts).toArray ty #[M, K]))) (.val undefS h') := by
  unfold deleteS at e
  split at e
  · rename_i kt et hu
    cases hf : keyFits C.P kt k with
    | false => rw [hf] at e; cases e
    | true =>
      rw [hf] at e; simp only [cond_true] at e
      obtain rfl := Option.some.inj e
      obtain ⟨d, hd, hd3, hd4⟩ := keyFits_ok hf hk
      simp only [VRel] at hm; subst hm
      have hck := fun em => checkKey_ok hd hd3 em 9999 K w
      refine OpOk.val (Sg.le_refl _) (V := .tuple #[]) ?_ (by simp [undefS, VRel, VRels]) r
      unfold Builtin.delete_
      simp [run_underlying hu, hck]
  · rename_i kt et id hu
    cases hf : keyFits C.P kt k with
    | false => rw [hf] at e; cases e
    | true =>
      rw [hf] at e; simp only [cond_true] at e
      obtain ⟨d, hd, hd3, hd4⟩ := keyFits_ok hf hk
      have hck := fun em => checkKey_ok hd hd3 em 9999 K w
      split at e
      case h_2 => cases e
      rename_i es hg
      obtain ⟨p, ES, clock, hp, hw, h1, h2, h3, h4⟩ := r.mapAt hg
      simp only [VRel] at hm; obtain ⟨p', hp', rfl⟩ := hm
      rw [hp] at hp'; obtain rfl := Option.some.inj hp'
      split at e
      · cases e
      · rename_i i v' hfind
        obtain ⟨V', hnow, _, _, E, hE, _, hsame⟩ := findS_ok hk hd4 hfind h1 h2
        have hfk := run_findKey (K := K) hd hnow w
        have hset := run_setObj_of (P := C.P) (o' := .map (ES.eraseIdxIfInBounds i) clock) hw (fun _ _ _ h => by cases h)
        refine OpOk.val (Sg.le_refl _) (V := .tuple #[]) (w' := { w with heap := w.heap.setIfInBounds p.block (.map (ES.eraseIdxIfInBounds i) clock) }) ?_ (by simp [undefS, VRel, VRels]) (r.turn hg hp (Upd.set hw) ?_ e)
        · unfold Builtin.delete_
          simp [run_underlying hu, hck, run_getObj_map hw, hfk, hset]
        · have her : (ES.eraseIdxIfInBounds i).toList = ES.toList.eraseIdx i := by simp
          refine ⟨_, clock, rfl, ?_, ?_, ?_, ?_⟩
          · rw [her, dropAt_get, map_erase, map_erase]; exact h1.eraseIdx i
          · rw [her, dropAt_get, map_erase, map_erase]; exact h2.eraseIdx i
          · intro x hx; rw [her] at hx; exact h3 x (List.mem_of_mem_eraseIdx hx)
          · rw [her, map_erase]; exact h4.sublist (List.eraseIdx_sublist _ _)
      · rename_i hfind
        have hnow := findS_ok hk hd4 hfind h1 h2
        have hfk := run_findKey (K := K) hd hnow w
        have hset := run_setObj_of (P := C.P) (o' := .map ES clock) hw (fun _ _ _ h => by cases h)
        refine OpOk.val (Sg.le_refl _) (V := .tuple #[]) (w' := { w with heap := w.heap.setIfInBounds p.block (.map ES clock) }) ?_ (by simp [undefS, VRel, VRels]) (r.turn (sb' := .map es) hg hp (Upd.set hw) ⟨ES, clock, rfl, h1, h2, h3, h4⟩ e)
        unfold Builtin.delete_
        simp [run_underlying hu, hck, run_getObj_map hw, hfk, hset]
  · cases e

theorem lenS_ok (r : HRel C ρ W σ h w) {t ty : TypeId} {ts : List TypeId} {x : SV} {X : Value} {n : Nat} (e : lenS C h t x = some n) (hx : VRel σ ρ x X) :
    (Builtin.len_ (t :: ts).toArray ty #[X]).run C.P w = .ok (.int .i64 (n : Int)) w := by
  unfold lenS at e
  split at e
  · rename_i l hu
    obtain rfl := Option.some.inj e
    simp only [VRel] at hx; obtain ⟨_, rfl⟩ := hx
    unfold Builtin.len_; simp [run_underlying hu, goInt, bytes_size]
  · rename_i k el hu
    obtain rfl := Option.some.inj e
    unfold Builtin.len_; simp only [List.getElem?_toArray, List.getElem?_cons_zero, Sem.run_bind, run_underlying hu, Result.andThen_ok]
    cases X <;> rfl
  · rename_i el hu
    split at e
    · rename_i k el' hu'
      obtain rfl := Option.some.inj e
      unfold Builtin.len_; simp only [List.getElem?_toArray, List.getElem?_cons_zero, Sem.run_bind, run_underlying hu, Result.andThen_ok]
      cases X <;> simp [run_underlying hu', goInt]
    · cases e
  · rename_i hu
    obtain rfl := Option.some.inj e
    simp only [VRel] at hx; subst hx
    unfold Builtin.len_; simp [run_underlying hu, goInt]
  · rename_i id off k room hu
    obtain rfl := Option.some.inj e
    have hX : ∃ a c, X = .slice a k c := by
      cases room <;> simp only [VRel] at hx
      · obtain ⟨_, _, rfl⟩ := hx; exact ⟨_, _, rfl⟩
      · obtain ⟨_, _, _, rfl, _⟩ := hx; exact ⟨_, _, rfl⟩
    obtain ⟨_, _, rfl⟩ := hX
    unfold Builtin.len_; simp [run_underlying hu, goInt]
  · rename_i hu
    obtain rfl := Option.some.inj e
    simp only [VRel] at hx; subst hx
    unfold Builtin.len_; simp [run_underlying hu, goInt]
  · rename_i id hu
    split at e
    · rename_i es hg
      obtain rfl := Option.some.inj e
      obtain ⟨p, ES, clock, hp, hw, h1, _⟩ := r.mapAt hg
      simp only [VRel] at hx; obtain ⟨p', hp', rfl⟩ := hx
      rw [hp] at hp'; obtain rfl := Option.some.inj hp'
      have := h1.length
      simp only [List.length_map, Array.length_toList] at this
      unfold Builtin.len_; simp [run_underlying hu, goInt, run_getObj_map hw, this]
    · cases e
  · cases e

end
end Go.Sx
