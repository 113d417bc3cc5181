/- Maps; lengths; texts that share bytes; iterators over texts. -/
import Derived.Test.YtacbfdokeiechaaGreatDoorSxOpG
import Derived.ChangeKeysEq
import Derived.WideKeyRuns
namespace Go.Sx
open Go

section
variable {C : Cx} {ρ : Env} {W : Base} {w : World} {σ : Sg} {h : SH} {tm : Tr SV} {a : Act}

theorem checkKey_ok {P : Program} {t : TypeId} {d : TypeDesc} (hu : P.underlying t = some d) (hd : (∃ k, d = .int k) ∨ d = .string ∨ d = .bool) (em : Bool) (n : Nat) (v : Value) (w : World) :
    (Instr.checkKey em (n + 1) t v).run P w = .ok () w := by
  rcases hd with ⟨k, rfl⟩ | rfl | rfl <;> cases v <;> simp [Instr.checkKey, run_underlying hu]

/-- Does a key stand there? -/
theorem sameKey_ok (hh : Hints C ρ) {k x : SV} {K X : Value} {b : Bool} {d : TypeDesc} (e : sameKey C k x = some b) (hk : VRel σ ρ k K) (hx : VRel σ ρ x X) (hd : ((∃ j m, K = .int j m) → ∃ k, d = .int k) ∧ ((∃ s, K = .string s) → d = .string) ∧ ((∃ s, K = .bool s) → d = .bool)) :
    Instr.sameNow d K X = some b ∧ (b = true → Instr.sameBits 10000 K X = true ∧ Instr.sameBits 10000 X K = true) := by
  unfold sameKey at e
  split at e
  · rename_i j m k n
    simp only [VRel, IE.ev] at hk hx
    obtain ⟨_, h1, rfl⟩ := hk; obtain rfl := Option.some.inj h1
    obtain ⟨_, h1, rfl⟩ := hx; obtain rfl := Option.some.inj h1
    obtain ⟨kk, rfl⟩ := hd.1 ⟨_, _, rfl⟩
    by_cases c : j = k
    · subst c
      rw [decide_eq_true rfl] at e; simp only [cond_true, Option.some.injEq] at e
      subst e
      refine ⟨by simp [Instr.sameNow], fun hb => ?_⟩
      have hb' : m = n := by simpa using hb
      subst hb'
      simp [Instr.sameBits]
    · rw [decide_eq_false c] at e; cases e
  · simp only [VRel] at hk hx
    obtain ⟨s1, rfl⟩ := hk; obtain ⟨s2, rfl⟩ := hx
    obtain rfl := hd.2.1 ⟨_, rfl⟩
    obtain rfl := Option.some.inj e
    rw [eqL_eq]
    refine ⟨by simp [Instr.sameNow, bytes_beq s1 s2], fun hb => ?_⟩
    have hb' := of_decide_eq_true hb
    subst hb'
    simp [Instr.sameBits, bytes_beq s1 s1]
  · simp only [VRel, BE.ev] at hk hx
    obtain ⟨_, h1, rfl⟩ := hk; obtain rfl := Option.some.inj h1
    obtain ⟨_, h1, rfl⟩ := hx; obtain rfl := Option.some.inj h1
    obtain rfl := hd.2.2 ⟨_, rfl⟩
    obtain rfl := Option.some.inj e
    refine ⟨by simp [Instr.sameNow], fun hb => ?_⟩
    have hb' := by simpa using hb
    subst hb'
    simp [Instr.sameBits]
  · rename_i j m k n _
    simp only [VRel] at hk hx
    obtain ⟨m', hm, rfl⟩ := hk
    obtain ⟨n', hn, rfl⟩ := hx
    obtain ⟨kk, rfl⟩ := hd.1 ⟨_, _, rfl⟩
    by_cases c : j = k
    · subst c
      rw [decide_eq_true rfl] at e; simp only [cond_true] at e
      have := litB_ok hh e (c := m' == n') (by simp only [BE.ev, hm, hn, op2b])
      subst this
      refine ⟨by simp [Instr.sameNow], fun hb => ?_⟩
      have hb' : m' = n' := by simpa using hb
      subst hb'
      simp [Instr.sameBits]
    · rw [decide_eq_false c] at e; cases e
  · rename_i u v _
    obtain ⟨s1, h1, rfl⟩ := str_rel.1 hk
    obtain ⟨s2, h2, rfl⟩ := str_rel.1 hx
    obtain rfl := hd.2.1 ⟨_, rfl⟩
    have := litB_ok hh e (c := s1.toList == s2.toList) (by simp only [BE.ev, h1, h2, opSb])
    subst this
    refine ⟨by simp [Instr.sameNow, beq_toListBytes], fun hb => ?_⟩
    have hb' : (s1 == s2) = true := by rw [beq_toListBytes]; exact hb
    have hb2 : (s2 == s1) = true := by rw [beq_toListBytes] at hb' ⊢; simpa using (by simpa using hb' : s1.toList = s2.toList).symm
    simp [Instr.sameBits, hb', hb2]
  · cases e

theorem findS_ok (hh : Hints C ρ) {k : SV} {K : Value} {d : TypeDesc} (hk : VRel σ ρ k K) (hd : ((∃ j m, K = .int j m) → ∃ k, d = .int k) ∧ ((∃ s, K = .string s) → d = .string) ∧ ((∃ s, K = .bool s) → d = .bool)) :
    ∀ {es : List (SV × SV)} {ES : List MapEntry} {i : Nat} {r : Option (Nat × SV)}, findS C k es i = some r → VRels σ ρ (es.map (·.1)) (ES.map (·.key)) → VRels σ ρ (es.map (·.2)) (ES.map (·.val)) →
      match r with
      | none => Instr.findNow d K ES i = some none
      | some (j, v) => ∃ V, Instr.findNow d K ES i = some (some (j, V)) ∧ VRel σ ρ v V ∧ i ≤ j ∧ ∃ E, ES[j - i]? = some E ∧ E.val = V ∧ Instr.sameBits 10000 E.key K = true
  | [], ES, i, r, e, h1, h2 => by
    simp only [findS, Option.some.injEq] at e; subst e
    simp only [List.map_nil, VRels, List.map_eq_nil_iff] at h1; subst h1
    rfl
  | (x, v) :: es, ES, i, r, e, h1, h2 => by
    cases ES with
    | nil => simp [VRels] at h1
    | cons E ES =>
      simp only [List.map_cons, VRels, List.cons.injEq] at h1 h2
      obtain ⟨_, _, ⟨rfl, rfl⟩, hx, h1⟩ := h1
      obtain ⟨_, _, ⟨rfl, rfl⟩, hv, h2⟩ := h2
      simp only [findS] at e
      split at e
      · rename_i hs
        obtain ⟨g1, g2⟩ := sameKey_ok hh hs hk hx hd
        obtain rfl := Option.some.inj e
        refine ⟨E.val, by simp [Instr.findNow, g1], hv, Nat.le_refl _, E, by simp, rfl, (g2 rfl).2⟩
      · rename_i hs
        obtain ⟨g1, _⟩ := sameKey_ok hh hs hk hx hd
        have ih := findS_ok hh hk hd e h1 h2
        cases r with
        | none => simp only at ih ⊢; simp [Instr.findNow, g1, ih]
        | some q =>
          obtain ⟨j, v'⟩ := q
          simp only at ih ⊢
          obtain ⟨V, f1, f2, f3, E', f4, f5, f6⟩ := ih
          refine ⟨V, by simp [Instr.findNow, g1, f1], f2, by omega, E', ?_, f5, f6⟩
          rw [show j - i = (j - (i + 1)) + 1 by omega, List.getElem?_cons_succ]
          exact f4
      · cases e

theorem keyFits_ok {P : Program} {t : TypeId} {k : SV} {K : Value} (e : keyFits P t k = true) (hk : VRel σ ρ k K) : ∃ d, P.underlying t = some d ∧ ((∃ k, d = .int k) ∨ d = .string ∨ d = .bool) ∧
    (((∃ j m, K = .int j m) → ∃ k, d = .int k) ∧ ((∃ s, K = .string s) → d = .string) ∧ ((∃ s, K = .bool s) → d = .bool)) := by
  unfold keyFits at e
  split at e
  · rename_i kk j m hu
    simp only [VRel] at hk; obtain ⟨n, _, rfl⟩ := hk
    exact ⟨_, hu, .inl ⟨kk, rfl⟩, fun _ => ⟨kk, rfl⟩, (fun ⟨s, h⟩ => by cases h), (fun ⟨s, h⟩ => by cases h)⟩
  · rename_i s hu
    have : ∃ S, K = .string S := let ⟨S, _, e⟩ := str_rel.1 hk; ⟨S, e⟩
    obtain ⟨S, rfl⟩ := this
    exact ⟨_, hu, .inr (.inl rfl), (fun ⟨_, s, h⟩ => by cases h), fun _ => rfl, (fun ⟨s, h⟩ => by cases h)⟩
  · rename_i b hu
    simp only [VRel] at hk; obtain ⟨n, _, rfl⟩ := hk
    exact ⟨_, hu, .inr (.inr rfl), (fun ⟨_, s, h⟩ => by cases h), (fun ⟨s, h⟩ => by cases h), fun _ => rfl⟩
  · cases e

theorem run_findKey {P : Program} {t : TypeId} {d : TypeDesc} {K : Value} {ES : List MapEntry} {r : Option (Nat × Value)} (hu : P.underlying t = some d) (e : Instr.findNow d K ES 0 = some r) (w : World) :
    (Instr.findKey t K ES).run P w = .ok r w := by
  simp [Instr.findKey, run_underlying hu, e]

/-! ### keys that are arrays of texts -/
theorem allStr_get {l : List SV} {L : List Value} (ha : allStr l = true) (r : VRels σ ρ l L) : ∀ V ∈ L, ∃ S, V = .string S := by
  induction l generalizing L with
  | nil => simp only [VRels] at r; subst r; simp
  | cons v l ih =>
    cases v <;> simp only [allStr, Bool.false_eq_true] at ha
    simp only [VRels] at r
    obtain ⟨x, xs, rfl, r1, r2⟩ := r
    obtain ⟨S, _, rfl⟩ := str_rel.1 r1
    intro V hV
    rcases List.mem_cons.1 hV with rfl | hV
    · exact ⟨S, rfl⟩
    · exact ih ha r2 V hV
theorem arrayKey_ok {t : TypeId} {cs : List SV} (e : arrayKey C.P t cs = true) :
    ∃ n el i, C.P.underlying t = some (.array n el) ∧ C.P.underlying el = some .string ∧ C.P.info? el = some i ∧ i.size = 1 ∧ n = cs.length ∧ allStr cs = true := by
  unfold arrayKey at e
  split at e
  · rename_i n el hu
    split at e
    · rename_i he hs
      simp only [Bool.and_eq_true, beq_true, lenL_eq] at e
      unfold sizeP at hs
      cases hi : C.P.info? el with
      | none => rw [hi] at hs; cases hs
      | some i => rw [hi] at hs; simp at hs; exact ⟨n, el, i, hu, he, hi, hs, e.1, e.2⟩
    · cases e
  · cases e
theorem run_partStr {P : Program} {e : TypeId} {cs : Array Value} {off : Nat} {V : Value} (hu : P.underlying e = some .string) (h : cs[off]? = some V) (w : World) : (part e cs off).run P w = .ok V w := by
  have ha : (isAgg e).run P w = .ok false w := by simp [isAgg, underlying, hu]
  simp [part, ha, h]
theorem run_checkArray {t el : TypeId} {n : Nat} {i : TypeInfo} (hu : C.P.underlying t = some (.array n el)) (he : C.P.underlying el = some .string) (hi : C.P.info? el = some i) (hs : i.size = 1) {A : Array Value}
    (hn : n = A.size) (hA : ∀ V ∈ A.toList, ∃ S, V = .string S) (em : Bool) (w : World) : (Instr.checkKey em 10000 t (.agg A)).run C.P w = .ok () w := by
  rw [show (10000 : Nat) = 9999 + 1 from rfl, Instr.checkKey]
  simp only [Sem.run_bind, run_underlying hu, Result.andThen_ok]
  simp only [Std.Legacy.Range.forIn_eq_forIn_range', Std.Legacy.Range.size, Nat.sub_zero, Nat.add_one_sub_one, Nat.div_one]
  have each : ∀ j ∈ List.range' 0 n, ∃ S, A[j]? = some (.string S) := by
    intro j hj
    have hj' : j < A.size := by have := (List.mem_range'_1.1 hj); omega
    obtain ⟨S, hS⟩ := hA (A[j]) (by simp)
    exact ⟨S, by rw [Array.getElem?_eq_getElem hj', hS]⟩
  generalize List.range' 0 n = is at each
  induction is with
  | nil => simp
  | cons j is ih =>
    obtain ⟨S, hS⟩ := each j (by simp)
    have p1 := run_partStr (P := C.P) (cs := A) (off := j * 1) he (by rw [Nat.mul_one]; exact hS) w
    have p2 : (Instr.checkKey em 9999 el (.string S)).run C.P w = .ok () w := checkKey_ok he (.inr (.inl rfl)) em 9998 (.string S) w
    have p0 : (sizeOf el).run C.P w = .ok 1 w := Go.Sx.run_sizeOf (by simp [sizeP, hi, hs]) w
    simp only [List.forIn_cons, Sem.run_bind, p0, Result.andThen_ok, p1, p2, Sem.run_pure]
    exact ih (fun y hy => each y (by simp [hy]))

theorem sameStrs_ok (hh : Hints C ρ) {el : TypeId} (he : C.P.underlying el = some .string) {i : TypeInfo} (hi : C.P.info? el = some i) (hs : i.size = 1) : ∀ {a b : List SV} {r : Bool} {A B : Array Value} {j : Nat}, sameStrs C a b = some r →
    VRels σ ρ a (A.toList.drop j) → VRels σ ρ b (B.toList.drop j) →
    (∀ w, (Op.eqItems 9999 el 1 A B (List.range' j a.length)).run C.P w = .ok r w) ∧
    (r = true → ((A.toList.drop j).zip (B.toList.drop j)).all (fun (x, y) => Instr.sameBits 9999 x y) = true ∧ ((B.toList.drop j).zip (A.toList.drop j)).all (fun (x, y) => Instr.sameBits 9999 x y) = true ∧ (A.toList.drop j).length = (B.toList.drop j).length)
  | [], [], r, A, B, j, e, ha, hb => by
    simp only [sameStrs, Option.some.injEq] at e; subst e
    simp only [VRels] at ha hb
    refine ⟨fun w => by simp [Op.eqItems], fun _ => ?_⟩
    rw [ha, hb]; simp
  | vx :: a, vy :: b, r, A, B, j, e, ha, hb => by
    obtain ⟨x, y, rfl, rfl⟩ : ∃ x y, vx = .str x ∧ vy = .str y := by
      cases vx <;> cases vy <;> first | exact ⟨_, _, rfl, rfl⟩ | (simp [sameStrs] at e)
    simp only [VRels] at ha hb
    obtain ⟨V, L, ha0, hx, ha⟩ := ha
    obtain ⟨V', L', hb0, hy, hb⟩ := hb
    have gA : A[j]? = some V := by rw [← Array.getElem?_toList]; have := congrArg (·[0]?) ha0; simpa using this
    have gB : B[j]? = some V' := by rw [← Array.getElem?_toList]; have := congrArg (·[0]?) hb0; simpa using this
    have tA : A.toList.drop (j + 1) = L := by rw [← List.drop_drop, ha0]; rfl
    have tB : B.toList.drop (j + 1) = L' := by rw [← List.drop_drop, hb0]; rfl
    obtain ⟨s1, h1, rfl⟩ := str_rel.1 hx
    obtain ⟨s2, h2, rfl⟩ := str_rel.1 hy
    simp only [sameStrs] at e
    have key : ∀ {c : Bool}, sameKey C (.str x) (.str y) = some c → (s1 == s2) = c := by
      intro c hc
      have := (sameKey_ok (d := .string) hh hc hx hy ⟨(fun ⟨_, _, h⟩ => by cases h), (fun _ => rfl), (fun ⟨_, h⟩ => by cases h)⟩).1
      simpa [Instr.sameNow] using this
    have hq : ∀ w, (Op.equalIn 9999 el (.string s1) (.string s2)).run C.P w = .ok (s1 == s2) w := fun w => by
      rw [show (9999 : Nat) = 9998 + 1 from rfl, run_equalIn_string w 9998 el s1 s2 he, beq_toListBytes]
    have pA := fun w => run_partStr (P := C.P) (cs := A) (off := j * 1) he (by rw [Nat.mul_one]; exact gA) w
    have pB := fun w => run_partStr (P := C.P) (cs := B) (off := j * 1) he (by rw [Nat.mul_one]; exact gB) w
    split at e
    · rename_i hk
      have hk' := key hk
      obtain ⟨g1, g2⟩ := sameStrs_ok hh he hi hs (A := A) (B := B) (j := j + 1) e (by rw [tA]; exact ha) (by rw [tB]; exact hb)
      refine ⟨fun w => ?_, fun hr => ?_⟩
      · simp only [List.length_cons, List.range'_succ, Op.eqItems, Sem.run_bind, pA, pB, hq, hk', Result.andThen_ok, Bool.not_true, Bool.false_eq_true, if_false]
        exact g1 w
      · obtain ⟨q1, q2, q3⟩ := g2 hr
        rw [tA, tB] at q1 q2 q3
        rw [ha0, hb0]
        have hk2 : (s2 == s1) = true := by rw [beq_toListBytes] at hk' ⊢; simpa using (by simpa using hk' : s1.toList = s2.toList).symm
        refine ⟨?_, ?_, ?_⟩
        · simp only [List.zip_cons_cons, List.all_cons, Bool.and_eq_true]; exact ⟨by simp [Instr.sameBits, hk'], q1⟩
        · simp only [List.zip_cons_cons, List.all_cons, Bool.and_eq_true]; exact ⟨by simp [Instr.sameBits, hk2], q2⟩
        · simp [q3]
    · rename_i hk
      have hk' := key hk
      obtain rfl := Option.some.inj e
      refine ⟨fun w => ?_, fun hr => by cases hr⟩
      simp only [List.length_cons, List.range'_succ, Op.eqItems, Sem.run_bind, pA, pB, hq, hk', Result.andThen_ok, Bool.not_false, if_true, Sem.run_pure]
    · cases e
  | [], _ :: _, _, _, _, _, e, _, _ => by simp [sameStrs] at e
  | v :: _, [], _, _, _, _, e, _, _ => by cases v <;> simp [sameStrs] at e

theorem findA_ok (hh : Hints C ρ) {t el : TypeId} {i : TypeInfo} {ks : List SV} {A : Array Value} (hu : C.P.underlying t = some (.array ks.length el)) (he : C.P.underlying el = some .string) (hi : C.P.info? el = some i) (hs : i.size = 1)
    (hk : VRels σ ρ ks A.toList) : ∀ {es : List (SV × SV)} {ES : List MapEntry} {j : Nat} {r : Option (Nat × SV)}, findA C ks es j = some r → VRels σ ρ (es.map (·.1)) (ES.map (·.key)) → VRels σ ρ (es.map (·.2)) (ES.map (·.val)) →
      match r with
      | none => ∀ w, (Instr.findAsking t (.agg A) ES j).run C.P w = .ok none w
      | some (q, v) => ∃ V, (∀ w, (Instr.findAsking t (.agg A) ES j).run C.P w = .ok (some (q, V)) w) ∧ VRel σ ρ v V ∧ j ≤ q ∧ ∃ E, ES[q - j]? = some E ∧ E.val = V ∧ Instr.sameBits 10000 E.key (.agg A) = true
  | [], ES, j, r, e, h1, h2 => by
    simp only [findA, Option.some.injEq] at e; subst e
    simp only [List.map_nil, VRels, List.map_eq_nil_iff] at h1; subst h1
    exact fun w => by simp [Instr.findAsking]
  | (x, v) :: es, ES, j, r, e, h1, h2 => by
    cases ES with
    | nil => simp [VRels] at h1
    | cons E ES =>
      simp only [List.map_cons, VRels, List.cons.injEq] at h1 h2
      obtain ⟨_, _, ⟨rfl, rfl⟩, hx, h1⟩ := h1
      obtain ⟨_, _, ⟨rfl, rfl⟩, hv, h2⟩ := h2
      cases x <;> simp only [findA, reduceCtorEq] at e
      rename_i cs
      simp only [VRel] at hx
      obtain ⟨B, hB, hx⟩ := hx
      have heq : ∀ {c : Bool}, sameStrs C ks cs = some c → (∀ w, (Op.equal t (.agg A) E.key).run C.P w = .ok c w) ∧ (c = true → Instr.sameBits 10000 E.key (.agg A) = true) := by
        intro c hc
        obtain ⟨g1, g2⟩ := sameStrs_ok hh he hi hs (A := A) (B := B) (j := 0) hc (by simpa using hk) (by simpa using hx)
        refine ⟨fun w => ?_, fun hct => ?_⟩
        · rw [hB, show Op.equal t (.agg A) (.agg B) = Op.equalIn (9999 + 1) t (.agg A) (.agg B) from rfl, run_equalIn_array w 9999 A B hu hi]
          have hc1 : C.P.cellsOf el = 1 := by unfold Program.cellsOf; rw [hi]; simpa using hs
          rw [hc1, List.range_eq_range']
          exact g1 w
        · obtain ⟨_, q2, q3⟩ := g2 hct
          simp only [List.drop_zero, Array.length_toList] at q2 q3
          rw [hB]
          simp only [Instr.sameBits, Bool.and_eq_true, beq_iff_eq]
          exact ⟨q3.symm, q2⟩
      split at e
      · rename_i hc
        obtain ⟨g1, g2⟩ := heq hc
        obtain rfl := Option.some.inj e
        refine ⟨E.val, fun w => by simp [Instr.findAsking, g1], hv, Nat.le_refl _, E, by simp, rfl, g2 rfl⟩
      · rename_i hc
        obtain ⟨g1, _⟩ := heq hc
        have ih := findA_ok hh hu he hi hs hk e h1 h2
        cases r with
        | none => simp only at ih ⊢; exact fun w => by simp [Instr.findAsking, g1, ih w]
        | some q =>
          obtain ⟨q, v'⟩ := q
          simp only at ih ⊢
          obtain ⟨V, i1, i2, i3, F, i4, i5, i6⟩ := ih
          refine ⟨V, fun w => by simp [Instr.findAsking, g1, i1 w], i2, by omega, F, ?_, i5, i6⟩
          rw [show q - j = (q - (j + 1)) + 1 by omega, List.getElem?_cons_succ]; exact i4
      · cases e

/-- Where a key stands, whatever keys are. -/
theorem seekS_ok (hh : Hints C ρ) {kt : TypeId} {k : SV} {K : Value} {es : List (SV × SV)} {ES : List MapEntry} {r : Option (Nat × SV)} (e : seekS C kt k es = some r) (hk : VRel σ ρ k K)
    (h1 : VRels σ ρ (es.map (·.1)) (ES.map (·.key))) (h2 : VRels σ ρ (es.map (·.2)) (ES.map (·.val))) :
    (∀ em w, (Instr.checkKey em 10000 kt K).run C.P w = .ok () w) ∧
      match r with
      | none => ∀ w, (Instr.findKey kt K ES).run C.P w = .ok none w
      | some (j, v) => ∃ V, (∀ w, (Instr.findKey kt K ES).run C.P w = .ok (some (j, V)) w) ∧ VRel σ ρ v V ∧ ∃ E, ES[j]? = some E ∧ E.val = V ∧ Instr.sameBits 10000 E.key K = true := by
  unfold seekS at e
  cases hf : keyFits C.P kt k with
  | true =>
    rw [hf] at e; simp only [cond_true] at e
    obtain ⟨d, hd, hd3, hd4⟩ := keyFits_ok hf hk
    refine ⟨fun em w => checkKey_ok hd hd3 em 9999 K w, ?_⟩
    have := findS_ok hh hk hd4 e h1 h2
    cases r with
    | none => exact fun w => run_findKey (K := K) hd this w
    | some q =>
      obtain ⟨j, v⟩ := q
      obtain ⟨V, g1, g2, _, E, g3, g4, g5⟩ := this
      exact ⟨V, fun w => run_findKey (K := K) hd g1 w, g2, E, by simpa using g3, g4, g5⟩
  | false =>
    rw [hf] at e; simp only [cond_false] at e
    split at e
    case h_2 => cases e
    rename_i ks
    cases ha : arrayKey C.P kt ks with
    | false => rw [ha] at e; cases e
    | true =>
      rw [ha] at e; simp only [cond_true] at e
      obtain ⟨n, el, i, hu, he, hi, hs, rfl, hall⟩ := arrayKey_ok ha
      simp only [VRel] at hk
      obtain ⟨A, rfl, hA⟩ := hk
      refine ⟨fun em w => run_checkArray hu he hi hs (by rw [hA.length, Array.length_toList]) (allStr_get hall hA) em w, ?_⟩
      have := findA_ok hh hu he hi hs hA e h1 h2
      have hfk : ∀ w, (Instr.findKey kt (.agg A) ES).run C.P w = (Instr.findAsking kt (.agg A) ES).run C.P w := fun w => run_findKey_eq w (by rw [hu]) (.agg A) ES
      cases r with
      | none => exact fun w => by rw [hfk]; exact this w
      | some q =>
        obtain ⟨j, v⟩ := q
        obtain ⟨V, g1, g2, _, E, g3, g4, g5⟩ := this
        exact ⟨V, fun w => by rw [hfk]; exact g1 w, g2, E, by simpa using g3, g4, g5⟩

theorem HRel.mapAt (r : HRel C ρ W σ h w) {id : Nat} {es : List (SV × SV)} (hg : h.blocks.get id = some (.map es)) :
    ∃ p ES clock, σ id = some p ∧ w.heap[p.block]? = some (.map ES clock) ∧ VRels σ ρ (es.map (·.1)) (ES.toList.map (·.key)) ∧ VRels σ ρ (es.map (·.2)) (ES.toList.map (·.val)) ∧
      (∀ e ∈ ES.toList, e.born < clock) ∧ (ES.toList.map (·.born)).Pairwise (· < ·) := by
  obtain ⟨p, o, hp, ho, es', clock, rfl, h1⟩ := r.blk id _ hg
  exact ⟨p, es', clock, hp, ho, h1⟩
theorem run_getObj_map {P : Program} {b : Nat} {ES : Array MapEntry} {clock : Nat} (hw : w.heap[b]? = some (.map ES clock)) : (getObj b).run P w = .ok (.map ES clock) w := by
  simp [getObj, Sem.run, hw]
theorem run_setObj_of {P : Program} {b : Nat} {o o' : Obj} (hw : w.heap[b]? = some o) (ho : ∀ c e f, o ≠ .cells c e f) : (setObj b o').run P w = .ok () { w with heap := w.heap.setIfInBounds b o' } := by
  cases o <;> first | exact absurd rfl (ho _ _ _) | simp [setObj, Sem.run, hw]

theorem entriesS_ok (r : HRel C ρ W σ h w) {m : SV} {M : Value} {es : List (SV × SV)} (e : entriesS h m = some es) (hm : VRel σ ρ m M) :
    (M = .map none ∧ es = []) ∨ ∃ id p ES clock, m = .map id ∧ h.blocks.get id = some (.map es) ∧ σ id = some p ∧ M = .map (some p.block) ∧ w.heap[p.block]? = some (.map ES clock) ∧
      VRels σ ρ (es.map (·.1)) (ES.toList.map (·.key)) ∧ VRels σ ρ (es.map (·.2)) (ES.toList.map (·.val)) ∧ (∀ e ∈ ES.toList, e.born < clock) ∧ (ES.toList.map (·.born)).Pairwise (· < ·) := by
  unfold entriesS at e
  split at e
  · obtain rfl := Option.some.inj e
    simp only [VRel] at hm
    exact .inl ⟨hm, rfl⟩
  · rename_i id
    split at e
    · rename_i es' hg
      obtain rfl := Option.some.inj e
      obtain ⟨p, ES, clock, hp, hw, h1⟩ := r.mapAt hg
      simp only [VRel] at hm; obtain ⟨p', hp', rfl⟩ := hm
      rw [hp] at hp'; obtain rfl := Option.some.inj hp'
      exact .inr ⟨id, p, ES, clock, rfl, hg, hp, rfl, hw, h1⟩
    · cases e
  · cases e

theorem okPair_ok {v : SV} {V : Value} (ok b : Bool) (r : VRel σ ρ v V) : VRel σ ρ (okPair ok v b) (if ok then .tuple #[V, .bool b] else V) := by
  cases ok
  · simpa [okPair] using r
  · simp only [okPair, cond_true, if_true, VRel]
    exact ⟨_, rfl, by simp [VRels, r, VRel, BE.ev]⟩

theorem lookupS_ok (hh : Hints C ρ) (r : HRel C ρ W σ h w) {t : TypeId} {m k v : SV} {M K : Value} {ok : Bool} (e : lookupS C h t m k ok = some v) (hm : VRel σ ρ m M) (hk : VRel σ ρ k K) :
    OpOk C ρ W σ w (do pure (.value (← Instr.lookup t M K ok))) (.val v h) := by
  unfold lookupS at e
  split at e
  case h_2 => cases e
  rename_i kt et hu
  split at e
  · cases e
  rename_i es he
  split at e
  · cases e
  · rename_i i v' hfind
    obtain rfl := Option.some.inj e
    rcases entriesS_ok r he hm with ⟨rfl, rfl⟩ | ⟨id, p, ES, clock, rfl, hg, hp, rfl, hw, h1, h2, _⟩
    · obtain ⟨_, V, hnow, _, E, hE, _⟩ := seekS_ok hh (ES := []) hfind hk (by simp [VRels]) (by simp [VRels])
      simp at hE
    · obtain ⟨hck, V, hfk, hv, _⟩ := seekS_ok hh hfind hk h1 h2
      refine OpOk.val (Sg.le_refl _) ?_ (okPair_ok ok true hv) r
      simp only [Instr.lookup, Sem.run_bind, run_underlying hu, Result.andThen_ok, Sem.run_pure, run_getObj_map hw]
      rw [hck]
      simp only [Result.andThen_ok, hfk]
      rfl
  · rename_i hfind
    cases hz : zeroP C.P et with
    | none => rw [hz] at e; cases e
    | some z =>
      rw [hz] at e; simp only [Option.map_some, Option.some.injEq] at e; subst e
      obtain ⟨Z, hZ, hr⟩ := run_zero hz
      refine OpOk.val (Sg.le_refl _) ?_ (okPair_ok ok false (hr σ ρ)) r
      rcases entriesS_ok r he hm with ⟨rfl, rfl⟩ | ⟨id, p, ES, clock, rfl, hg, hp, rfl, hw, h1, h2, _⟩
      · obtain ⟨hck, hfk⟩ := seekS_ok hh (ES := []) hfind hk (by simp [VRels]) (by simp [VRels])
        simp only [Instr.lookup, Sem.run_bind, run_underlying hu, Result.andThen_ok, Sem.run_pure]
        rw [hck]
        simp only [Result.andThen_ok]
        rw [hfk]
        simp only [Result.andThen_ok, Sem.run_bind, hZ, Sem.run_pure]
      · obtain ⟨hck, hfk⟩ := seekS_ok hh hfind hk h1 h2
        simp only [Instr.lookup, Sem.run_bind, run_underlying hu, Result.andThen_ok, Sem.run_pure, run_getObj_map hw]
        rw [hck]
        simp only [Result.andThen_ok, hfk, Sem.run_bind, hZ, Sem.run_pure]

theorem setAt_get (l : List (SV × SV)) : ∀ (i : Nat) (x : SV × SV), setAt l i x = l.set i x := by
  induction l with
  | nil => intro i x; simp [setAt]
  | cons a l ih => intro i x; cases i <;> simp [setAt, ih]
theorem dropAt_get (l : List (SV × SV)) : ∀ (i : Nat), dropAt l i = l.eraseIdx i := by
  induction l with
  | nil => intro i; simp [dropAt]
  | cons a l ih => intro i; cases i <;> simp [dropAt, ih]
theorem map_erase {α β : Type} (f : α → β) (l : List α) : ∀ i, (l.eraseIdx i).map f = (l.map f).eraseIdx i := by
  induction l with
  | nil => intro i; simp
  | cons a l ih => intro i; cases i <;> simp [ih]
theorem VRels.set {l : List SV} {L : List Value} (r : VRels σ ρ l L) {v : SV} {V : Value} (hv : VRel σ ρ v V) (i : Nat) : VRels σ ρ (l.set i v) (L.set i V) := by
  have hl := r.length
  refine VRels.of_get (by simp [hl]) fun j a A ha hA => ?_
  rw [List.getElem?_set] at ha hA
  by_cases c : i = j
  · rw [if_pos c] at ha hA
    split at ha
    · split at hA
      · obtain rfl := Option.some.inj ha; obtain rfl := Option.some.inj hA; exact hv
      · cases hA
    · cases ha
  · rw [if_neg c] at ha hA
    obtain ⟨A', hA', hr⟩ := r.get ha
    rw [hA'] at hA; obtain rfl := Option.some.inj hA
    exact hr
theorem VRels.eraseIdx {l : List SV} : ∀ {L : List Value}, VRels σ ρ l L → ∀ i, VRels σ ρ (l.eraseIdx i) (L.eraseIdx i) := by
  induction l with
  | nil => intro L r i; simp only [VRels] at r; subst r; simp [VRels]
  | cons a l ih =>
    intro L r i
    simp only [VRels] at r
    obtain ⟨x, xs, rfl, r1, r2⟩ := r
    cases i with
    | zero => simpa using r2
    | succ i => simp only [List.eraseIdx_cons_succ, VRels]; exact ⟨x, _, rfl, r1, ih r2 i⟩

theorem updateS_ok (hh : Hints C ρ) (r : HRel C ρ W σ h w) {t : TypeId} {m k v : SV} {M K V : Value} {h' : SH} (e : updateS C h t m k v = some h') (hm : VRel σ ρ m M) (hk : VRel σ ρ k K) (hv : VRel σ ρ v V) :
    OpOk C ρ W σ w (do Instr.mapUpdate t M K V; pure .skip) (.skip h') := by
  unfold updateS at e
  split at e
  case h_2 => cases e
  rename_i kt et id hu
  split at e
  case h_2 => cases e
  rename_i es hg
  obtain ⟨p, ES, clock, hp, hw, h1, h2, h3, h4⟩ := r.mapAt hg
  simp only [VRel] at hm; obtain ⟨p', hp', rfl⟩ := hm
  rw [hp] at hp'; obtain rfl := Option.some.inj hp'
  split at e
  · cases e
  · rename_i i v' hfind
    obtain ⟨hck, V', hfk, _, E, hE, _, hsame⟩ := seekS_ok hh hfind hk h1 h2
    rw [Array.getElem?_toList] at hE
    have hset := run_setObj_of (P := C.P) (o' := .map (ES.modify i fun e => { e with key := K, val := V }) clock) hw (fun _ _ _ h => by cases h)
    refine OpOk.skip (Sg.le_refl _) (w' := { w with heap := w.heap.setIfInBounds p.block (.map (ES.modify i fun e => { e with key := K, val := V }) clock) }) ?_ (r.turn hg hp (Upd.set hw) ?_ e)
    · simp only [Instr.mapUpdate, Sem.run_bind, run_underlying hu, Result.andThen_ok, run_getObj_map hw]
      rw [hck]
      simp only [Result.andThen_ok, hfk, Sem.run_bind, hE, Option.map_some, Option.getD_some, Instr.keyThatStays, hsame, if_true, Sem.run_pure, hset]
    · have hmod : (ES.modify i fun e => { e with key := K, val := V }).toList = ES.toList.set i { E with key := K, val := V } := by
        apply List.ext_getElem?
        intro j
        rw [Array.getElem?_toList, Array.getElem?_modify, List.getElem?_set]
        by_cases c : i = j
        · subst c
          have hi : i < ES.toList.length := by rw [Array.length_toList]; exact (Array.getElem?_eq_some_iff.1 hE).1
          rw [if_pos rfl, if_pos rfl, if_pos hi, hE]; rfl
        · rw [if_neg c, if_neg c, Array.getElem?_toList]
      have hborn : ({ E with key := K, val := V } : MapEntry).born = E.born := rfl
      refine ⟨_, clock, rfl, ?_, ?_, ?_, ?_⟩
      · rw [hmod, setAt_get, List.map_set, List.map_set]; exact h1.set hk i
      · rw [hmod, setAt_get, List.map_set, List.map_set]; exact h2.set hv i
      · intro x hx
        rw [hmod] at hx
        rcases List.mem_or_eq_of_mem_set hx with hx | rfl
        · exact h3 x hx
        · exact h3 E (List.mem_of_getElem? (i := i) (by rw [Array.getElem?_toList]; exact hE))
      · rw [hmod, List.map_set]
        have : (ES.toList.map (·.born)).set i E.born = ES.toList.map (·.born) := by
          apply List.ext_getElem?
          intro j
          rw [List.getElem?_set]
          by_cases c : i = j
          · subst c
            have hi : i < ES.toList.length := by rw [Array.length_toList]; exact (Array.getElem?_eq_some_iff.1 hE).1
            rw [if_pos rfl, if_pos (by simpa using hi), List.getElem?_map, Array.getElem?_toList, hE]; rfl
          · rw [if_neg c]
        rw [this]; exact h4
  · rename_i hfind
    obtain ⟨hck, hfk⟩ := seekS_ok hh hfind hk h1 h2
    have hset := run_setObj_of (P := C.P) (o' := .map (ES.push { key := K, val := V, born := clock }) (clock + 1)) hw (fun _ _ _ h => by cases h)
    refine OpOk.skip (Sg.le_refl _) (w' := { w with heap := w.heap.setIfInBounds p.block (.map (ES.push { key := K, val := V, born := clock }) (clock + 1)) }) ?_ (r.turn hg hp (Upd.set hw) ?_ e)
    · simp only [Instr.mapUpdate, Sem.run_bind, run_underlying hu, Result.andThen_ok, run_getObj_map hw]
      rw [hck]
      simp only [Result.andThen_ok, hfk, hset]
    · refine ⟨_, clock + 1, rfl, ?_, ?_, ?_, ?_⟩
      · rw [Array.toList_push, List.map_append, List.map_append]; exact h1.append (VRels.one hk)
      · rw [Array.toList_push, List.map_append, List.map_append]; exact h2.append (VRels.one hv)
      · intro x hx
        rw [Array.toList_push, List.mem_append, List.mem_singleton] at hx
        rcases hx with hx | rfl
        · have := h3 x hx; omega
        · simp
      · rw [Array.toList_push, List.map_append, List.pairwise_append]
        refine ⟨h4, by simp, fun x hx y hy => ?_⟩
        simp at hy; subst hy
        obtain ⟨E, hE, rfl⟩ := List.mem_map.1 hx
        exact h3 E hE

theorem deleteS_ok (hh : Hints C ρ) (r : HRel C ρ W σ h w) {t ty : TypeId} {ts : List TypeId} {m k : SV} {M K : Value} {h' : SH} (e : deleteS C h t m k = some h') (hm : VRel σ ρ m M) (hk : VRel σ ρ k K) :
    OpOk C ρ W σ w (do pure (.value (← Builtin.delete_ (t :: ts).toArray ty #[M, K]))) (.val undefS h') := by
  unfold deleteS at e
  split at e
  · rename_i kt et hu
    cases hs : seekS C kt k [] with
    | none => rw [hs] at e; cases e
    | some q =>
      rw [hs] at e; simp only [Option.map_some, Option.some.injEq] at e; subst e
      obtain ⟨hck, _⟩ := seekS_ok hh (ES := []) hs hk (by simp [VRels]) (by simp [VRels])
      simp only [VRel] at hm; subst hm
      refine OpOk.val (Sg.le_refl _) (V := .tuple #[]) ?_ (by simp [undefS, VRel, VRels]) r
      unfold Builtin.delete_
      simp [run_underlying hu, hck]
  · rename_i kt et id hu
    split at e
    case h_2 => cases e
    rename_i es hg
    obtain ⟨p, ES, clock, hp, hw, h1, h2, h3, h4⟩ := r.mapAt hg
    simp only [VRel] at hm; obtain ⟨p', hp', rfl⟩ := hm
    rw [hp] at hp'; obtain rfl := Option.some.inj hp'
    split at e
    · cases e
    · rename_i i v' hfind
      obtain ⟨hck, V', hfk, _, E, hE, _, hsame⟩ := seekS_ok hh hfind hk h1 h2
      have hset := run_setObj_of (P := C.P) (o' := .map (ES.eraseIdxIfInBounds i) clock) hw (fun _ _ _ h => by cases h)
      refine OpOk.val (Sg.le_refl _) (V := .tuple #[]) (w' := { w with heap := w.heap.setIfInBounds p.block (.map (ES.eraseIdxIfInBounds i) clock) }) ?_ (by simp [undefS, VRel, VRels]) (r.turn hg hp (Upd.set hw) ?_ e)
      · unfold Builtin.delete_
        simp [run_underlying hu, hck, run_getObj_map hw, hfk, hset]
      · have her : (ES.eraseIdxIfInBounds i).toList = ES.toList.eraseIdx i := by simp
        refine ⟨_, clock, rfl, ?_, ?_, ?_, ?_⟩
        · rw [her, dropAt_get, map_erase, map_erase]; exact h1.eraseIdx i
        · rw [her, dropAt_get, map_erase, map_erase]; exact h2.eraseIdx i
        · intro x hx; rw [her] at hx; exact h3 x (List.mem_of_mem_eraseIdx hx)
        · rw [her, map_erase]; exact h4.sublist (List.eraseIdx_sublist _ _)
    · rename_i hfind
      obtain ⟨hck, hfk⟩ := seekS_ok hh hfind hk h1 h2
      have hset := run_setObj_of (P := C.P) (o' := .map ES clock) hw (fun _ _ _ h => by cases h)
      refine OpOk.val (Sg.le_refl _) (V := .tuple #[]) (w' := { w with heap := w.heap.setIfInBounds p.block (.map ES clock) }) ?_ (by simp [undefS, VRel, VRels]) (r.turn (sb' := .map es) hg hp (Upd.set hw) ⟨ES, clock, rfl, h1, h2, h3, h4⟩ e)
      unfold Builtin.delete_
      simp [run_underlying hu, hck, run_getObj_map hw, hfk, hset]
  · cases e

/-- A map is cleared. -/
theorem clearS_ok (r : HRel C ρ W σ h w) {t ty : TypeId} {ts : List TypeId} {m : SV} {M : Value} {R : Res} (e : (match C.P.underlying t, m with
    | some (.map _ _), .nilMap => some (Res.val undefS h)
    | some (.map _ _), .map id => (match h.blocks.get id with
      | some (.map _) => (h.upd C.ro id (.map [])).map fun h => Res.val undefS h
      | _ => none)
    | _, _ => none) = some R) (hm : VRel σ ρ m M) :
    OpOk C ρ W σ w (do pure (.value (← Builtin.clear_ (t :: ts).toArray ty #[M]))) R := by
  split at e
  · rename_i kt et hu
    obtain rfl := Option.some.inj e
    simp only [VRel] at hm; subst hm
    refine OpOk.val (Sg.le_refl _) (V := .tuple #[]) ?_ (by simp [undefS, VRel, VRels]) r
    unfold Builtin.clear_
    simp [run_underlying hu]
  · rename_i kt et id hu
    split at e
    case h_2 => cases e
    rename_i es hg
    obtain ⟨p, ES, clock, hp, hw, h1, h2, h3, h4⟩ := r.mapAt hg
    simp only [VRel] at hm; obtain ⟨p', hp', rfl⟩ := hm
    rw [hp] at hp'; obtain rfl := Option.some.inj hp'
    cases hup : h.upd C.ro id (.map []) with
    | none => rw [hup] at e; cases e
    | some h2 =>
      rw [hup] at e; simp only [Option.map_some, Option.some.injEq] at e; subst e
      have hset := run_setObj_of (P := C.P) (o' := .map #[] clock) hw (fun _ _ _ h => by cases h)
      refine OpOk.val (Sg.le_refl _) (V := .tuple #[]) (w' := { w with heap := w.heap.setIfInBounds p.block (.map #[] clock) }) ?_ (by simp [undefS, VRel, VRels]) (r.turn (sb' := .map []) hg hp (Upd.set hw) ⟨#[], clock, rfl, by simp [VRels], by simp [VRels], by simp, by simp⟩ hup)
      unfold Builtin.clear_
      simp [run_underlying hu, run_getObj_map hw, hset]
  · cases e

theorem lenS_ok (r : HRel C ρ W σ h w) {t ty : TypeId} {ts : List TypeId} {x : SV} {X : Value} {n : Nat} (e : lenS C h t x = some n) (hx : VRel σ ρ x X) :
    (Builtin.len_ (t :: ts).toArray ty #[X]).run C.P w = .ok (.int .i64 (n : Int)) w := by
  unfold lenS at e
  split at e
  · rename_i l hu
    obtain rfl := Option.some.inj e
    simp only [VRel] at hx; obtain ⟨_, rfl⟩ := hx
    unfold Builtin.len_; simp [run_underlying hu, goInt, bytes_size]
  · rename_i k el hu
    obtain rfl := Option.some.inj e
    unfold Builtin.len_; simp only [List.getElem?_toArray, List.getElem?_cons_zero, Sem.run_bind, run_underlying hu, Result.andThen_ok]
    cases X <;> rfl
  · rename_i el hu
    split at e
    · rename_i k el' hu'
      obtain rfl := Option.some.inj e
      unfold Builtin.len_; simp only [List.getElem?_toArray, List.getElem?_cons_zero, Sem.run_bind, run_underlying hu, Result.andThen_ok]
      cases X <;> simp [run_underlying hu', goInt]
    · cases e
  · rename_i hu
    obtain rfl := Option.some.inj e
    simp only [VRel] at hx; subst hx
    unfold Builtin.len_; simp [run_underlying hu, goInt]
  · rename_i id off k room hu
    obtain rfl := Option.some.inj e
    have hX : ∃ a c, X = .slice a k c := by
      cases room <;> simp only [VRel] at hx
      · obtain ⟨_, _, rfl⟩ := hx; exact ⟨_, _, rfl⟩
      · obtain ⟨_, _, _, rfl, _⟩ := hx; exact ⟨_, _, rfl⟩
    obtain ⟨_, _, rfl⟩ := hX
    unfold Builtin.len_; simp [run_underlying hu, goInt]
  · rename_i hu
    obtain rfl := Option.some.inj e
    simp only [VRel] at hx; subst hx
    unfold Builtin.len_; simp [run_underlying hu, goInt]
  · rename_i id hu
    split at e
    · rename_i es hg
      obtain rfl := Option.some.inj e
      obtain ⟨p, ES, clock, hp, hw, h1, _⟩ := r.mapAt hg
      simp only [VRel] at hx; obtain ⟨p', hp', rfl⟩ := hx
      rw [hp] at hp'; obtain rfl := Option.some.inj hp'
      have := h1.length
      simp only [List.length_map, Array.length_toList] at this
      unfold Builtin.len_; simp [run_underlying hu, goInt, run_getObj_map hw, this]
    · cases e
  · cases e

end
end Go.Sx
