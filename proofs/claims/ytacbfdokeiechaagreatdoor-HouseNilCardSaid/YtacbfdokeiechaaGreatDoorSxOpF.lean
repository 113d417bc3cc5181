/- append, copy. -/
import Derived.Test.YtacbfdokeiechaaGreatDoorSxOpE
namespace Go.Sx
open Go

theorem run_loadCells_real {P : Program} {w : World} {b o k : Nat} {c : Array Value} {e : TypeId} {fz : Nat × Nat} (hw : w.heap[b]? = some (.cells c e fz)) (hk : o + k ≤ c.size) :
    (loadCells ⟨b, o, none⟩ k).run P w = .ok (c.extract o (o + k)) w := by
  have hl : ((c.toList.drop o).take k).length = k := by simp; omega
  have := run_loadCells_list (P := P) w ⟨b, o, none⟩ ((c.toList.drop o).take k) (fun j v hv => by
    have hj : j < k := by rw [← hl]; exact (List.getElem?_eq_some_iff.1 hv).1
    rw [addr_add, cell_of hw]
    rw [List.getElem?_take, if_pos hj, List.getElem?_drop] at hv
    simpa using hv)
  rw [hl] at this
  rw [this]
  congr 1
  apply Array.ext'
  simp [Array.toList_extract, List.extract_eq_take_drop]

theorem growBy_le (newLen : Nat) : ∀ (r c : Nat), c ≤ 2 * newLen + 768 → Builtin.growBy newLen r c ≤ 2 * newLen + 768
  | 0, c, h => h
  | r + 1, c, h => by
    unfold Builtin.growBy
    by_cases hc : c ≥ newLen
    · rw [if_pos hc]; exact h
    · rw [if_neg hc]; exact growBy_le newLen r _ (by omega)
theorem nextcap_le {need cap : Nat} (h : cap < need) : Builtin.nextslicecap need cap ≤ 2 * need + 768 := by
  unfold Builtin.nextslicecap
  split
  · omega
  · split
    · omega
    · exact growBy_le _ _ _ (by omega)
theorem zeroCells_size (z : Array Value) (n : Nat) : (Builtin.zeroCells z n).size = n * z.size := by simp [Builtin.zeroCells]

section
variable {C : Cx} {ρ : Env} {W : Base} {w : World} {σ : Sg} {h : SH} {tm : Tr SV} {a : Act}

/-- What is appended or copied: how many, and their cells. -/
theorem source_ok (r : HRel C ρ W σ h w) {size n : Nat} {x : SV} {X : Value} {l : List SV} (e : sourceS h size x = some (n, l)) (hx : VRel σ ρ x X) :
    (∀ w, (Builtin.lenOf X).run C.P w = .ok n w) ∧ ∃ L : Array Value, (∀ d, (Builtin.firstCells size n X).run C.P { w with drawn := d } = .ok L { w with drawn := d }) ∧ VRels σ ρ l L.toList ∧ (X = .slice none 0 0 ∨ (∃ s, X = .string s ∧ l.length = n) ∨ l.length = n * size) := by
  unfold sourceS at e
  split at e
  · obtain ⟨rfl, rfl⟩ := (Prod.mk.injEq _ _ _ _).mp (Option.some.inj e)
    simp only [VRel] at hx; subst hx
    exact ⟨fun w => rfl, #[], fun _ => rfl, by simp [VRels], .inl rfl⟩
  · rename_i b
    obtain ⟨rfl, rfl⟩ := (Prod.mk.injEq _ _ _ _).mp (Option.some.inj e)
    simp only [VRel] at hx; obtain ⟨hs, rfl⟩ := hx
    refine ⟨fun w => by simp [Builtin.lenOf, bytes_size], _, fun _ => rfl, ?_, .inr (.inl ⟨_, rfl, by simp⟩)⟩
    rw [lenL_eq, bytes_extract, List.drop_zero, Nat.sub_zero, List.take_length]
    rw [Array.toList_map, bytes_data, List.map_map]
    refine VRels.of_get (by simp) fun i v V hv hV => ?_
    simp only [List.getElem?_map] at hv hV
    cases hb : b[i]? with
    | none => rw [hb] at hv; cases hv
    | some k =>
      rw [hb] at hv hV
      simp only [Option.map_some, Option.some.injEq, Function.comp] at hv hV
      subst hv; subst hV
      simp only [VRel, IE.ev]
      have hk : k < 256 := hs k (List.mem_of_getElem? hb)
      exact ⟨_, rfl, by rw [toNat_of hk]; rfl⟩
  · rename_i id off len room
    split at e
    · rename_i cs m el more f hg
      obtain ⟨p, c, fz, hp, hw, _, _, _, hc, _⟩ := r.cells hg
      cases hl : trList cs off (len * size) with
      | none => rw [hl] at e; cases e
      | some l' =>
        rw [hl] at e
        simp only [Option.map_some] at e
        obtain ⟨rfl, rfl⟩ := (Prod.mk.injEq _ _ _ _).mp (Option.some.inj e)
        have hX : ∃ c, X = .slice (some ⟨p.block, p.off + off, none⟩) len c := by
          cases room <;> simp only [VRel] at hx
          · obtain ⟨p', hp', rfl⟩ := hx; rw [hp] at hp'; obtain rfl := Option.some.inj hp'; exact ⟨_, rfl⟩
          · obtain ⟨p', c, hp', rfl, _⟩ := hx; rw [hp] at hp'; obtain rfl := Option.some.inj hp'; exact ⟨_, rfl⟩
        obtain ⟨cap, rfl⟩ := hX
        obtain ⟨L, hrun, hv, _, hlen⟩ := run_loadCells_of (P := C.P) hw hc hl
        exact ⟨fun w => rfl, L.toArray, fun d => hrun d, by simpa using hv, .inr (.inr (by rw [hv.length, hlen]))⟩
    · cases e
  · cases e

/-- What is appended: what another slice, or a text, holds; or zeros. -/
def AppSrc (P : Program) (u e : TypeId) (size n : Nat) (X : Value) (L : Array Value) (w : World) : Prop :=
  ((∃ d, P.underlying u = some d ∧ ∀ k, d ≠ .int k) ∧ (∀ w, (Builtin.lenOf X).run P w = .ok n w) ∧ ∀ d, (Builtin.firstCells size n X).run P { w with drawn := d } = .ok L { w with drawn := d }) ∨
  ((∃ k, P.underlying u = some (.int k)) ∧ X = .int .i64 (n : Int) ∧ (∃ i, P.info? e = some i ∧ n * i.bytes ≤ 281474976710656) ∧ n < 9223372036854775808 ∧ 0 < size ∧
    ∃ Z, (∀ w, (zeroValue e).run P w = .ok Z w) ∧ Z.cells.size = size ∧ L = Builtin.zeroCells Z.cells n)
theorem wrap_nat64 {n : Nat} (h : n < 9223372036854775808) : IntKind.i64.wrap (n : Int) = n := by
  simp [IntKind.wrap, IntKind.bits, IntKind.signed]; omega
theorem zeroCells_none (Z : Array Value) : Builtin.zeroCells Z 0 = #[] := by simp [Builtin.zeroCells]

/-- An append within the room. -/
theorem append_fit {P : Program} {t u ty e : TypeId} {base : Option Addr} {len cap n size : Nat} {X : Value} {L : Array Value} {w w' : World} (hu : P.underlying t = some (.slice e))
    (hsrc : AppSrc P u e size n X L w) (hs : (sizeOf e).run P w = .ok size w) (hfit : len + n ≤ cap)
    (hst : (match base with | some a => storeCells (a.add (len * size)) L.toList | none => pure () : Sem Unit).run P w = .ok () w') (us : List TypeId) :
    (Builtin.append_ (t :: u :: us).toArray ty #[.slice base len cap, X]).run P w = .ok (.slice base (len + n) cap) w' := by
  rcases hsrc with ⟨⟨d, hd, hdi⟩, hn, hL⟩ | ⟨⟨k, hk⟩, rfl, ⟨i, hi, hib⟩, hn63, hs0, Z, hZ, hZs, rfl⟩
  case inr =>
    unfold Builtin.append_
    simp only [List.getElem?_toArray, List.getElem?_cons_zero, List.getElem?_cons_succ, Sem.run_bind, run_underlying hu, Result.andThen_ok, hs]
    simp only [run_underlying hk, Result.andThen_ok, Sem.run_pure, if_true, asInt, asIntOf, Sem.run_bind, wrap_nat64 hn63]
    rw [if_neg (show ¬ (n : Int) < 0 by omega)]
    simp only [Sem.run_bind, run_info hi, Result.andThen_ok]
    rw [if_neg (show ¬ (n : Int) * (i.bytes : Int) > 2 ^ 48 by
      have : (n : Int) * (i.bytes : Int) = ((n * i.bytes : Nat) : Int) := by push_cast; rfl
      rw [this]; omega)]
    simp only [Int.toNat_natCast, Sem.run_bind, Sem.run_pure, Result.andThen_ok]
    rw [if_pos hfit]
    by_cases hz : n * size = 0
    · have hn0 : n = 0 := by rcases Nat.mul_eq_zero.1 hz with h | h <;> omega
      subst hn0
      rw [zeroCells_none] at hst
      cases base with
      | none => simp only [Sem.run_pure, Result.ok.injEq, true_and] at hst; subst hst; simp
      | some a => simp only at hst; simp [hst]
    · cases base with
      | none => simp only [Sem.run_pure, Result.ok.injEq, true_and] at hst; subst hst; simp [hz, hZ]
      | some a => simp only at hst; simp [hz, hZ, hst]
  replace hL : (Builtin.firstCells size n X).run P w = .ok L w := hL w.drawn
  replace hn : (Builtin.lenOf X).run P w = .ok n w := hn w
  have hz : ((underlying u >>= fun d => pure (d matches .int _)) : Sem Bool).run P w = .ok false w := by
    rw [Sem.run_bind, run_underlying hd]
    cases d <;> first | rfl | exact absurd rfl (hdi _)
  unfold Builtin.append_
  simp only [List.getElem?_toArray, List.getElem?_cons_zero, List.getElem?_cons_succ, Sem.run_bind, run_underlying hu, Result.andThen_ok, hs]
  simp only [run_underlying hd, Result.andThen_ok, Sem.run_pure, Bool.false_eq_true, if_false, Bool.not_false, if_true]
  rw [Sem.run_bind, hn]
  simp only [Result.andThen_ok]
  rw [if_pos hfit]
  cases base with
  | none =>
    simp only [Sem.run_pure, Result.ok.injEq, true_and] at hst; subst hst
    simp [hL]
  | some a =>
    simp only at hst
    simp [hL, hst]

/-- An append beyond the room: a new row. -/
theorem append_grow {P : Program} {t u ty e : TypeId} {base : Option Addr} {len cap n size by' : Nat} {X Z : Value} {L O : Array Value} {w : World} (hu : P.underlying t = some (.slice e))
    (hsrc : AppSrc P u e size n X L w) (hs : ∀ w, (sizeOf e).run P w = .ok size w) (hi : ∃ i, P.info? e = some i ∧ i.bytes = by') (hb0 : 0 < by')
    (hz : ∀ w, (zeroValue e).run P w = .ok Z w) (hzs : Z.cells.size = size)
    (hO : ∀ d, (Builtin.firstCells size len (.slice base len cap)).run P { w with drawn := d } = .ok O { w with drawn := d }) (hfit : ¬ len + n ≤ cap)
    (hmost : (2 * (len + n) + 768) * by' ≤ 281474976710656) (us : List TypeId) :
    ∃ newCap rest d, len + n ≤ newCap ∧ O.size + L.size + rest = O.size + L.size + (newCap - (len + n)) * size ∧
    ∃ R : Array Value, R.size = rest ∧ (Builtin.append_ (t :: u :: us).toArray ty #[.slice base len cap, X]).run P w =
      .ok (.slice (some ⟨w.heap.size, 0, none⟩) (len + n) newCap) { w with heap := w.heap.push (.cells (O ++ L ++ R) e), drawn := d } := by
  obtain ⟨i, hi, hib⟩ := hi
  have hcap : ¬ Builtin.nextslicecap (len + n) cap * by' > 281474976710656 := by
    have := nextcap_le (need := len + n) (cap := cap) (by omega)
    have := Nat.mul_le_mul_right by' this
    omega
  have hcap' : ¬ Builtin.nextslicecap (len + n) cap * by' > 2 ^ 48 := hcap
  have hb1 : ¬ by' = 0 := by omega
  refine ⟨(Question.appendCap (len + n) cap e).cut (w.tape w.drawn (Question.appendCap (len + n) cap e)), _, w.drawn + 1, ?_, rfl, Builtin.zeroCells Z.cells ((Question.appendCap (len + n) cap e).cut (w.tape w.drawn (Question.appendCap (len + n) cap e)) - (len + n)), ?_, ?_⟩
  · simp [Question.cut]
  · rw [zeroCells_size, hzs]
  rcases hsrc with ⟨⟨d, hd, hdi⟩, hn, hL⟩ | ⟨⟨k, hk⟩, rfl, ⟨i', hi', hib'⟩, hn63, hs0, Z', hZ', hZs', rfl⟩
  case inr =>
    rw [hi] at hi'; obtain rfl := Option.some.inj hi'
    unfold Builtin.append_
    simp only [List.getElem?_toArray, List.getElem?_cons_zero, List.getElem?_cons_succ, Sem.run_bind, run_underlying hu, Result.andThen_ok, hs, run_underlying hk, Sem.run_pure, if_true, asInt, asIntOf, wrap_nat64 hn63]
    rw [if_neg (show ¬ (n : Int) < 0 by omega)]
    simp only [Sem.run_bind, run_info hi, Result.andThen_ok]
    rw [if_neg (show ¬ (n : Int) * (i.bytes : Int) > 2 ^ 48 by
      have : (n : Int) * (i.bytes : Int) = ((n * i.bytes : Nat) : Int) := by push_cast; rfl
      rw [this]; omega)]
    simp only [Int.toNat_natCast, Sem.run_bind, Sem.run_pure, Result.andThen_ok]
    rw [if_neg hfit]
    have hle : len + n ≤ 281474976710656 := by
      have h2 : 2 * (len + n) + 768 ≤ (2 * (len + n) + 768) * by' := Nat.le_mul_of_pos_right _ hb0
      omega
    have hmx : ¬ (((len + n : Nat) : Int) > IntKind.i64.max) := by
      simp only [IntKind.max, IntKind.signed, IntKind.bits]; simp; omega
    simp only [hmx, false_and, if_false, Sem.run_bind, run_info hi, hib, Result.andThen_ok]
    rw [if_neg hcap']
    have hzz : (if n * size = 0 then pure #[] else do pure (Builtin.zeroCells (← zeroValue e).cells n) : Sem (Array Value)).run P { w with drawn := w.drawn + 1 } = .ok (Builtin.zeroCells Z'.cells n) { w with drawn := w.drawn + 1 } := by
      by_cases hz0 : n * size = 0
      · have hn0 : n = 0 := by rcases Nat.mul_eq_zero.1 hz0 with h | h <;> omega
        subst hn0
        rw [if_pos hz0, zeroCells_none]; rfl
      · rw [if_neg hz0]; simp [hZ']
    simp only [Sem.run_bind, run_choose, Question.forced, Bool.false_eq_true, if_false, Result.andThen_ok, run_info hi, run_askRoom, hO, hz, Sem.run_pure, Bool.not_true]
    simp only [hzz, Result.andThen_ok]
    rfl
  unfold Builtin.append_
  simp only [List.getElem?_toArray, List.getElem?_cons_zero, List.getElem?_cons_succ, Sem.run_bind, run_underlying hu, Result.andThen_ok, hs, run_underlying hd, Sem.run_pure,
    Bool.false_eq_true, if_false, Bool.not_false, if_true]
  rw [hn]
  simp only [Result.andThen_ok]
  rw [if_neg hfit]
  simp only [Sem.run_bind, run_info hi, hib, Result.andThen_ok]
  simp only [hb1, or_false, and_false, if_false]
  rw [Sem.run_bind, run_info hi]
  simp only [Result.andThen_ok, hib]
  rw [if_neg hcap']
  simp only [Sem.run_bind, run_choose, Question.forced, Bool.false_eq_true, if_false, Result.andThen_ok, run_info hi, run_askRoom, hO, hL, hz, Sem.run_pure]
  rfl

/-- A row made anew: what was there, what is appended, the rest. -/
theorem grown_brel {b : Nat} {old : Tr SV} {O L R : Array Value} {new : List SV} {e : TypeId} {f : Fz} (hO : ∀ i x, old.get i = some x → i < O.size ∧ ∃ V, O[i]? = some V ∧ VRel σ ρ x V)
    (hL : VRels σ ρ new L.toList) : BRel σ ρ ⟨b, 0, (O ++ L ++ R).size⟩ (.cells (trOf new O.size old) (O.size + lenL new) e true f) (.cells (O ++ L ++ R) e) := by
  have hlen : new.length = L.size := by rw [hL.length, Array.length_toList]
  refine ⟨_, (0, 0), rfl, by simp, by simp [hlen], (fun h => by cases h), ?_, ?_, rfl⟩
  · intro i x hx
    rw [get_trOf] at hx
    rw [lenL_eq, Nat.zero_add]
    by_cases c : O.size ≤ i ∧ i < O.size + new.length
    · rw [if_pos c] at hx
      obtain ⟨V, hV, hr⟩ := hL.get hx
      refine ⟨by omega, V, ?_, hr⟩
      rw [Array.getElem?_append_left (by simp; omega), Array.getElem?_append_right (by omega)]
      simpa using hV
    · rw [if_neg c] at hx
      obtain ⟨h1, V, hV, hr⟩ := hO i x hx
      refine ⟨by omega, V, ?_, hr⟩
      rw [Array.getElem?_append_left (by simp; omega), Array.getElem?_append_left h1]
      exact hV
  · cases f <;> first | rfl | exact .inl rfl

theorem newWide (n l s : Nat) (c : Nat) (h1 : l ≤ c) (h2 : c * s ≤ n) : VRel (σ.put h.next ⟨w.heap.size, 0, n⟩) ρ (.slice h.next 0 l (.wide s)) (.slice (some ⟨w.heap.size, 0, none⟩) l c) := by
  simp only [VRel]; exact ⟨⟨w.heap.size, 0, n⟩, c, by simp [Sg.put], rfl, h1, by simpa using h2⟩

theorem appendS_ok (r : HRel C ρ W σ h w) {t u ty : TypeId} {us : List TypeId} {s x v : SV} {S X : Value} {h' : SH} {zs : Bool} (e : appendS C h h.next t zs s x = some (v, h'))
    (hd : ∃ d, C.P.underlying u = some d ∧ if zs then ∃ k, d = .int k else ∀ k, d ≠ .int k) (hs : VRel σ ρ s S) (hx : VRel σ ρ x X) :
    OpOk C ρ W σ w (do pure (.value (← Builtin.append_ (t :: u :: us).toArray ty #[S, X]))) (.val v h'.bump) := by
  unfold appendS at e
  split at e
  · cases e
  rename_i el he
  have hu := elemP_ok he
  split at e
  case h_2 => cases e
  rename_i size by' z hsz hby hz
  cases hc0 : (!(Nat.blt 0 size && Nat.blt 0 by' && Nat.beq (lenL z.cells) size)) with
  | true => rw [hc0] at e; cases e
  | false =>
  rw [hc0] at e; simp only [cond_false] at e
  rw [Bool.not_eq_false', Bool.and_eq_true, Bool.and_eq_true, blt_true, blt_true, beq_true, lenL_eq] at hc0
  obtain ⟨⟨hs0, hb0⟩, hzl⟩ := hc0
  obtain ⟨Z, hZ, hZr⟩ := run_zero hz
  have hZs : Z.cells.size = size := by rw [← Array.length_toList, ← (cells_any (hZr σ ρ)).length, hzl]
  have hi : ∃ i, C.P.info? el = some i ∧ i.bytes = by' := by
    cases hi : C.P.info? el with
    | none => rw [hi] at hby; cases hby
    | some i => rw [hi] at hby; simp at hby; exact ⟨i, rfl, hby⟩
  split at e
  · cases e
  rename_i n new hsrc
  cases hc1 : (!(Nat.beq (lenL new) (n * size) && Nat.ble ((2 * (sliceLen s + n) + 768) * by') 281474976710656)) with
  | true => rw [hc1] at e; cases e
  | false =>
  rw [hc1] at e; simp only [cond_false] at e
  rw [Bool.not_eq_false', Bool.and_eq_true, beq_true, ble_true, lenL_eq] at hc1
  obtain ⟨hnl, hmost⟩ := hc1
  obtain ⟨L, hS, hLr⟩ : ∃ L : Array Value, AppSrc C.P u el size n X L w ∧ VRels σ ρ new L.toList := by
    obtain ⟨d, hd, hk⟩ := hd
    cases zs with
    | false =>
      simp only [cond_false] at hsrc
      obtain ⟨hn, L, hL, hLr, _⟩ := source_ok r hsrc hx
      exact ⟨L, .inl ⟨⟨d, hd, by simpa using hk⟩, hn, hL⟩, hLr⟩
    | true =>
      simp only [cond_true, if_true] at hsrc hk
      obtain ⟨k, rfl⟩ := hk
      unfold zerosS at hsrc
      split at hsrc
      case h_2 => cases hsrc
      rename_i m
      cases hm : decide (0 ≤ m) with
      | false => rw [hm] at hsrc; cases hsrc
      | true =>
        rw [hm] at hsrc; simp only [cond_true, Option.some.injEq, Prod.mk.injEq] at hsrc
        obtain ⟨rfl, rfl⟩ := hsrc
        simp only [decide_eq_true_eq] at hm
        simp only [VRel, IE.ev, Option.some.injEq] at hx
        obtain ⟨_, rfl, rfl⟩ := hx
        obtain ⟨i, hi, hib⟩ := hi
        have hge : m.toNat ≤ 2 * (sliceLen s + m.toNat) + 768 := by omega
        have h1 : m.toNat * i.bytes ≤ 281474976710656 := by
          rw [hib]; exact Nat.le_trans (Nat.mul_le_mul_right _ hge) hmost
        have h2 : m.toNat ≤ m.toNat * i.bytes := by rw [hib]; exact Nat.le_mul_of_pos_right _ hb0
        refine ⟨Builtin.zeroCells Z.cells m.toNat, .inr ⟨⟨k, hd⟩, by rw [Int.toNat_of_nonneg hm], ⟨i, hi, h1⟩, by omega, hs0, Z, hZ, hZs, rfl⟩, ?_⟩
        have hcz : VRels σ ρ z.cells Z.cells.toList := cells_any (hZr σ ρ)
        unfold Builtin.zeroCells
        rw [rep_range _ (by omega)]
        exact rep_ok hcz _
  have hLs : L.size = n * size := by rw [← hnl, hLr.length, Array.length_toList]
  split at e
  · -- nil
    simp only [VRel] at hs; subst hs
    by_cases hn0 : n = 0
    · subst hn0
      simp only [Nat.beq_refl, cond_true, Option.some.injEq, Prod.mk.injEq] at e
      obtain ⟨rfl, rfl⟩ := e
      have := append_fit (P := C.P) (ty := ty) (base := none) (len := 0) (cap := 0) hu hS (run_sizeOf hsz w) (Nat.le_refl _) (w' := w) rfl us
      exact OpOk.val (Sg.le_refl _) this (by simp [VRel]) r.bump
    · rw [beq_false.2 hn0] at e
      simp only [cond_false, Option.some.injEq, Prod.mk.injEq] at e
      obtain ⟨rfl, rfl⟩ := e
      simp only [sliceLen, Nat.zero_add] at hmost
      obtain ⟨nc, rest, d, h1, h2, R, hR, hrun⟩ := append_grow (P := C.P) (t := t) (u := u) (ty := ty) (base := none) (len := 0) (cap := 0) hu hS (run_sizeOf hsz) hi hb0 hZ hZs
        (O := #[]) (fun d => rfl) (by omega) (by simpa using hmost) us
      have hb := grown_brel (σ := σ) (ρ := ρ) (b := w.heap.size) (old := .nil) (O := #[]) (R := R) (e := el) (f := .clean) (by simp) hLr
      simp only [Array.size_empty, Nat.zero_add] at hb
      have hp := (r.push _ hb).draw d
      refine OpOk.val (r.le_put _) hrun ?_ hp
      have hsize : (#[] ++ L ++ R).size = nc * size := by
        simp only [Array.size_append, Array.size_empty, Nat.zero_add] at h1 h2 ⊢
        rw [hLs] at h2 ⊢
        rw [hR]
        have : nc * size = n * size + (nc - n) * size := by rw [← Nat.add_mul]; congr 1; omega
        omega
      have := newWide (h := h) (w := w) (σ := σ) (ρ := ρ) (#[] ++ L ++ R).size (0 + n) size nc h1 (by omega)
      rw [Nat.zero_add] at this
      simpa using this
  · rename_i i off len room
    simp only [sliceLen] at hmost
    split at e
    case h_2 => cases e
    rename_i cs m el' more f hg
    obtain ⟨p, c, fz, hp, hw, hpsz, hmn, hm, hc, hf1, hoff⟩ := r.cells hg
    split at e
    · -- the room is known
      rename_i cap
      simp only [VRel] at hs
      obtain ⟨p', hp', rfl⟩ := hs
      rw [hp] at hp'; obtain rfl := Option.some.inj hp'
      by_cases hfit : len + n ≤ cap
      · rw [ble_true.2 hfit] at e; simp only [cond_true] at e
        cases hput : putCells C.ro h i (off + len * size) new with
        | none => rw [hput] at e; cases e
        | some h2 =>
          rw [hput] at e; simp only [Option.map_some, Option.some.injEq, Prod.mk.injEq] at e
          obtain ⟨rfl, rfl⟩ := e
          obtain ⟨w', hrun, hr', _⟩ := putCells_ok r hput hLr hp
          have := append_fit (P := C.P) (ty := ty) (base := some ⟨p.block, p.off + off, none⟩) (len := len) (cap := cap) hu hS (run_sizeOf hsz w) hfit (w' := w')
            (by show Sem.run C.P (storeCells (Addr.add ⟨p.block, p.off + off, none⟩ (len * size)) L.toList) w = _; rw [addr_add, Nat.add_assoc]; exact hrun) us
          exact OpOk.val (Sg.le_refl _) this (by simp only [VRel]; exact ⟨p, hp, rfl⟩) hr'.bump
      · have : Nat.ble (len + n) cap = false := by rw [← Bool.not_eq_true, ble_true]; exact hfit
        rw [this] at e; simp only [cond_false] at e
        cases hold : trList cs off (len * size) with
        | none => rw [hold] at e; cases e
        | some old =>
          rw [hold] at e; simp only [Option.map_some, Option.some.injEq, Prod.mk.injEq] at e
          obtain ⟨rfl, rfl⟩ := e
          obtain ⟨O, hO, hOr, _, hOl⟩ := run_loadCells_of (P := C.P) hw hc hold
          obtain ⟨nc, rest, d, h1, h2, R, hR, hrun⟩ := append_grow (P := C.P) (t := t) (u := u) (ty := ty) (base := some ⟨p.block, p.off + off, none⟩) (len := len) (cap := cap) hu hS (run_sizeOf hsz) hi hb0 hZ hZs
            (O := O.toArray) (fun d => hO d) hfit hmost us
          have hOs : O.toArray.size = len * size := by simpa using hOl
          have hb := grown_brel (σ := σ) (ρ := ρ) (b := w.heap.size) (old := trOf old 0 .nil) (O := O.toArray) (R := R) (e := el) (f := .clean) (by
            intro j x hx
            rw [get_trOf] at hx
            by_cases cj : 0 ≤ j ∧ j < 0 + old.length
            · rw [if_pos cj] at hx
              obtain ⟨V, hV, hr⟩ := hOr.get hx
              have := hOr.length
              exact ⟨by simp; omega, V, by simpa using hV, hr⟩
            · rw [if_neg cj] at hx; simp at hx) hLr
          have hp' := (r.push _ hb).draw d
          have hol : lenL old = len * size := by rw [lenL_eq, hOr.length, hOl]
          rw [hOs] at hp'
          rw [hol]
          refine OpOk.val (r.le_put _) hrun ?_ hp'
          have hsize : (O.toArray ++ L ++ R).size = nc * size := by
            rw [hOs, hLs] at h2
            simp only [Array.size_append, hOs, hLs, hR]
            have : nc * size = len * size + n * size + (nc - (len + n)) * size := by rw [← Nat.add_mul, ← Nat.add_mul]; congr 1; omega
            omega
          exact newWide _ _ _ _ h1 (by omega)
    · -- the room isn't known
      rename_i s'
      cases hcc : (Nat.ble C.ro i && Nat.beq s' size && Nat.beq off 0 && more && Nat.ble (len * size) m && decide (el' = el) && frozLe f (len * size) && allOne new) with
      | false => rw [hcc] at e; cases e
      | true =>
        rw [hcc] at e; simp only [cond_true] at e
        simp only [Bool.and_eq_true, ble_true, beq_true, decide_eq_true_eq] at hcc
        obtain ⟨⟨⟨⟨⟨⟨⟨c1, c2⟩, c3⟩, c4⟩, c5⟩, c6⟩, c7⟩, c8⟩ := hcc
        subst c2; subst c3; subst c6
        simp only [VRel] at hs
        obtain ⟨p', cap, hp', rfl, hlc, hcsz⟩ := hs
        rw [hp] at hp'; obtain rfl := Option.some.inj hp'
        -- what is known of the cells that stay
        have hold : ∃ old, (cond (Nat.beq m (len * s')) (some cs) ((trList cs 0 (len * s')).map fun old => trOf old 0 .nil)) = some old ∧ v = .slice h.next 0 (len + n) (.wide s') ∧
            h' = { h with blocks := (h.blocks.del i).set h.next (.cells (trOf new (len * s') old) (len * s' + lenL new) el' true f) } ∧
            (∀ j x, old.get j = some x → j < len * s' ∧ ∃ V, c[p.off + j]? = some V ∧ VRel σ ρ x V) := by
          cases hm1 : Nat.beq m (len * s') with
          | true =>
            rw [hm1] at e
            simp only [cond_true, Option.map_some, Option.some.injEq, Prod.mk.injEq] at e
            obtain ⟨rfl, rfl⟩ := e
            have := beq_true.1 hm1
            exact ⟨cs, rfl, rfl, rfl, fun j x hx => by have := hc j x hx; exact ⟨by omega, this.2⟩⟩
          | false =>
            rw [hm1] at e
            simp only [cond_false] at e
            cases ht : trList cs 0 (len * s') with
            | none => rw [ht] at e; cases e
            | some old =>
              rw [ht] at e
              simp only [Option.map_some, Option.some.injEq, Prod.mk.injEq] at e
              obtain ⟨rfl, rfl⟩ := e
              refine ⟨_, rfl, rfl, rfl, fun j x hx => ?_⟩
              obtain ⟨hl1, hl2⟩ := trList_spec ht
              rw [get_trOf] at hx
              by_cases cj : 0 ≤ j ∧ j < 0 + old.length
              · rw [if_pos cj] at hx
                have hj : j < len * s' := by omega
                have := hl2 j hj
                rw [Nat.sub_zero] at hx
                rw [hx, Nat.zero_add] at this
                exact ⟨hj, (hc j x this).2⟩
              · rw [if_neg cj] at hx; simp at hx
        obtain ⟨old, _, rfl, rfl, hold⟩ := hold
        have hlen := hLr.length
        rw [Array.length_toList] at hlen
        by_cases hfit : len + n ≤ cap
        · -- in place
          have hmul : len * s' + n * s' ≤ cap * s' := by rw [← Nat.add_mul]; exact Nat.mul_le_mul_right _ hfit
          obtain ⟨w', hrun, hupd⟩ := run_storeCells_upd C.P p.block (p.off + len * s') el' fz L.toList 0 c w hw (allOne_ok c8 hLr) (by rw [Array.length_toList]; omega) (by
            intro j _ hj
            rw [Array.length_toList] at hj
            have := hf1.free c7 (i := len * s' + j) (by omega) (by omega)
            omega)
          have hput := cells_put (σ := σ) (ρ := ρ) (p := p) (c := c) (cs := old) (n := len * s' + new.length) (off := len * s') (l := new) (by omega) (fun j x hx => ⟨by have := (hold j x hx).1; omega, (hold j x hx).2⟩) hLr (Nat.le_refl _)
          have hr' := r.rename (p' := p) (sb' := .cells (trOf new (len * s') old) (len * s' + lenL new) el' true f) hg hp c1 rfl hupd (by
            refine ⟨_, fz, rfl, by simpa using hpsz, by rw [lenL_eq]; omega, (fun h => by cases h), ?_, hf1, hoff⟩
            rw [Nat.add_zero, lenL_eq]
            exact hput)
          have := append_fit (P := C.P) (ty := ty) (base := some ⟨p.block, p.off + 0, none⟩) (len := len) (cap := cap) hu hS (run_sizeOf hsz w) hfit (w' := w')
            (by show Sem.run C.P (storeCells (Addr.add ⟨p.block, p.off + 0, none⟩ (len * s')) L.toList) w = _; rw [addr_add, Nat.add_zero]; exact hrun) us
          refine OpOk.val (r.le_put p) this ?_ hr'
          simp only [VRel]
          exact ⟨p, cap, by simp [Sg.put], rfl, hfit, hcsz⟩
        · -- anew
          have hreal : ∀ d, (loadCells ⟨p.block, p.off + 0, none⟩ (len * s')).run C.P { w with drawn := d } = .ok (c.extract (p.off + 0) (p.off + 0 + len * s')) { w with drawn := d } := fun d =>
            run_loadCells_real (w := { w with drawn := d }) hw (by omega)
          obtain ⟨nc, rest, d, h1, h2, R, hR, hrun⟩ := append_grow (P := C.P) (t := t) (u := u) (ty := ty) (base := some ⟨p.block, p.off + 0, none⟩) (len := len) (cap := cap) hu hS (run_sizeOf hsz) hi hb0 hZ hZs
            (O := c.extract (p.off + 0) (p.off + 0 + len * s')) hreal hfit hmost us
          have hOs : (c.extract (p.off + 0) (p.off + 0 + len * s')).size = len * s' := by simp; omega
          have hb := grown_brel (σ := σ) (ρ := ρ) (b := w.heap.size) (old := old) (O := c.extract (p.off + 0) (p.off + 0 + len * s')) (R := R) (e := el') (f := f) (by
            intro j x hx
            obtain ⟨hj, V, hV, hr⟩ := hold j x hx
            refine ⟨by omega, V, ?_, hr⟩
            have hlt : p.off + j < c.size := by omega
            rw [Array.getElem?_eq_getElem hlt] at hV
            rw [Array.getElem?_extract_of_lt (by omega)]
            simpa using hV) hLr
          have hp' := ((r.forget i).push _ hb).draw d
          rw [hOs] at hp'
          refine OpOk.val (r.le_put _) hrun ?_ hp'
          have hsize : (c.extract (p.off + 0) (p.off + 0 + len * s') ++ L ++ R).size = nc * s' := by
            rw [hOs, hLs] at h2
            simp only [Array.size_append, hOs, hLs, hR]
            have : nc * s' = len * s' + n * s' + (nc - (len + n)) * s' := by rw [← Nat.add_mul, ← Nat.add_mul]; congr 1; omega
            omega
          exact newWide _ _ _ _ h1 (by omega)
  · cases e

theorem trList_take {t : Tr SV} : ∀ {n i k : Nat} {l : List SV}, trList t i n = some l → k ≤ n → trList t i k = some (l.take k)
  | _, i, 0, l, _, _ => by simp [trList]
  | 0, i, k + 1, l, _, h => by omega
  | n + 1, i, k + 1, l, e, h => by
    unfold trList at e ⊢
    split at e
    · rename_i v r hv hr
      obtain rfl := Option.some.inj e
      rw [hv, trList_take hr (by omega)]
      simp
    · cases e

theorem source_take (r : HRel C ρ W σ h w) {size n k : Nat} {x : SV} {X : Value} {l : List SV} (e : sourceS h size x = some (n, l)) (hx : VRel σ ρ x X) (hl : l.length = n * size) (hk : k ≤ n) :
    ∃ L : Array Value, (Builtin.firstCells size k X).run C.P w = .ok L w ∧ VRels σ ρ (l.take (k * size)) L.toList := by
  unfold sourceS at e
  split at e
  · obtain ⟨rfl, rfl⟩ := (Prod.mk.injEq _ _ _ _).mp (Option.some.inj e)
    simp only [VRel] at hx; subst hx
    exact ⟨#[], rfl, by simp [VRels]⟩
  · rename_i b
    obtain ⟨rfl, rfl⟩ := (Prod.mk.injEq _ _ _ _).mp (Option.some.inj e)
    simp only [VRel] at hx; obtain ⟨hs, rfl⟩ := hx
    refine ⟨_, rfl, ?_⟩
    rw [List.length_map, lenL_eq] at hl
    rw [lenL_eq] at hk
    have hks : k * size = k := by
      by_cases h0 : b.length = 0
      · have : k = 0 := by omega
        rw [this]; simp
      · have : size = 1 := by
          have h1 : b.length * 1 = b.length * size := by rw [Nat.mul_one]; exact hl
          exact (Nat.eq_of_mul_eq_mul_left (Nat.pos_of_ne_zero h0) h1).symm
        rw [this]; simp
    rw [hks, bytes_extract, List.drop_zero, Nat.sub_zero, Array.toList_map, bytes_data, List.map_map, ← List.map_take]
    have hs' := small_take hs k
    refine VRels.of_get (by simp) fun i v V hv hV => ?_
    simp only [List.getElem?_map] at hv hV
    cases hb : (b.take k)[i]? with
    | none => rw [hb] at hv; cases hv
    | some j =>
      rw [hb] at hv hV
      simp only [Option.map_some, Option.some.injEq, Function.comp] at hv hV
      subst hv; subst hV
      simp only [VRel, IE.ev]
      have hj : j < 256 := hs' j (List.mem_of_getElem? hb)
      exact ⟨_, rfl, by rw [toNat_of hj]; rfl⟩
  · rename_i id off len room
    split at e
    · rename_i cs m el more f hg
      obtain ⟨p, c, fz, hp, hw, _, _, _, hc, _⟩ := r.cells hg
      cases ht : trList cs off (len * size) with
      | none => rw [ht] at e; cases e
      | some l' =>
        rw [ht] at e
        simp only [Option.map_some] at e
        obtain ⟨rfl, rfl⟩ := (Prod.mk.injEq _ _ _ _).mp (Option.some.inj e)
        have hX : ∃ c, X = .slice (some ⟨p.block, p.off + off, none⟩) len c := by
          cases room <;> simp only [VRel] at hx
          · obtain ⟨p', hp', rfl⟩ := hx; rw [hp] at hp'; obtain rfl := Option.some.inj hp'; exact ⟨_, rfl⟩
          · obtain ⟨p', c, hp', rfl, _⟩ := hx; rw [hp] at hp'; obtain rfl := Option.some.inj hp'; exact ⟨_, rfl⟩
        obtain ⟨cap, rfl⟩ := hX
        have ht' := trList_take ht (Nat.mul_le_mul_right size hk)
        obtain ⟨L, hrun, hv, _, _⟩ := run_loadCells_of (P := C.P) hw hc ht'
        exact ⟨L.toArray, hrun w.drawn, by simpa using hv⟩
    · cases e
  · cases e

theorem copyS_ok (r : HRel C ρ W σ h w) {t ty : TypeId} {ts : List TypeId} {s d : SV} {S D : Value} {n : Nat} {h' : SH} (e : copyS C h t d s = some (n, h')) (hd : VRel σ ρ d D) (hs : VRel σ ρ s S) :
    OpOk C ρ W σ w (do pure (.value (← Builtin.copy_ (t :: ts).toArray ty #[D, S]))) (.val (.int .i64 (.lit (Int.ofNat n))) h') := by
  unfold copyS at e
  split at e
  · cases e
  rename_i el he
  have hu := elemP_ok he
  split at e
  · cases e
  rename_i size hsz
  split at e
  · rename_i m l hsrc
    cases hc : Nat.beq (lenL l) (m * size) with
    | false => rw [hc] at e; cases e
    | true =>
      rw [hc] at e; simp only [cond_true, Option.some.injEq, Prod.mk.injEq] at e
      obtain ⟨rfl, rfl⟩ := e
      rw [beq_true, lenL_eq] at hc
      obtain ⟨hn, _⟩ := source_ok r hsrc hs
      obtain ⟨L, hL, _⟩ := source_take r hsrc hs hc (Nat.zero_le m)
      simp only [VRel] at hd; subst hd
      refine OpOk.val (Sg.le_refl _) (V := .int .i64 0) ?_ (by simp [VRel, IE.ev]) r
      unfold Builtin.copy_
      simp [run_underlying hu, hn, run_sizeOf hsz, hL, goInt]
  · rename_i m l id off len room hsrc
    cases hc : Nat.beq (lenL l) (m * size) with
    | false => rw [hc] at e; cases e
    | true =>
      rw [hc] at e; simp only [cond_true] at e
      rw [beq_true, lenL_eq] at hc
      cases hput : putCells C.ro h id off (takeL (Nat.min m len * size) l) with
      | none => rw [hput] at e; cases e
      | some h2 =>
        rw [hput] at e; simp only [Option.map_some, Option.some.injEq, Prod.mk.injEq] at e
        obtain ⟨rfl, rfl⟩ := e
        obtain ⟨hn, _⟩ := source_ok r hsrc hs
        obtain ⟨L, hL, hLr⟩ := source_take r hsrc hs hc (Nat.min_le_left m len)
        rw [takeL_eq] at hput
        have hX : ∃ p c, σ id = some p ∧ D = .slice (some ⟨p.block, p.off + off, none⟩) len c := by
          cases room <;> simp only [VRel] at hd
          · obtain ⟨p', hp', rfl⟩ := hd; exact ⟨p', _, hp', rfl⟩
          · obtain ⟨p', c, hp', rfl, _⟩ := hd; exact ⟨p', c, hp', rfl⟩
        obtain ⟨p, cap, hp, rfl⟩ := hX
        obtain ⟨w', hrun, hr', _⟩ := putCells_ok r hput hLr hp
        refine OpOk.val (Sg.le_refl _) (V := .int .i64 (Nat.min m len : Nat)) ?_ (by simp [VRel, IE.ev]) hr'
        unfold Builtin.copy_
        simp [run_underlying hu, hn, run_sizeOf hsz, hL, goInt, hrun]
  · cases e

end
end Go.Sx
