/- Loads, stores, new variables, parts. -/
import Derived.Test.YtacbfdokeiechaaGreatDoorSxStr
namespace Go.Sx
open Go

section
variable {C : Cx} {ρ : Env} {W : Base} {w : World} {σ : Sg} {h : SH}

theorem run_isAgg {P : Program} {t : TypeId} {b : Bool} (e : isAggP P t = some b) (w : World) : (isAgg t).run P w = .ok b w := by
  unfold isAggP at e
  split at e <;> rename_i hu <;> first | (obtain rfl := Option.some.inj e; simp [isAgg, underlying, hu]) | (cases e)
  all_goals
    rename_i d _ h1 h2
    cases d <;> simp_all
theorem run_sizeOf {P : Program} {t : TypeId} {n : Nat} (e : sizeP P t = some n) (w : World) : (sizeOf t).run P w = .ok n w := by
  unfold sizeP at e
  cases hi : P.info? t with
  | none => rw [hi] at e; cases e
  | some i => rw [hi] at e; simp at e; simp [sizeOf, typeInfo, hi, e]
theorem run_info {P : Program} {t : TypeId} {i : TypeInfo} (e : P.info? t = some i) (w : World) : (typeInfo t).run P w = .ok i w := by
  simp [typeInfo, e]
theorem run_zero {P : Program} {t : TypeId} {z : SV} (e : zeroP P t = some z) : ∃ Z, (∀ w, (zeroValue t).run P w = .ok Z w) ∧ (∀ σ ρ, VRel σ ρ z Z) := by
  unfold zeroP at e
  cases hi : P.info? t with
  | none => rw [hi] at e; simp at e
  | some i =>
    rw [hi] at e; simp only [Option.bind_some] at e
    cases hz : i.zero with
    | none => rw [hz] at e; simp at e
    | some Z =>
      rw [hz] at e; simp only [Option.bind_some] at e
      exact ⟨Z, fun w => by simp [zeroValue, typeInfo, hi, hz], fun σ ρ => ofVal_ok Z z e⟩

theorem HRel.cells (r : HRel C ρ W σ h w) {id : Nat} {cs : Tr SV} {n : Nat} {e : TypeId} {m : Bool} {f : Fz} (hg : h.blocks.get id = some (.cells cs n e m f)) :
    ∃ p c fz, σ id = some p ∧ w.heap[p.block]? = some (.cells c e fz) ∧ p.off + p.size = c.size ∧ n ≤ p.size ∧ (m = false → n = p.size ∧ p.off = 0) ∧
      (∀ i x, cs.get i = some x → i < n ∧ ∃ V, c[p.off + i]? = some V ∧ VRel σ ρ x V) ∧
      FzOk p fz f ∧ p.off = 0 := by
  obtain ⟨p, o, hp, ho, c, fz, rfl, h1⟩ := r.blk id _ hg
  exact ⟨p, c, fz, hp, ho, h1⟩

theorem run_loadCells_of {P : Program} {p : Pl} {c : Array Value} {e : TypeId} {fz : Nat × Nat} {cs : Tr SV} {n : Nat} (hw : w.heap[p.block]? = some (.cells c e fz))
    (hc : ∀ i x, cs.get i = some x → i < n ∧ ∃ V, c[p.off + i]? = some V ∧ VRel σ ρ x V) {off k : Nat} {l : List SV} (hl : trList cs off k = some l) :
    ∃ L : List Value, (∀ d, (loadCells ⟨p.block, p.off + off, none⟩ k).run P { w with drawn := d } = .ok L.toArray { w with drawn := d }) ∧ VRels σ ρ l L ∧ (∀ j, j < k → c[p.off + off + j]? = L[j]?) ∧ L.length = k := by
  obtain ⟨h1, h2⟩ := trList_spec hl
  have hex : ∀ j, j < k → ∃ V x, l[j]? = some x ∧ c[p.off + off + j]? = some V ∧ VRel σ ρ x V := by
    intro j hj
    have hx : l[j]? = some (l[j]'(by omega)) := List.getElem?_eq_getElem (by omega)
    have := h2 j hj
    rw [hx] at this
    obtain ⟨_, V, hV, hr⟩ := hc _ _ this
    exact ⟨V, _, hx, by rw [Nat.add_assoc]; exact hV, hr⟩
  let L : List Value := (List.range k).map fun j => (c[p.off + off + j]?).getD undef
  have hLlen : L.length = k := by simp [L]
  have hLget : ∀ j, j < k → L[j]? = c[p.off + off + j]? := by
    intro j hj
    obtain ⟨V, x, _, hV, _⟩ := hex j hj
    simp only [L, List.getElem?_map, List.getElem?_range hj, Option.map_some, hV, Option.getD_some]
  refine ⟨L, ?_, ?_, fun j hj => (hLget j hj).symm, hLlen⟩
  · intro d
    have hwd : ({ w with drawn := d } : World).heap[p.block]? = some (.cells c e fz) := hw
    have := run_loadCells_list (P := P) { w with drawn := d } ⟨p.block, p.off + off, none⟩ L (fun j v hv => by
      have hj : j < k := by rw [← hLlen]; exact (List.getElem?_eq_some_iff.1 hv).1
      rw [addr_add, cell_of hwd, ← hLget j hj]
      exact hv)
    rw [hLlen] at this
    exact this
  · refine VRels.of_get (by rw [h1, hLlen]) fun i v V hv hV => ?_
    have hi : i < k := by rw [← hLlen]; exact (List.getElem?_eq_some_iff.1 hV).1
    obtain ⟨V', x, hx, hV', hr⟩ := hex i hi
    rw [hx] at hv; obtain rfl := Option.some.inj hv
    rw [hLget i hi, hV'] at hV; obtain rfl := Option.some.inj hV
    exact hr

theorem loadS_ok (r : HRel C ρ W σ h w) {t : TypeId} {id off : Nat} {v : SV} {p : Pl} (e : loadS C.P h t id off = some v) (hp : σ id = some p) :
    ∃ X, (loadVar t ⟨p.block, p.off + off, none⟩).run C.P w = .ok X w ∧ VRel σ ρ v X := by
  unfold loadS at e
  split at e
  · rename_i cs n el m f hg
    obtain ⟨p', c, fz, hp', hw, _, _, _, hc, _, _⟩ := r.cells hg
    rw [hp] at hp'; obtain rfl := Option.some.inj hp'
    split at e
    · rename_i ha
      split at e
      · rename_i k hk
        cases hl : trList cs off k with
        | none => rw [hl] at e; cases e
        | some l =>
          rw [hl] at e; simp at e; subst e
          obtain ⟨L, hrun, hL, _, _⟩ := run_loadCells_of (P := C.P) hw hc hl
          refine ⟨.agg L.toArray, ?_, ?_⟩
          · have := hrun w.drawn
            simp only [loadVar, Sem.run_bind, run_isAgg ha, Result.andThen_ok, if_true, run_sizeOf hk]
            rw [show (loadCells ⟨p.block, p.off + off, none⟩ k).run C.P w = _ from this]
            rfl
          · simp only [VRel]; exact ⟨_, rfl, by simpa using hL⟩
      · cases e
    · rename_i ha
      obtain ⟨_, V, hV, hr⟩ := hc _ _ e
      refine ⟨V, ?_, hr⟩
      simp [loadVar, run_isAgg ha, cell_of hw, hV]
    · cases e
  · cases e

/-- One cell of what is told holds one value. -/
theorem one_of {v : SV} {V : Value} (h1 : v.one = true) (r : VRel σ ρ v V) : V.oneCell' = true := by
  cases v <;> simp only [SV.one, Bool.false_eq_true] at h1
  case slice _ _ _ room =>
    cases room <;> simp only [VRel] at r
    · obtain ⟨_, _, rfl⟩ := r; rfl
    · obtain ⟨_, _, _, rfl, _⟩ := r; rfl
  case str s =>
    obtain ⟨_, _, rfl⟩ := str_rel.1 r; rfl
  all_goals simp only [VRel] at r
  case bool => obtain ⟨_, _, rfl⟩ := r; rfl
  case int => obtain ⟨_, _, rfl⟩ := r; rfl
  case nilPtr => subst r; rfl
  case ptr => obtain ⟨_, _, rfl⟩ := r; rfl
  case nilSlice => subst r; rfl
  case nilMap => subst r; rfl
  case map => obtain ⟨_, _, rfl⟩ := r; rfl
  case func => obtain ⟨_, _, rfl, _⟩ := r; rfl
  case nilFunc => subst r; rfl
  case iface => obtain ⟨_, rfl, _⟩ := r; rfl
  case nilIface => subst r; rfl
  case dyn => exact r.2
theorem allOne_ok : ∀ {l : List SV} {L : List Value}, allOne l = true → VRels σ ρ l L → ∀ v ∈ L, v.oneCell' = true
  | [], L, _, r => by simp only [VRels] at r; subst r; simp
  | a :: l, L, h1, r => by
    simp only [VRels] at r
    obtain ⟨x, xs, rfl, r1, r2⟩ := r
    simp only [allOne, Bool.and_eq_true] at h1
    intro v hv
    rcases List.mem_cons.1 hv with rfl | hv
    · exact one_of h1.1 r1
    · exact allOne_ok h1.2 r2 v hv

theorem cells_ok {v : SV} {V : Value} (r : VRel σ ρ v V) (hV : v.one = true ∨ (∃ c, v = .agg c) ∨ (∃ c, v = .tuple c) ∨ ∀ c, V ≠ .agg c) : VRels σ ρ v.cells V.cells.toList := by
  cases v
  case agg cs => simp only [VRel] at r; obtain ⟨c, rfl, hc⟩ := r; exact hc
  all_goals
    have hh : ∀ c, V ≠ .agg c := by
      intro c e
      subst e
      rcases hV with h1 | ⟨c', e⟩ | ⟨c', e⟩ | hV
      · have := one_of h1 r; simp [Value.oneCell'] at this
      · cases e
      · first | (cases e; done) | (cases e; simp only [VRel] at r; obtain ⟨_, e, _⟩ := r; cases e)
      · exact hV c rfl
    have e : V.cells.toList = [V] := by cases V <;> first | rfl | exact absurd rfl (hh _)
    rw [e]
    exact VRels.one r

/-- The cells of a told value that may be stored. -/
theorem cells_of_allOne {v : SV} {V : Value} (r : VRel σ ρ v V) (h1 : allOne v.cells = true) : VRels σ ρ v.cells V.cells.toList := by
  cases v
  case agg cs => simp only [VRel] at r; obtain ⟨c, rfl, hc⟩ := r; exact hc
  all_goals exact cells_ok r (.inl (by simpa [SV.cells, allOne] using h1))

/-- The known cells behind a store. -/
theorem cells_put {p : Pl} {c : Array Value} {cs : Tr SV} {n off : Nat} {l : List SV} {L : List Value} (hs : p.off + n ≤ c.size)
    (hc : ∀ i x, cs.get i = some x → i < n ∧ ∃ V, c[p.off + i]? = some V ∧ VRel σ ρ x V) (hl : VRels σ ρ l L) (ho : off + l.length ≤ n) :
    ∀ i x, (trOf l off cs).get i = some x → i < n ∧ ∃ V, (spl c (p.off + off) L)[p.off + i]? = some V ∧ VRel σ ρ x V := by
  intro i x hx
  rw [get_trOf] at hx
  have hlen := hl.length
  by_cases e : off ≤ i ∧ i < off + l.length
  · rw [if_pos e] at hx
    refine ⟨by omega, ?_⟩
    obtain ⟨V, hV, hr⟩ := hl.get hx
    refine ⟨V, ?_, hr⟩
    rw [spl_get _ _ _ _ (by omega), if_pos (by omega)]
    rw [show p.off + i - (p.off + off) = i - off by omega]
    exact hV
  · rw [if_neg e] at hx
    obtain ⟨h1, V, hV, hr⟩ := hc i x hx
    refine ⟨h1, V, ?_, hr⟩
    rw [spl_get _ _ _ _ (by omega), if_neg (by omega)]
    exact hV

theorem putCells_ok (r : HRel C ρ W σ h w) {id off : Nat} {l : List SV} {L : List Value} {h' : SH} {p : Pl} (e : putCells C.ro h id off l = some h') (hl : VRels σ ρ l L) (hp : σ id = some p) :
    ∃ w', (storeCells ⟨p.block, p.off + off, none⟩ L).run C.P w = .ok () w' ∧ HRel C ρ W σ h' w' ∧ w'.drawn = w'.drawn := by
  unfold putCells at e
  split at e
  · rename_i cs n el m f hg
    obtain ⟨p', c, fz, hp', hw, hsz, hn, hm, hc, hf1, hoff⟩ := r.cells hg
    rw [hp] at hp'; obtain rfl := Option.some.inj hp'
    cases hb : (mayPut n f off (lenL l) && allOne l) with
    | false => rw [hb] at e; cases e
    | true =>
      rw [hb] at e
      simp only [cond_true] at e
      rw [Bool.and_eq_true] at hb
      obtain ⟨hb1, hb2⟩ := hb
      unfold mayPut at hb1
      rw [Bool.and_eq_true, ble_true, lenL_eq] at hb1
      have hlen := hl.length
      obtain ⟨w', hrun, hu⟩ := run_storeCells_upd C.P p.block (p.off + off) el fz L 0 c w hw (allOne_ok hb2 hl) (by omega) (by
        intro j _ hj
        have := hf1.free hb1.2 (i := off + j) (by omega) (by omega)
        omega)
      refine ⟨w', hrun, r.turn hg hp hu ?_ e, rfl⟩
      refine ⟨_, fz, rfl, by simpa using hsz, hn, hm, ?_, hf1, hoff⟩
      rw [Nat.add_zero]
      exact cells_put (by omega) hc hl (by omega)
  · cases e

theorem storeS_ok (r : HRel C ρ W σ h w) {t : TypeId} {id off : Nat} {v : SV} {V : Value} {h' : SH} {p : Pl} (e : storeS C h t id off v = some h') (hv : VRel σ ρ v V) (hp : σ id = some p) :
    ∃ w', (storeVar t ⟨p.block, p.off + off, none⟩ V).run C.P w = .ok () w' ∧ HRel C ρ W σ h' w' := by
  unfold storeS at e
  split at e
  · rename_i n hn
    cases hb : Nat.beq (lenL v.cells) n with
    | false => rw [hb] at e; cases e
    | true =>
      rw [hb] at e
      simp only [cond_true] at e
      have h1 : allOne v.cells = true := by
        unfold putCells at e
        split at e
        · cases ha : allOne v.cells with
          | true => rfl
          | false => rw [ha] at e; simp at e
        · cases e
      have hl := cells_of_allOne hv h1
      obtain ⟨w', hrun, hr, _⟩ := putCells_ok r e hl hp
      refine ⟨w', ?_, hr⟩
      have hsz : V.cells.size = n := by
        rw [beq_true, lenL_eq] at hb
        rw [← hb, hl.length, Array.length_toList]
      simp [storeVar, run_sizeOf hn, hsz, hrun]
  · cases e

/-- New variables. -/
theorem newCells_ok (r : HRel C ρ W σ h w) {e : TypeId} {l : List SV} {L : List Value} (hl : VRels σ ρ l L) :
    HRel C ρ W (σ.put h.next ⟨w.heap.size, 0, L.length⟩) (newCells h h.next e l).bump { w with heap := w.heap.push (.cells L.toArray e) } := by
  refine r.push L.length ?_
  have hlen := hl.length
  refine ⟨L.toArray, (0, 0), rfl, by simp, by simp [hlen], fun _ => ⟨by simp [hlen], rfl⟩, ?_, (rfl : (0 : Nat) = 0), rfl⟩
  intro i x hx
  rw [get_trOf] at hx
  by_cases c : 0 ≤ i ∧ i < 0 + l.length
  · rw [if_pos c] at hx
    obtain ⟨V, hV, hr⟩ := hl.get hx
    exact ⟨by simp; omega, V, by simpa using hV, hr⟩
  · rw [if_neg c] at hx; simp at hx

theorem newPtr (n : Nat) : VRel (σ.put h.next ⟨w.heap.size, 0, n⟩) ρ (.ptr h.next 0) (.pointer (some ⟨w.heap.size, 0, none⟩)) := by
  simp only [VRel]; exact ⟨⟨w.heap.size, 0, n⟩, by simp [Sg.put], rfl⟩

theorem partS_ok {P : Program} {t : TypeId} {cs : List SV} {off : Nat} {v : SV} {c : Array Value} (e : partS P t cs off = some v) (hc : VRels σ ρ cs c.toList) :
    ∃ V, Gives P (part t c off) V ∧ VRel σ ρ v V := by
  unfold partS at e
  split at e
  · rename_i n ha hn
    cases hb : Nat.ble (off + n) (lenL cs) with
    | false => rw [hb] at e; cases e
    | true =>
      rw [hb] at e
      obtain rfl := Option.some.inj e
      refine ⟨.agg (c.extract off (off + n)), fun w => by simp [part, run_isAgg ha, run_sizeOf hn], ?_⟩
      simp only [VRel]
      refine ⟨_, rfl, ?_⟩
      rw [takeL_eq, dropL_eq]
      have := (hc.drop off).take n
      simpa [Array.toList_extract, List.extract_eq_take_drop] using this
  · rename_i ha
    rw [getL_eq] at e
    obtain ⟨V, hV, hr⟩ := hc.get e
    refine ⟨V, fun w => ?_, hr⟩
    have : c[off]? = some V := by simpa using hV
    simp [part, run_isAgg ha, this]
  · cases e
end
end Go.Sx
