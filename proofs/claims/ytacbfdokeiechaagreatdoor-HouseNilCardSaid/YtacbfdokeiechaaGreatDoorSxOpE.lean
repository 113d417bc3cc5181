/- Slices of slices, new slices, conversions. -/
import Derived.Test.YtacbfdokeiechaaGreatDoorSxOpD
namespace Go.Sx
open Go

section
variable {C : Cx} {ρ : Env} {W : Base} {w : World} {σ : Sg} {h : SH} {tm : Tr SV} {a : Act}

theorem subS_ok (hh : Hints C ρ) {t : TypeId} {x : SE} {v : SV} {S : ByteArray} {lo hi : Option SV} {LO HI : Option Value} (hu : C.P.underlying t = some .string) (e : subS C x lo hi = some v) (hx : x.ev ρ = some S) (hlo : ORel σ ρ lo LO) (hhi : ORel σ ρ hi HI) :
    ∃ V, Gives C.P (Instr.sliceAt t (.string S) LO HI none) V ∧ VRel σ ρ v V := by
  unfold subS at e
  split at e
  case h_2 => cases e
  rename_i l h hl hh'
  cases hc : isTrue (C.b (.le (.lit 0) l)) && isTrue (C.b (.le l h)) && isTrue (C.b (.le h (lenE x))) with
  | false => rw [hc] at e; cases e
  | true =>
  rw [hc] at e; simp only [cond_true, Option.some.injEq] at e; subst e
  simp only [Bool.and_eq_true] at hc
  have h1 : ∃ n, h.ev ρ = some n ∧ ∀ w, (match HI, (none : Option Value) with | some v, some _ => Instr.sliceBound v S.size .slice3B | some v, none => Instr.sliceBound v S.size .sliceAlen | none, none => pure S.size | none, some _ => stuck "Slice: max without high" : Sem Nat).run C.P w = (if 0 ≤ n ∧ n ≤ (S.size : Int) then (pure n.toNat : Sem Nat).run C.P w else (match HI, (none : Option Value) with | some v, some _ => Instr.sliceBound v S.size .slice3B | some v, none => Instr.sliceBound v S.size .sliceAlen | none, none => pure S.size | none, some _ => stuck "Slice: max without high" : Sem Nat).run C.P w) := by
    cases hi with
    | none =>
      simp only [ORel] at hhi; subst hhi; simp only [Option.some.injEq] at hh'; subst hh'
      refine ⟨(S.size : Int), lenE_ok hx, fun w => ?_⟩
      rw [if_pos ⟨Int.natCast_nonneg _, Int.le_refl _⟩]; simp
    | some V =>
      simp only [ORel] at hhi; obtain ⟨V', rfl, hV⟩ := hhi
      simp only at hh'
      obtain ⟨j, n, rfl, hn⟩ := asIE_ok hV hh'
      refine ⟨n, hn, fun w => ?_⟩
      by_cases c : 0 ≤ n ∧ n ≤ (S.size : Int)
      · rw [if_pos c]; simp [Instr.sliceBound, asIntOf, c]
      · rw [if_neg c]
  obtain ⟨n, hn, hrun⟩ := h1
  have h2 : ∃ m, l.ev ρ = some m ∧ (0 ≤ m → m ≤ n → 0 ≤ n → ∀ w, (match LO with | some v => Instr.sliceBound v n.toNat .sliceB | none => pure 0 : Sem Nat).run C.P w = .ok m.toNat w) := by
    cases lo with
    | none =>
      simp only [ORel] at hlo; subst hlo; simp only [Option.some.injEq] at hl; subst hl
      exact ⟨0, rfl, fun _ _ _ w => by simp⟩
    | some V =>
      simp only [ORel] at hlo; obtain ⟨V', rfl, hV⟩ := hlo
      simp only at hl
      obtain ⟨j, m, rfl, hm⟩ := asIE_ok hV hl
      refine ⟨m, hm, fun h0 h1 h2 w => ?_⟩
      simp only [Instr.sliceBound, asIntOf, Sem.run_bind, Sem.run_pure, Result.andThen_ok]
      rw [if_pos (by omega)]; simp
  obtain ⟨m, hm, hrun2⟩ := h2
  have b0 : 0 ≤ m := by have := told_true hh hc.1.1 (c := decide ((0 : Int) ≤ m)) (by simp only [BE.ev, IE.ev, hm, op2b]); simpa using this
  have b1 : m ≤ n := by have := told_true hh hc.1.2 (c := decide (m ≤ n)) (by simp only [BE.ev, hm, hn, op2b]); simpa using this
  have b2 : n ≤ S.size := by have := told_true hh hc.2 (c := decide (n ≤ (S.size : Int))) (by simp only [BE.ev, lenE_ok hx, hn, op2b]); simpa using this
  refine ⟨.string (S.extract m.toNat n.toNat), fun w => ?_, str_ev.2 (by rw [hint_s hh]; simp only [SE.ev, hx, hm, hn]; rw [if_pos ⟨b0, b1, b2⟩])⟩
  have g1 := hrun w
  rw [if_pos ⟨by omega, b2⟩] at g1
  have g2 := hrun2 b0 b1 (by omega) w
  have g3 : (Instr.sliceBounds false S.size S.size LO HI none).run C.P w = .ok (m.toNat, n.toNat, S.size) w := by
    simp only [Instr.sliceBounds, Sem.run_bind, Sem.run_pure, Result.andThen_ok]
    cases HI with
    | none =>
      simp only [Sem.run_pure, Result.ok.injEq, and_true] at g1
      simp only [g1]
      cases LO with
      | none => simp only [Sem.run_pure, Result.ok.injEq, and_true] at g2; simp [g2]
      | some V => simp only at g2; simp [g2]
    | some V =>
      simp only at g1
      cases LO with
      | none => simp only [Sem.run_pure, Result.ok.injEq, and_true] at g2; simp [g1, g2]
      | some V => simp only at g2; simp [g1, g2]
  simp [Instr.sliceAt, Instr.slice, run_underlying hu, g3]

theorem sliceS_ok (hh : Hints C ρ) {t : TypeId} {x v : SV} {X : Value} {lo hi : Option SV} {LO HI : Option Value} (e : sliceS C t x lo hi = some v) (hx : VRel σ ρ x X) (hlo : ORel σ ρ lo LO) (hhi : ORel σ ρ hi HI) :
    ∃ V, Gives C.P (Instr.sliceAt t X LO HI none) V ∧ VRel σ ρ v V := by
  unfold sliceS at e
  split at e
  · rename_i l hu
    have hx' := hx
    simp only [VRel] at hx; obtain ⟨hs, rfl⟩ := hx
    cases eb : bounds (lenL l) (lenL l) lo hi with
    | none => rw [eb] at e; exact subS_ok hh hu e (str_ev.1 hx') hlo hhi
    | some p =>
      obtain ⟨a, b⟩ := p
      rw [eb] at e; simp only [Option.some.injEq] at e; subst e
      have hb := fun s => bounds_ok (C := C) eb (Nat.le_refl _) hlo hhi s
      refine ⟨.string ((bytes l).extract a b), fun w => ?_, ?_⟩
      · have h2 := (hb false).2.1 w
        rw [lenL_eq] at h2
        simp [Instr.sliceAt, Instr.slice, run_underlying hu, bytes_size, h2]
      · simp only [VRel]
        refine ⟨?_, by rw [bytes_extract, takeL_eq, dropL_eq]⟩
        rw [takeL_eq, dropL_eq]; exact small_take (small_drop hs _) _
  · rename_i y _ hu
    obtain ⟨S, hS, rfl⟩ := str_rel.1 hx
    exact subS_ok hh hu e hS hlo hhi
  · rename_i el id off len room hu
    split at e
    · rename_i s c hs
      simp only [VRel] at hx; obtain ⟨p, hp, rfl⟩ := hx
      cases eb : bounds len c lo hi with
      | none => rw [eb] at e; cases e
      | some q =>
        obtain ⟨a, b⟩ := q
        rw [eb] at e; simp only [Option.map_some, Option.some.injEq] at e; subst e
        obtain ⟨_, hb, hab, hbc⟩ := bounds_ok (C := C) eb (Nat.le_refl _) hlo hhi true
        refine ⟨.slice (some ⟨p.block, p.off + (bif Nat.beq a c then off else off + a * s), none⟩) (b - a) (c - a), fun w => ?_, by simp only [VRel]; exact ⟨p, hp, rfl⟩⟩
        simp only [Instr.sliceAt, Instr.slice, Sem.run_bind, run_underlying hu, Result.andThen_ok, hb w, run_sizeOf hs, Sem.run_pure]
        by_cases hc : a = c
        · subst hc; rw [Nat.beq_refl]; simp
        · rw [beq_false.2 hc, if_neg (Ne.symm hc)]
          simp [addr_add, Nat.add_assoc]
    · rename_i s s' hs
      cases hss : Nat.beq s s' with
      | false => rw [hss] at e; cases e
      | true =>
        rw [hss] at e; simp only [cond_true] at e
        have hss' := beq_true.1 hss; subst hss'
        simp only [VRel] at hx; obtain ⟨p, c, hp, rfl, hlc, hsz⟩ := hx
        cases eb : bounds len len lo hi with
        | none => rw [eb] at e; cases e
        | some q =>
          obtain ⟨a, b⟩ := q
          rw [eb] at e; simp only [Option.bind_some] at e
          obtain ⟨_, hb, hab, hbc⟩ := bounds_ok (C := C) eb hlc hlo hhi true
          have hbl : b ≤ len := by rcases hbc with h | h <;> omega
          cases hz : (Nat.beq a len && Nat.blt 0 a) with
          | true => rw [hz] at e; cases e
          | false =>
            rw [hz] at e; simp only [cond_false, Option.some.injEq] at e; subst e
            refine ⟨.slice (some ⟨p.block, p.off + (off + a * s), none⟩) (b - a) (c - a), fun w => ?_, ?_⟩
            · simp only [Instr.sliceAt, Instr.slice, Sem.run_bind, run_underlying hu, Result.andThen_ok, hb w, run_sizeOf hs, Sem.run_pure]
              by_cases hc : c = a
              · have : a = 0 := by
                  rw [Bool.and_eq_false_iff, beq_false, ← Bool.not_eq_true, blt_true] at hz
                  rcases hz with hz | hz <;> omega
                rw [if_pos hc]; subst this; simp
              · rw [if_neg hc]
                simp [addr_add, Nat.add_assoc]
            · simp only [VRel]
              refine ⟨p, c - a, hp, rfl, by omega, ?_⟩
              have h1 : a * s + (c - a) * s = c * s := by rw [← Nat.add_mul]; congr 1; omega
              omega
    · cases e
  · rename_i el hu
    simp only [VRel] at hx; subst hx
    split at e
    · rename_i s hs
      cases eb : bounds 0 0 lo hi with
      | none => rw [eb] at e; cases e
      | some q =>
        obtain ⟨a, b⟩ := q
        rw [eb] at e; simp only [Option.map_some, Option.some.injEq] at e; subst e
        obtain ⟨_, hb, hab, hbc⟩ := bounds_ok (C := C) eb (Nat.le_refl _) hlo hhi true
        have hb0 : b = 0 := by rcases hbc with h | h <;> omega
        have ha0 : a = 0 := by omega
        subst hb0; subst ha0
        refine ⟨.slice none 0 0, fun w => ?_, by simp [VRel]⟩
        simp only [Instr.sliceAt, Instr.slice, Sem.run_bind, run_underlying hu, Result.andThen_ok, hb w, run_sizeOf hs, Sem.run_pure]
        simp
    · cases e
  · rename_i n el id off hu
    simp only [VRel] at hx; obtain ⟨p, hp, rfl⟩ := hx
    split at e
    · rename_i s hs
      cases eb : bounds n n lo hi with
      | none => rw [eb] at e; cases e
      | some q =>
        obtain ⟨a, b⟩ := q
        rw [eb] at e; simp only [Option.map_some, Option.some.injEq] at e; subst e
        obtain ⟨_, hb, hab, hbc⟩ := bounds_ok (C := C) eb (Nat.le_refl _) hlo hhi false
        refine ⟨.slice (some ⟨p.block, p.off + (bif Nat.beq a n then off else off + a * s), none⟩) (b - a) (n - a), fun w => ?_, by simp only [VRel]; exact ⟨p, hp, rfl⟩⟩
        simp only [Instr.sliceAt, Instr.sureAddr, Sem.run_bind, run_underlying hu, Result.andThen_ok, hb w, run_sizeOf hs, Sem.run_pure]
        by_cases hc : a = n
        · subst hc; rw [Nat.beq_refl]; simp
        · rw [beq_false.2 hc, if_neg (Ne.symm hc)]
          simp [addr_add, Nat.add_assoc]
    · cases e
  · cases e

theorem newSlice (n l c : Nat) : VRel (σ.put h.next ⟨w.heap.size, 0, n⟩) ρ (.slice h.next 0 l (.known c)) (.slice (some ⟨w.heap.size, 0, none⟩) l c) := by
  simp only [VRel]; exact ⟨⟨w.heap.size, 0, n⟩, by simp [Sg.put], rfl⟩

theorem wrap_nat {n : Nat} (h : n ≤ 16777216) : IntKind.i64.wrap (n : Int) = n := IntWalk.i64_in _ (by omega)

theorem makeSlice_ok (r : HRel C ρ W σ h w) {t e : TypeId} {L K : Value} {lv cv : SV} {l c s b : Nat} {z : SV} (he : elemP C.P t = some e) (hl : VRel σ ρ lv L) (hc : VRel σ ρ cv K)
    (el : asLit lv = some l) (ec : asLit cv = some c) (hs : sizeP C.P e = some s) (hz : zeroP C.P e = some z) (hb : (C.P.info? e).map (·.bytes) = some b)
    (hcond : (Nat.ble l c && Nat.ble (c * b) 16777216 && Nat.ble (c * s) 16777216 && Nat.ble c 16777216 && Nat.beq (lenL z.cells) s && Nat.blt 0 s) = true) :
    OpOk C ρ W σ w (do pure (.value (← Instr.makeSlice t L K))) (.val (.slice h.next 0 l (.known c)) (newCells h h.next e (rep z.cells c)).bump) := by
  obtain ⟨kl, rfl⟩ := asLit_ok hl el
  obtain ⟨kc, rfl⟩ := asLit_ok hc ec
  simp only [Bool.and_eq_true, ble_true, beq_true, blt_true, lenL_eq] at hcond
  obtain ⟨⟨⟨⟨⟨h1, h2⟩, h3⟩, h4⟩, h5⟩, h6⟩ := hcond
  obtain ⟨Z, hZ, hr⟩ := run_zero hz
  have hu := elemP_ok he
  obtain ⟨i, hi, hib⟩ : ∃ i, C.P.info? e = some i ∧ i.bytes = b := by
    cases hi : C.P.info? e with
    | none => rw [hi] at hb; cases hb
    | some i => rw [hi] at hb; simp at hb; exact ⟨i, rfl, hb⟩
  have hcz := cells_any (hr σ ρ)
  have hsz : Z.cells.size = s := by rw [← Array.length_toList, ← hcz.length, h5]
  have hcells : VRels σ ρ (rep z.cells c) ((Array.range (c * s)).map (fun i => Z.cells[i % Z.cells.size]!)).toList := by
    rw [← hsz, rep_range _ (by omega)]
    exact rep_ok hcz c
  have hnew := newCells_ok r (e := e) hcells
  rw [Array.toArray_toList] at hnew
  refine OpOk.val (r.le_put _) (V := .slice (some ⟨w.heap.size, 0, none⟩) l c) ?_ ?_ hnew
  · unfold Instr.makeSlice
    have hcb : b * c ≤ 16777216 := by rw [Nat.mul_comm]; exact h2
    have hlb : b * l ≤ 16777216 := Nat.le_trans (Nat.mul_le_mul_left b h1) hcb
    simp only [Sem.run_bind, run_underlying hu, Result.andThen_ok, asInt, asIntOf, Sem.run_pure, run_info hi, hib, wrap_nat (Nat.le_trans h1 h4), wrap_nat h4]
    have t1 : (decide ((c : Int) < 0) || decide ((b : Int) * (c : Int) > 2 ^ 48)) = false := by
      rw [Bool.or_eq_false_iff, decide_eq_false_iff_not, decide_eq_false_iff_not]
      refine ⟨by omega, ?_⟩
      have : (b : Int) * (c : Int) = ((b * c : Nat) : Int) := by simp
      rw [this]; omega
    rw [if_neg (by rw [t1]; simp; omega)]
    simp only [Sem.run_bind, run_askRoom, Result.andThen_ok, run_sizeOf hs, Int.toNat_natCast]
    by_cases hcs : c * s = 0
    · rw [if_pos hcs]
      rw [hcs]
      simp only [show ∀ f : Nat → Value, (Array.range 0).map f = #[] from fun f => by simp]
      rfl
    · rw [if_neg hcs]
      simp only [Sem.run_bind, hZ, Result.andThen_ok, Sem.run_pure]
      rfl
  · exact newSlice _ _ _

theorem buildSlice_ok (r : HRel C ρ W σ h w) {ty e : TypeId} {n s : Nat} {z : SV} {ps : List (Nat × SV)} {PS : Array (Nat × Value)} {cs : List SV} (he : elemP C.P ty = some e)
    (hs : sizeP C.P e = some s) (hz : zeroP C.P e = some z) (hcond : (Nat.ble (n * s) 16777216 && Nat.beq (lenL z.cells) s) = true)
    (ef : fillS (fun i => some (i * s, s)) (rep z.cells n) ps = some cs) (hp : PRel σ ρ ps PS.toList) :
    OpOk C ρ W σ w (do pure (.value (← Instr.buildSlice ty n PS))) (.val (.slice h.next 0 n (.known n)) (newCells h h.next e cs).bump) := by
  simp only [Bool.and_eq_true, ble_true, beq_true, lenL_eq] at hcond
  obtain ⟨h1, h2⟩ := hcond
  obtain ⟨Z, hZ, hr⟩ := run_zero hz
  have hu := elemP_ok he
  have hcz := cells_any (hr σ ρ)
  have hsz : Z.cells.size = s := by rw [← Array.length_toList, ← hcz.length, h2]
  by_cases hns : n * s = 0
  · have hrep : VRels σ ρ (rep z.cells n) (#[] : Array Value).toList := by
      have := rep_ok hcz n
      have hl : ((List.replicate n Z.cells.toList).flatten).length = 0 := by
        simp [hsz]; exact hns
      rw [List.length_eq_zero_iff.1 hl] at this
      exact this
    obtain ⟨c', hf, hv⟩ := fill_ok _ ef hp hrep
    have hnew := newCells_ok r (e := e) hv
    rw [Array.toArray_toList] at hnew
    refine OpOk.val (r.le_put _) (V := .slice (some ⟨w.heap.size, 0, none⟩) n n) ?_ ?_ hnew
    · unfold Instr.buildSlice
      simp only [Sem.run_bind, run_underlying hu, Result.andThen_ok, run_sizeOf hs]
      rw [if_neg (by omega), if_pos hns]
      simp only [Sem.run_bind, Sem.run_pure, Result.andThen_ok, hns]
      simp only [show ∀ f : Nat → Value, (Array.range 0).map f = #[] from fun f => by simp]
      rw [hf]
      rfl
    · exact newSlice _ _ _
  · have hpos : 0 < s := Nat.pos_of_ne_zero fun e => hns (by rw [e]; simp)
    have hcells : VRels σ ρ (rep z.cells n) ((Array.range (n * s)).map (fun i => Z.cells[i % Z.cells.size]!)).toList := by
      rw [← hsz, rep_range _ (by omega)]
      exact rep_ok hcz n
    obtain ⟨c', hf, hv⟩ := fill_ok _ ef hp hcells
    have hnew := newCells_ok r (e := e) hv
    rw [Array.toArray_toList] at hnew
    refine OpOk.val (r.le_put _) (V := .slice (some ⟨w.heap.size, 0, none⟩) n n) ?_ ?_ hnew
    · unfold Instr.buildSlice
      simp only [Sem.run_bind, run_underlying hu, Result.andThen_ok, run_sizeOf hs]
      rw [if_neg (by omega), if_neg hns]
      simp only [Sem.run_bind, hZ, Sem.run_pure, Result.andThen_ok]
      rw [hf]
      rfl
    · exact newSlice _ _ _
end
end Go.Sx
