/- Calls and built-ins; one operation. -/
import Derived.Test.YtacbfdokeiechaaGreatDoorSxOpI
namespace Go.Sx
open Go

section
variable {C : Cx} {ρ : Env} {W : Base} {w : World} {σ : Sg} {h : SH} {tm : Tr SV} {a : Act}

theorem minS_ok (hh : Hints C ρ) {x y z : SV} {X Y : Value} (e : minS C x y = some z) (hx : VRel σ ρ x X) (hy : VRel σ ρ y Y) : ∃ Z, Gives C.P (Builtin.min2 X Y) Z ∧ VRel σ ρ z Z := by
  unfold minS at e
  split at e
  · obtain rfl := Option.some.inj e
    simp only [VRel, IE.ev, Option.some.injEq] at hx hy
    obtain ⟨_, rfl, rfl⟩ := hx; obtain ⟨_, rfl, rfl⟩ := hy
    exact ⟨_, fun w => rfl, by simp [VRel, IE.ev]⟩
  · obtain rfl := Option.some.inj e
    simp only [VRel] at hx hy
    obtain ⟨m, hm, rfl⟩ := hx; obtain ⟨n, hn, rfl⟩ := hy
    refine ⟨_, fun w => rfl, ?_⟩
    simp only [VRel]
    exact ⟨_, by rw [hint_i hh]; simp [IE.ev, hm, hn, op2], rfl⟩
  · cases e
theorem maxS_ok (hh : Hints C ρ) {x y z : SV} {X Y : Value} (e : maxS C x y = some z) (hx : VRel σ ρ x X) (hy : VRel σ ρ y Y) : ∃ Z, Gives C.P (Builtin.max2 X Y) Z ∧ VRel σ ρ z Z := by
  unfold maxS at e
  split at e
  · obtain rfl := Option.some.inj e
    simp only [VRel, IE.ev, Option.some.injEq] at hx hy
    obtain ⟨_, rfl, rfl⟩ := hx; obtain ⟨_, rfl, rfl⟩ := hy
    exact ⟨_, fun w => rfl, by simp [VRel, IE.ev]⟩
  · obtain rfl := Option.some.inj e
    simp only [VRel] at hx hy
    obtain ⟨m, hm, rfl⟩ := hx; obtain ⟨n, hn, rfl⟩ := hy
    refine ⟨_, fun w => rfl, ?_⟩
    simp only [VRel]
    exact ⟨_, by rw [hint_i hh]; simp [IE.ev, hm, hn, op2], rfl⟩
  · cases e
theorem foldS_ok {f : SV → SV → Option SV} {g : Value → Value → Sem Value} (hf : ∀ {x y z : SV} {X Y : Value}, f x y = some z → VRel σ ρ x X → VRel σ ρ y Y → ∃ Z, Gives C.P (g X Y) Z ∧ VRel σ ρ z Z) :
    ∀ {l : List SV} {L : List Value} {x z : SV} {X : Value}, foldS f x l = some z → VRel σ ρ x X → VRels σ ρ l L → ∃ Z, Gives C.P (L.foldlM g X) Z ∧ VRel σ ρ z Z
  | [], L, x, z, X, e, hx, hl => by
    simp only [VRels] at hl; subst hl
    simp only [foldS, Option.some.injEq] at e; subst e
    exact ⟨X, fun w => rfl, hx⟩
  | y :: l, L, x, z, X, e, hx, hl => by
    simp only [VRels] at hl
    obtain ⟨Y, L', rfl, hy, hl'⟩ := hl
    simp only [foldS] at e
    cases hz : f x y with
    | none => rw [hz] at e; cases e
    | some z' =>
      rw [hz] at e; simp only [Option.bind_some] at e
      obtain ⟨Z', hZ', hr⟩ := hf hz hx hy
      obtain ⟨Z, hZ, hr2⟩ := foldS_ok hf e hr hl'
      exact ⟨Z, fun w => by simp only [List.foldlM_cons, Sem.run_bind, hZ' w, Result.andThen_ok, hZ w], hr2⟩

theorem toArr {l : List TypeId} {A : Array TypeId} (h : A.toList = l) : A = l.toArray := by rw [← h]

theorem stringS_ok (r : HRel C ρ W σ h w) {t u ty : TypeId} {i o : Nat} {n : Int} {X : Value} {R : Res} (e : stringS C h t i o n = some R) (hx : VRel σ ρ (.ptr i o) X) :
    OpOk C ρ W σ w (do pure (.value (← Builtin.unsafeString_ #[t, u] ty #[X, .int .i64 n]))) R := by
  unfold stringS at e
  simp only [VRel] at hx; obtain ⟨p, hp, rfl⟩ := hx
  by_cases hn0 : n = 0
  · subst hn0
    simp only [beq_self_eq_true, cond_true, Option.some.injEq] at e; subst e
    exact OpOk.val (Sg.le_refl _) (Lib.run_unsafeString_none (P := C.P) w t u ty _) (by simp only [VRel]; exact ⟨by simp [small], rfl⟩) r
  · rw [show (n == 0) = false from by simpa using hn0] at e
    simp only [cond_false] at e
    by_cases hneg : n < 0
    · rw [decide_eq_true hneg] at e; cases e
    · rw [decide_eq_false hneg] at e; simp only [cond_false] at e
      split at e
      case h_2 => cases e
      rename_i cs m el more f hg
      split at e
      case h_2 => cases e
      rename_i l el2 f' hb hu hf
      cases hc : (Nat.beq o 0 && Nat.beq el el2 && Nat.beq (C.P.cellsOf el2) 1 && Nat.ble n.toNat 16777216) with
      | false => rw [hc] at e; cases e
      | true =>
        rw [hc] at e; simp only [cond_true] at e
        simp only [Bool.and_eq_true, beq_true, ble_true] at hc
        obtain ⟨⟨⟨c1, c2⟩, c3⟩, c4⟩ := hc
        subst c1; subst c2
        cases hupd : h.upd C.ro i (.cells cs m el more f') with
        | none => rw [hupd] at e; cases e
        | some h2 =>
          rw [hupd] at e; simp only [Option.map_some, Option.some.injEq] at e; subst e
          obtain ⟨p', c, fz, hp', hw, hsz, hmn, hmore, hcc, hf1, hoff⟩ := r.cells hg
          rw [hp] at hp'; obtain rfl := Option.some.inj hp'
          obtain ⟨hl, hs, hsp⟩ := bytesAt_spec hb
          have hcell := bytesAt_cell hcc hb
          have hle : l.length ≤ m := by
            rw [hl]
            have h0 : n.toNat - 1 < n.toNat := by omega
            obtain ⟨_, _, _, h1, _⟩ := hcell _ h0
            omega
          have hlen : ((l.map UInt8.ofNat).length : Int) = n := by simp [hl]; omega
          have hrow := Lib.run_unsafeString_row (P := C.P) w t u ty el hu c3 p.block c.size (shape_of hw) (l.map UInt8.ofNat) (by
              intro hnil
              have : l.length = 0 := by simpa using congrArg List.length hnil
              omega) (by simp; omega) (by simp; omega) (by
              intro j x hj
              rw [List.getElem?_map] at hj
              cases hlj : l[j]? with
              | none => rw [hlj] at hj; cases hj
              | some b =>
                rw [hlj] at hj; simp only [Option.map_some, Option.some.injEq] at hj; subst hj
                have hjl : j < n.toNat := by rw [← hl]; exact (List.getElem?_eq_some_iff.1 hlj).1
                obtain ⟨b', hb', hb256, _, hcj⟩ := hcell j hjl
                rw [hlj] at hb'; obtain rfl := Option.some.inj hb'
                rw [addr_add, cell_of hw, toNat_of hb256]
                have : p.off + 0 + j = 0 + j := by omega
                rw [this] at hcj; exact hcj)
          rw [hlen] at hrow
          have haddr : (⟨p.block, p.off + 0, none⟩ : Addr) = ⟨p.block, 0, none⟩ := by rw [hoff]
          have hml : (l.map UInt8.ofNat).length = n.toNat := by simp [hl]
          -- the world behind
          have hb : p.block < w.heap.size := (Array.getElem?_eq_some_iff.1 hw).1
          obtain ⟨fz', hfr, hfz⟩ : ∃ fz', w.freeze ⟨p.block, 0, none⟩ (l.map UInt8.ofNat).length = { w with heap := w.heap.setIfInBounds p.block (.cells c el fz') } ∧ FzOk p fz' f' := by
            obtain ⟨lo, hi⟩ := fz
            refine ⟨if lo == hi then (0, 0 + n.toNat) else (min lo 0, max hi (0 + n.toNat)), ?_, ?_⟩
            · unfold World.freeze
              rw [hml, if_neg (by omega)]
              congr 1
              apply Array.ext_getElem?
              intro k
              rw [Array.getElem?_modify, Array.getElem?_setIfInBounds]
              by_cases hk : p.block = k
              · subst hk; rw [if_pos rfl, if_pos rfl, if_pos hb, hw]; rfl
              · rw [if_neg hk, if_neg hk]
            · cases f with
              | clean =>
                have h1 : lo = hi := hf1
                simp only [headFz, Option.some.injEq] at hf; subst hf
                rw [if_pos (by simp [h1])]
                exact .inr ⟨rfl, by simp [hoff]⟩
              | head k =>
                have h1 : lo = hi ∨ (lo = 0 ∧ hi ≤ p.off + k) := hf1
                simp only [headFz, Option.some.injEq] at hf; subst hf
                have hmx : n.toNat ≤ Nat.max k n.toNat := Nat.le_max_right _ _
                have hmk : k ≤ Nat.max k n.toNat := Nat.le_max_left _ _
                by_cases hlh : lo = hi
                · rw [if_pos (by simp [hlh])]; exact .inr ⟨rfl, by simp [hoff]; omega⟩
                · rw [if_neg (by simpa using hlh)]
                  refine .inr ⟨by simp, ?_⟩
                  simp only [hoff, Nat.zero_add] at h1 ⊢
                  have : max hi n.toNat ≤ Nat.max k n.toNat := by
                    apply Nat.max_le.2; omega
                  exact this
              | tail => cases hf
          rw [hfr] at hrow
          refine OpOk.val (Sg.le_refl _) (w' := { w with heap := w.heap.setIfInBounds p.block (.cells c el fz') }) (V := .string (bytes l)) ?_ (by simp only [VRel]; exact ⟨hs, trivial⟩) (r.turn hg hp (Upd.set hw) ?_ hupd)
          · rw [haddr]; exact hrow
          · exact ⟨c, fz', rfl, hsz, hmn, hmore, hcc, hfz, hoff⟩

theorem VRels.two {x y : SV} {A : Array Value} (h : VRels σ ρ [x, y] A.toList) : ∃ X Y, A = #[X, Y] ∧ VRel σ ρ x X ∧ VRel σ ρ y Y := by
  simp only [VRels] at h
  obtain ⟨X, _, hA, hx, Y, _, rfl, hy, rfl⟩ := h
  exact ⟨X, Y, Array.ext' hA, hx, hy⟩
theorem VRels.single {x : SV} {A : Array Value} (h : VRels σ ρ [x] A.toList) : ∃ X, A = #[X] ∧ VRel σ ρ x X := by
  simp only [VRels] at h
  obtain ⟨X, _, hA, hx, rfl⟩ := h
  exact ⟨X, Array.ext' hA, hx⟩

theorem builtinS_ok (hh : Hints C ρ) (r : HRel C ρ W σ h w) {b : Builtin} {ts : Array TypeId} {ty : TypeId} {cs : Array Bool} {args : List SV} {A : Array Value} {R : Res} (e : builtinS C h b ts.toList args = some R) (hA : VRels σ ρ args A.toList) :
    OpOk C ρ W σ w (builtin b ts ty cs A) R := by
  unfold builtinS at e
  split at e
  case h_1 t u us s x ht =>
    obtain ⟨S, X, rfl, hs, hx⟩ := hA.two
    have hts := toArr ht; subst hts
    split at e
    · rename_i k hd
      cases hap : appendS C h h.next t true s x with
      | none => rw [hap] at e; cases e
      | some q =>
        obtain ⟨v, h'⟩ := q
        rw [hap] at e; simp only [Option.map_some, Option.some.injEq] at e; subst e
        exact appendS_ok r hap ⟨.int k, hd, by simp⟩ hs hx
    · rename_i d hdi hd
      cases hap : appendS C h h.next t false s x with
      | none => rw [hap] at e; cases e
      | some q =>
        obtain ⟨v, h'⟩ := q
        rw [hap] at e; simp only [Option.map_some, Option.some.injEq] at e; subst e
        exact appendS_ok r hap ⟨d, hd, by simpa using fun k hk => hdi k hk⟩ hs hx
    · cases e
  case h_2 t us x ht =>
    obtain ⟨X, rfl, hx⟩ := hA.single
    have hts := toArr ht; subst hts
    split at e
    · rename_i n hl
      obtain rfl := Option.some.inj e
      exact OpOk.val (Sg.le_refl _) (lenS_ok r hl hx) (by simp [VRel, IE.ev]) r
    · rename_i y hu hl
      obtain rfl := Option.some.inj e
      obtain ⟨S, hS, rfl⟩ := str_rel.1 hx
      refine OpOk.val (Sg.le_refl _) (V := .int .i64 (S.size : Int)) (by unfold Builtin.len_; simp [run_underlying hu, goInt]) ?_ r
      simp only [VRel]; exact ⟨_, by rw [hint_i hh]; exact lenE_ok hS, rfl⟩
    · cases e
  case h_3 t us i o n c ht =>
    obtain ⟨X, rfl, hx⟩ := hA.single
    have hts := toArr ht; subst hts
    split at e
    · rename_i el hu
      obtain rfl := Option.some.inj e
      simp only [VRel] at hx; obtain ⟨p, hp, rfl⟩ := hx
      exact OpOk.val (Sg.le_refl _) (V := .int .i64 c) (by unfold Builtin.cap_; simp [run_underlying hu, goInt]) (by simp [VRel, IE.ev]) r
    · cases e
  case h_4 t us ht =>
    obtain ⟨X, rfl, hx⟩ := hA.single
    have hts := toArr ht; subst hts
    split at e
    · rename_i el hu
      obtain rfl := Option.some.inj e
      simp only [VRel] at hx; subst hx
      exact OpOk.val (Sg.le_refl _) (V := .int .i64 0) (by unfold Builtin.cap_; simp [run_underlying hu, goInt]) (by simp [VRel, IE.ev]) r
    · cases e
  case h_5 t us d s ht =>
    obtain ⟨D, S, rfl, hd, hs⟩ := hA.two
    have hts := toArr ht; subst hts
    cases hc : copyS C h t d s with
    | none => rw [hc] at e; cases e
    | some q =>
      obtain ⟨n, h'⟩ := q
      rw [hc] at e; simp only [Option.map_some, Option.some.injEq] at e; subst e
      exact copyS_ok r hc hd hs
  case h_6 t us m k ht =>
    obtain ⟨M, K, rfl, hm, hk⟩ := hA.two
    have hts := toArr ht; subst hts
    cases hc : deleteS C h t m k with
    | none => rw [hc] at e; cases e
    | some h' =>
      rw [hc] at e; simp only [Option.map_some, Option.some.injEq] at e; subst e
      exact deleteS_ok hh r hc hm hk
  case h_7 x l =>
    simp only [VRels] at hA
    obtain ⟨X, L, hA, hx, hl⟩ := hA
    cases hc : foldS (minS C) x l with
    | none => rw [hc] at e; cases e
    | some v =>
      rw [hc] at e; simp only [Option.map_some, Option.some.injEq] at e; subst e
      obtain ⟨Z, hZ, hr⟩ := foldS_ok (C := C) (fun {_ _ _ _ _} => minS_ok hh) hc hx hl
      exact OpOk.val (Sg.le_refl _) (by unfold Builtin.min_; rw [hA]; exact hZ w) hr r
  case h_8 x l =>
    simp only [VRels] at hA
    obtain ⟨X, L, hA, hx, hl⟩ := hA
    cases hc : foldS (maxS C) x l with
    | none => rw [hc] at e; cases e
    | some v =>
      rw [hc] at e; simp only [Option.map_some, Option.some.injEq] at e; subst e
      obtain ⟨Z, hZ, hr⟩ := foldS_ok (C := C) (fun {_ _ _ _ _} => maxS_ok hh) hc hx hl
      exact OpOk.val (Sg.le_refl _) (by unfold Builtin.max_; rw [hA]; exact hZ w) hr r
  case h_9 =>
    obtain ⟨X, rfl, hx⟩ := hA.single
    obtain rfl := Option.some.inj e
    simp only [VRel] at hx; subst hx
    exact OpOk.val (Sg.le_refl _) (Lib.run_unsafeSliceData_nil (P := C.P) w ts ty 0 0) (by simp [VRel]) r
  case h_10 i o n s =>
    obtain ⟨X, rfl, hx⟩ := hA.single
    obtain rfl := Option.some.inj e
    simp only [VRel] at hx; obtain ⟨p, c, hp, rfl, hlc, _⟩ := hx
    exact OpOk.val (Sg.le_refl _) (Lib.run_unsafeSliceData_row (P := C.P) w ts ty _ _ c (by omega)) (by simp only [VRel]; exact ⟨p, hp, rfl⟩) r
  case h_11 i o n c =>
    obtain ⟨X, rfl, hx⟩ := hA.single
    obtain rfl := Option.some.inj e
    simp only [VRel] at hx; obtain ⟨p, hp, rfl⟩ := hx
    exact OpOk.val (Sg.le_refl _) (Lib.run_unsafeSliceData_row (P := C.P) w ts ty _ _ (c + 1) (by omega)) (by simp only [VRel]; exact ⟨p, hp, rfl⟩) r
  case h_12 t u ht =>
    obtain ⟨X, Y, rfl, hx, hy⟩ := hA.two
    have hts := toArr ht; subst hts
    obtain rfl := Option.some.inj e
    simp only [VRel, IE.ev, Option.some.injEq] at hx hy; subst hx; obtain ⟨_, rfl, rfl⟩ := hy
    exact OpOk.val (Sg.le_refl _) (Lib.run_unsafeString_none (P := C.P) w t u ty none) (by simp only [VRel]; exact ⟨by simp [small], rfl⟩) r
  case h_13 t u i o n ht =>
    obtain ⟨X, Y, rfl, hx, hy⟩ := hA.two
    have hts := toArr ht; subst hts
    simp only [VRel, IE.ev, Option.some.injEq] at hy; obtain ⟨_, rfl, rfl⟩ := hy
    exact stringS_ok r e hx
  case h_14 t us m ht =>
    obtain ⟨X, rfl, hx⟩ := hA.single
    have hts := toArr ht; subst hts
    exact clearS_ok r e hx
  case h_15 => cases e
end
end Go.Sx
