/- One operation, whatever it is. -/
import Derived.Test.YtacbfdokeiechaaGreatDoorSxOpK
namespace Go.Sx
open Go

section
variable {C : Cx} {ρ : Env} {W : Base} {w : World} {σ : Sg} {h : SH} {tm : Tr SV} {a : Act}

theorem allSized_ok {P : Program} : ∀ {l : List Field}, allSized P l = true → ∀ f ∈ l, (sizeP P f.type).isSome = true
  | [], _, f, hf => by simp at hf
  | g :: l, e, f, hf => by
    simp only [allSized, Bool.and_eq_true] at e
    rcases List.mem_cons.1 hf with rfl | hf
    · have := e.1
      split at this
      · rename_i n hn; rw [hn]; rfl
      · cases this
    · exact allSized_ok e.2 f hf

theorem op_ok (K : CxOk C) (hh : Hints C ρ) (r : HRel C ρ W σ h w) (t : TRel σ ρ tm a.tmps) {o : Oper} {R : Res} (e : op C tm h o.op = some R) : OpOk C ρ W σ w (execOp a.eval o) R := by
  have ev : ∀ {x : Operand} {v : SV}, evS C.ng tm x = some v → VRel σ ρ v (a.eval x) := fun e => ev_ok r t e
  unfold execOp
  cases ho : o.op <;> rw [ho] at e <;> simp only [op] at e <;> simp only
  case move x =>
    cases hx : evS C.ng tm x with
    | none => rw [hx] at e; cases e
    | some v => rw [hx] at e; simp only [Option.map_some, Option.some.injEq] at e; subst e; exact OpOk.pure (ev hx) r
  case assign x =>
    cases hx : evS C.ng tm x with
    | none => rw [hx] at e; cases e
    | some v => rw [hx] at e; simp only [Option.map_some, Option.some.injEq] at e; subst e; exact OpOk.pure (ev hx) r
  case pick c x y =>
    split at e
    · rename_i hc
      have hc' := ev hc
      simp only [VRel, BE.ev, Option.some.injEq] at hc'; obtain ⟨_, rfl, hc'⟩ := hc'
      cases hx : evS C.ng tm x with
      | none => rw [hx] at e; cases e
      | some v =>
        rw [hx] at e; simp only [Option.map_some, Option.some.injEq] at e; subst e
        rw [hc']
        exact ⟨σ, .value (a.eval x), w, Sg.le_refl _, by simp [asBool], ⟨_, rfl, ev hx⟩, r⟩
    · rename_i hc
      have hc' := ev hc
      simp only [VRel, BE.ev, Option.some.injEq] at hc'; obtain ⟨_, rfl, hc'⟩ := hc'
      cases hx : evS C.ng tm y with
      | none => rw [hx] at e; cases e
      | some v =>
        rw [hx] at e; simp only [Option.map_some, Option.some.injEq] at e; subst e
        rw [hc']
        exact ⟨σ, .value (a.eval y), w, Sg.le_refl _, by simp [asBool], ⟨_, rfl, ev hx⟩, r⟩
    · cases e
  case alloc el =>
    split at e
    · rename_i z hz; obtain rfl := Option.some.inj e; exact alloc_ok r hz
    · cases e
  case box el x =>
    split at e
    · rename_i v hx; obtain rfl := Option.some.inj e; exact box_ok r (cells_any (ev hx))
    · cases e
  case build ty parts =>
    split at e
    case h_2 => cases e
    rename_i z ps hz hps
    have hp := evParts_ok r t hps
    split at e
    · rename_i fs hu
      cases hall : allSized C.P fs.toList with
      | false => rw [hall] at e; cases e
      | true =>
        rw [hall] at e; simp only [Bool.not_true, cond_false] at e
        cases hf : fillS (fun i => (fs[i]?).bind fun f => (sizeP C.P f.type).map fun s => (f.offset, s)) z.cells ps with
        | none => rw [hf] at e; cases e
        | some cs =>
          rw [hf] at e; simp only [Option.map_some, Option.some.injEq] at e; subst e
          exact build_struct_ok r hz hu hf (fun f hf => allSized_ok hall f (by simpa using hf)) (by rw [Array.toList_map]; exact hp)
    · rename_i n el hu
      split at e
      · rename_i s hs
        cases hf : fillS (fun i => some (i * s, s)) z.cells ps with
        | none => rw [hf] at e; cases e
        | some cs =>
          rw [hf] at e; simp only [Option.map_some, Option.some.injEq] at e; subst e
          exact build_array_ok r hz hu hs hf (by rw [Array.toList_map]; exact hp)
      · cases e
    · cases e
  case buildSlice ty n parts =>
    split at e
    case h_2 => cases e
    rename_i el ps he hps
    have hp := evParts_ok r t hps
    split at e
    case h_2 => cases e
    rename_i s z hs hz
    cases hc : (Nat.ble (n * s) 16777216 && Nat.beq (lenL z.cells) s) with
    | false => rw [hc] at e; cases e
    | true =>
      rw [hc] at e; simp only [cond_true] at e
      cases hf : fillS (fun i => some (i * s, s)) (rep z.cells n) ps with
      | none => rw [hf] at e; cases e
      | some cs =>
        rw [hf] at e; simp only [Option.map_some, Option.some.injEq] at e; subst e
        exact buildSlice_ok r he hs hz hc hf (by rw [Array.toList_map]; exact hp)
  case load ty x =>
    split at e
    · rename_i id off hx
      cases hl : loadS C.P h ty id off with
      | none => rw [hl] at e; cases e
      | some v => rw [hl] at e; simp only [Option.map_some, Option.some.injEq] at e; subst e; exact load_ok r (ev hx) hl
    · cases e
  case store ty x y =>
    split at e
    · rename_i id off v hx hy
      cases hs : storeS C h ty id off v with
      | none => rw [hs] at e; cases e
      | some h' => rw [hs] at e; simp only [Option.map_some, Option.some.injEq] at e; subst e; exact store_ok r (ev hx) (ev hy) hs
    · cases e
  case nilCheck x =>
    split at e
    · rename_i i off hx
      have hx' := ev hx
      have hx2 := hx'
      simp only [VRel] at hx2; obtain ⟨p, hp, hX⟩ := hx2
      obtain rfl := Option.some.inj e
      rw [hX]
      exact OpOk.pure (by rw [← hX]; exact hx') r
    · rename_i f x1 x2 hx
      have hx' := ev hx
      have hx2 := hx'
      simp only [VRel] at hx2; obtain ⟨X, Y, hX, _⟩ := hx2
      obtain rfl := Option.some.inj e
      rw [hX]
      exact OpOk.pure (by rw [← hX]; exact hx') r
    · rename_i ty i off hx
      have hx' := ev hx
      have hx2 := hx'
      simp only [VRel] at hx2; obtain ⟨X, hX, _⟩ := hx2
      obtain rfl := Option.some.inj e
      rw [hX]
      exact OpOk.pure (by rw [← hX]; exact hx') r
    · cases e
  case binOp b ty x y _ =>
    split at e
    · rename_i v v' hx hy
      cases hb : binS C h b ty v v' with
      | none => rw [hb] at e; cases e
      | some z => rw [hb] at e; simp only [Option.map_some, Option.some.injEq] at e; subst e; exact binS_ok hh r hb (ev hx) (ev hy)
    · cases e
  case unOp u _ x =>
    split at e
    · rename_i v hx
      cases hb : unS C u v with
      | none => rw [hb] at e; cases e
      | some z =>
        rw [hb] at e; simp only [Option.map_some, Option.some.injEq] at e; subst e
        obtain ⟨V, hV, hr⟩ := unS_ok hh hb (ev hx)
        exact OpOk.val (Sg.le_refl _) (hV w) hr r
    · cases e
  case convert s d x =>
    split at e
    · rename_i v hx
      cases hb : convS C h h.next s d v with
      | none => rw [hb] at e; cases e
      | some q =>
        obtain ⟨z, h'⟩ := q
        rw [hb] at e; simp only [Option.map_some, Option.some.injEq] at e; subst e
        exact convS_ok hh r hb (ev hx)
    · cases e
  case makeInterface ty x =>
    split at e
    · cases e
    · rename_i d v hu hd hx
      obtain rfl := Option.some.inj e
      refine OpOk.val (Sg.le_refl _) (V := .iface ty (a.eval x)) ?_ (by simp only [VRel]; exact ⟨_, rfl, ev hx⟩) r
      simp only [Instr.makeInterface, Sem.run_bind, run_underlying hd, Result.andThen_ok]
      cases d <;> first | rfl | exact absurd rfl (hu _)
    · cases e
  case makeFunc fn first captured =>
    split at e
    · rename_i l1 l2 h1 h2
      obtain rfl := Option.some.inj e
      refine OpOk.val (Sg.le_refl _) rfl ?_ r
      simp only [VRel]
      exact ⟨_, _, rfl, by rw [Array.toList_map]; exact evAll_ok r t h1, by rw [Array.toList_map]; exact evAll_ok r t h2⟩
    · cases e
  case makeMap ty rs =>
    cases rs with
    | some _ => cases e
    | none =>
      simp only at e
      split at e
      · obtain rfl := Option.some.inj e
        have hp := r.push (sb := .map []) (o := .map #[] 0) 0 ⟨#[], 0, rfl, by simp [VRels], by simp [VRels], by simp, by simp⟩
        refine OpOk.val (r.le_put _) (V := .map (some w.heap.size)) rfl ?_ hp
        simp only [VRel]; exact ⟨⟨w.heap.size, 0, 0⟩, by simp [Sg.put], rfl⟩
      · cases e
  case makeSlice ty l c =>
    split at e
    case h_2 => cases e
    rename_i el lv cv he hl hc
    split at e
    case h_2 => cases e
    rename_i ln cn s z b el' ec hs hz hb
    cases hcond : (Nat.ble ln cn && Nat.ble (cn * b) 16777216 && Nat.ble (cn * s) 16777216 && Nat.ble cn 16777216 && Nat.beq (lenL z.cells) s && Nat.blt 0 s) with
    | false => rw [hcond] at e; cases e
    | true =>
      rw [hcond] at e; simp only [cond_true, Option.some.injEq] at e; subst e
      exact makeSlice_ok r he (ev hl) (ev hc) el' ec hs hz hb hcond
  case slice ty x lo hi mx =>
    cases mx with
    | some _ => cases e
    | none =>
      simp only at e
      split at e
      case h_2 => cases e
      rename_i v lo' hi' hx hlo hhi
      cases hs : sliceS C ty v lo' hi' with
      | none => rw [hs] at e; cases e
      | some z =>
        rw [hs] at e; simp only [Option.map_some, Option.some.injEq] at e; subst e
        obtain ⟨V, hV, hr⟩ := sliceS_ok hh hs (ev hx) (evOpt_ok r t hlo) (evOpt_ok r t hhi)
        exact OpOk.val (Sg.le_refl _) (hV w) hr r
  case fieldAddr ty x f =>
    split at e
    case h_2 => cases e
    rename_i id off fd hx hf
    split at e
    · rename_i k hs; obtain rfl := Option.some.inj e; exact fieldAddr_ok r (ev hx) hf hs
    · cases e
  case field ty x f =>
    split at e
    case h_2 => cases e
    rename_i cs fd hx hf
    cases hp : partS C.P fd.type cs fd.offset with
    | none => rw [hp] at e; cases e
    | some v => rw [hp] at e; simp only [Option.map_some, Option.some.injEq] at e; subst e; exact field_ok r (ev hx) hf hp
  case indexAddr ty x i =>
    split at e
    case h_2 => cases e
    rename_i v iv hx hi
    cases hp : indexAddrS C.P ty v iv with
    | none => rw [hp] at e; cases e
    | some z =>
      rw [hp] at e; simp only [Option.map_some, Option.some.injEq] at e; subst e
      obtain ⟨V, hV, hr⟩ := indexAddrS_ok hp (ev hx) (ev hi)
      exact OpOk.val (Sg.le_refl _) (hV w) hr r
  case index ty x i =>
    split at e
    case h_2 => cases e
    rename_i v iv hx hi
    cases hp : indexS C ty v iv with
    | none => rw [hp] at e; cases e
    | some z =>
      rw [hp] at e; simp only [Option.map_some, Option.some.injEq] at e; subst e
      obtain ⟨V, hV, hr⟩ := indexS_ok hh hp (ev hx) (ev hi)
      exact OpOk.val (Sg.le_refl _) (hV w) hr r
  case lookup ty m k ok =>
    split at e
    case h_2 => cases e
    rename_i mv kv hm hk
    cases hp : lookupS C h ty mv kv ok with
    | none => rw [hp] at e; cases e
    | some z =>
      rw [hp] at e; simp only [Option.map_some, Option.some.injEq] at e; subst e
      exact lookupS_ok hh r hp (ev hm) (ev hk)
  case mapUpdate ty m k v =>
    split at e
    case h_2 => cases e
    rename_i mv kv vv hm hk hv
    cases hp : updateS C h ty mv kv vv with
    | none => rw [hp] at e; cases e
    | some z =>
      rw [hp] at e; simp only [Option.map_some, Option.some.injEq] at e; subst e
      exact updateS_ok hh r hp (ev hm) (ev hk) (ev hv)
  case insert ty m k v =>
    split at e
    case h_2 => cases e
    rename_i mv kv vv hm hk hv
    cases hp : updateS C h ty mv kv vv with
    | none => rw [hp] at e; cases e
    | some z =>
      rw [hp] at e; simp only [Option.map_some, Option.some.injEq] at e; subst e
      exact updateS_ok hh r hp (ev hm) (ev hk) (ev hv)
  case range ty x =>
    split at e
    case h_2 => cases e
    rename_i l hu hx
    obtain rfl := Option.some.inj e
    have hX := ev hx
    simp only [VRel] at hX; obtain ⟨hs, hX⟩ := hX
    have hp := r.push (sb := .siter l 0) (o := .stringIter (bytes l) 0) 0 ⟨rfl, rfl⟩
    refine OpOk.val (r.le_put _) (V := .pointer (some ⟨w.heap.size, 0, none⟩)) ?_ (newPtr _) hp
    rw [hX]
    simp only [Instr.range, Sem.run_bind, run_underlying hu, Result.andThen_ok, Sem.run_pure]
    rfl
  case next x s =>
    cases s with
    | false => cases e
    | true =>
      simp only at e
      split at e
      · rename_i id hx
        cases hn : nextS C.ro h id with
        | none => rw [hn] at e; cases e
        | some q =>
          obtain ⟨v, h'⟩ := q
          rw [hn] at e; simp only [Option.map_some, Option.some.injEq] at e; subst e
          exact nextS_ok r hn (ev hx)
      · cases e
  case extract x i =>
    split at e
    · rename_i vs hx
      cases hg : getL vs i with
      | none => rw [hg] at e; cases e
      | some v =>
        rw [hg] at e; simp only [Option.map_some, Option.some.injEq] at e; subst e
        obtain ⟨V, hV, hr⟩ := extract_ok (C := C) (ev hx) hg
        exact OpOk.val (Sg.le_refl _) (hV w) hr r
    · cases e
  case call c => exact callArgs_ok K hh r t e
  case defer c => exact deferS_ok K r t e
  all_goals cases e
end
end Go.Sx
