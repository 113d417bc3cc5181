/- Building, numbers and texts, slices of slices, new slices. -/
import Derived.Test.YtacbfdokeiechaaGreatDoorSxOpA
namespace Go.Sx
open Go

theorem foldl_spl (off : Nat) : ∀ (L : List Value) (k : Nat) (A : Array Value),
    (L.zipIdx k).foldl (fun cs (x : Value × Nat) => cs.setIfInBounds (off + x.2) x.1) A = spl A (off + k) L
  | [], k, A => by simp [spl]
  | v :: L, k, A => by
    simp only [List.zipIdx_cons, List.foldl_cons, spl]
    rw [foldl_spl off L (k + 1)]
    rfl
theorem spl_list {c : Array Value} {k : Nat} {L : List Value} (h : k + L.length ≤ c.size) : (spl c k L).toList = c.toList.take k ++ L ++ c.toList.drop (k + L.length) := by
  apply List.ext_getElem?
  intro i
  rw [Array.getElem?_toList, spl_get _ _ _ _ h]
  by_cases h1 : i < k
  · rw [if_neg (by omega), List.append_assoc, List.getElem?_append_left (by simp; omega)]
    simp [h1]
  · by_cases h2 : i < k + L.length
    · rw [if_pos (by omega), List.append_assoc, List.getElem?_append_right (by simp; omega), List.getElem?_append_left (by simp; omega)]
      congr 1; simp; omega
    · rw [if_neg (by omega), List.getElem?_append_right (by simp; omega)]
      simp only [List.length_append, List.length_take, Array.length_toList, List.getElem?_drop]
      rw [← Array.getElem?_toList]
      congr 1; omega

section
variable {C : Cx} {ρ : Env} {W : Base} {w : World} {σ : Sg} {h : SH} {tm : Tr SV} {a : Act}

/-- Parts, told and real. -/
def PRel (σ : Sg) (ρ : Env) : List (Nat × SV) → List (Nat × Value) → Prop
  | [], l => l = []
  | (i, v) :: r, l => ∃ x xs, l = (i, x) :: xs ∧ VRel σ ρ v x ∧ PRel σ ρ r xs
theorem evParts_ok (r : HRel C ρ W σ h w) (t : TRel σ ρ tm a.tmps) : ∀ {xs : List (Nat × Operand)} {l : List (Nat × SV)}, evParts C.ng tm xs = some l → PRel σ ρ l (xs.map fun (i, x) => (i, a.eval x))
  | [], l, e => by simp only [evParts, Option.some.injEq] at e; subst e; simp [PRel]
  | (i, x) :: xs, l, e => by
    simp only [evParts] at e
    split at e
    · rename_i v l' h1 h2
      obtain rfl := Option.some.inj e
      simp only [List.map_cons, PRel]
      exact ⟨_, _, rfl, ev_ok r t h1, evParts_ok r t h2⟩
    · cases e

theorem fill_ok (place : Nat → Option (Nat × Nat)) : ∀ {ps : List (Nat × SV)} {PS : List (Nat × Value)} {cs out : List SV} {c : Array Value},
    fillS place cs ps = some out → PRel σ ρ ps PS → VRels σ ρ cs c.toList → ∃ c', Instr.fill place c PS = some c' ∧ VRels σ ρ out c'.toList
  | [], PS, cs, out, c, e, hp, hc => by
    simp only [fillS, Option.some.injEq] at e; subst e
    simp only [PRel] at hp; subst hp
    exact ⟨c, rfl, hc⟩
  | (i, v) :: ps, PS, cs, out, c, e, hp, hc => by
    simp only [PRel] at hp
    obtain ⟨x, xs, rfl, hv, hp'⟩ := hp
    simp only [fillS] at e
    split at e
    · cases e
    · rename_i off size hpl
      cases hb : (Nat.beq (lenL v.cells) size && Nat.ble (off + size) (lenL cs)) with
      | false => rw [hb] at e; cases e
      | true =>
        rw [hb] at e; simp only [cond_true] at e
        rw [Bool.and_eq_true, beq_true, ble_true, lenL_eq, lenL_eq] at hb
        obtain ⟨hb1, hb2⟩ := hb
        have hcv := cells_any hv
        have hl1 := hcv.length
        have hl2 := hc.length
        have hsz : x.cells.size = size := by rw [← hb1, hl1, Array.length_toList]
        have hcs : c.size = cs.length := by rw [hl2, Array.length_toList]
        have hsp := foldl_spl off x.cells.toList 0 c
        rw [Nat.add_zero] at hsp
        have hout : VRels σ ρ (takeL off cs ++ v.cells ++ dropL (off + size) cs) (spl c off x.cells.toList).toList := by
          rw [spl_list (by rw [Array.length_toList, hsz]; omega), takeL_eq, dropL_eq, Array.length_toList, hsz]
          exact ((hc.take off).append hcv).append (hc.drop (off + size))
        obtain ⟨c', h1, h2⟩ := fill_ok place e hp' hout
        refine ⟨c', ?_, h2⟩
        simp only [Instr.fill, hpl]
        rw [if_neg (by simp [hsz]; omega)]
        rw [← h1]
        congr 1
        rw [← hsp]
        show Array.foldl _ _ _ 0 x.cells.zipIdx.size = _
        rw [← Array.foldl_toList, Array.toList_zipIdx]

theorem build_struct_ok (r : HRel C ρ W σ h w) {ty : TypeId} {fs : Array Field} {z : SV} {ps : List (Nat × SV)} {PS : Array (Nat × Value)} {cs : List SV}
    (hz : zeroP C.P ty = some z) (hu : C.P.underlying ty = some (.struct fs))
    (e : fillS (fun i => (fs[i]?).bind fun f => (sizeP C.P f.type).map fun s => (f.offset, s)) z.cells ps = some cs) (hall : ∀ f ∈ fs, (sizeP C.P f.type).isSome) (hp : PRel σ ρ ps PS.toList) :
    OpOk C ρ W σ w (do pure (.value (← Instr.build ty PS))) (.val (.agg cs) h) := by
  obtain ⟨Z, hZ, hr⟩ := run_zero hz
  have hplaces : (fs.mapM fun f => (do pure (f.offset, ← sizeOf f.type) : Sem (Nat × Nat))).run C.P w = .ok (fs.map fun f => (f.offset, (sizeP C.P f.type).getD 0)) w := by
    have : ∀ (l : List Field), (∀ f ∈ l, (sizeP C.P f.type).isSome) →
        (l.mapM fun f => (do pure (f.offset, ← sizeOf f.type) : Sem (Nat × Nat))).run C.P w = .ok (l.map fun f => (f.offset, (sizeP C.P f.type).getD 0)) w := by
      intro l
      induction l with
      | nil => intro _; rfl
      | cons f l ih =>
        intro hl
        obtain ⟨n, hn⟩ := Option.isSome_iff_exists.1 (hl f (by simp))
        simp only [List.mapM_cons, Sem.run_bind, run_sizeOf hn, Result.andThen_ok, Sem.run_pure, ih (fun g hg => hl g (by simp [hg])), List.map_cons, hn, Option.getD_some]
    have h2 := this fs.toList (fun f hf => hall f (by simpa using hf))
    rw [Array.mapM_eq_mapM_toList]
    rw [Sem.run_map, h2]
    simp only [Result.andThen_ok]
    congr 1
    apply Array.ext'
    simp
  have hfun : (fun (i : Nat) => (fs[i]?).bind fun (f : Field) => (sizeP C.P f.type).map fun s => (f.offset, s)) = ((fs.map fun (f : Field) => (f.offset, (sizeP C.P f.type).getD 0))[·]?) := by
    funext i
    simp only [Array.getElem?_map]
    cases hf : fs[i]? with
    | none => rfl
    | some f =>
      obtain ⟨n, hn⟩ := Option.isSome_iff_exists.1 (hall f (by exact Array.mem_of_getElem? hf))
      simp [hn]
  rw [hfun] at e
  obtain ⟨c', h1, h2⟩ := fill_ok (σ := σ) (ρ := ρ) _ e hp (cells_any (hr σ ρ))
  refine OpOk.val (Sg.le_refl _) (V := .agg c') ?_ ?_ r
  · simp only [Instr.build, Sem.run_bind, hZ, Result.andThen_ok, run_underlying hu, hplaces, h1, Sem.run_pure]
  · simp only [VRel]; exact ⟨c', rfl, h2⟩

theorem build_array_ok (r : HRel C ρ W σ h w) {ty el : TypeId} {n s : Nat} {z : SV} {ps : List (Nat × SV)} {PS : Array (Nat × Value)} {cs : List SV}
    (hz : zeroP C.P ty = some z) (hu : C.P.underlying ty = some (.array n el)) (hs : sizeP C.P el = some s)
    (e : fillS (fun i => some (i * s, s)) z.cells ps = some cs) (hp : PRel σ ρ ps PS.toList) :
    OpOk C ρ W σ w (do pure (.value (← Instr.build ty PS))) (.val (.agg cs) h) := by
  obtain ⟨Z, hZ, hr⟩ := run_zero hz
  obtain ⟨c', h1, h2⟩ := fill_ok (σ := σ) (ρ := ρ) _ e hp (cells_any (hr σ ρ))
  refine OpOk.val (Sg.le_refl _) (V := .agg c') ?_ ?_ r
  · simp only [Instr.build, Sem.run_bind, hZ, Result.andThen_ok, run_underlying hu, run_sizeOf hs, h1, Sem.run_pure]
  · simp only [VRel]; exact ⟨c', rfl, h2⟩

theorem rep_range (z : Array Value) (hz : 0 < z.size) : ∀ n, ((Array.range (n * z.size)).map fun i => z[i % z.size]!).toList = (List.replicate n z.toList).flatten
  | 0 => by simp
  | n + 1 => by
    have ih := rep_range z hz n
    rw [List.replicate_succ', List.flatten_append]
    simp only [List.flatten_cons, List.flatten_nil, List.append_nil]
    rw [← ih]
    apply List.ext_getElem?
    intro i
    simp only [Array.toList_map, Array.toList_range, List.getElem?_map]
    by_cases h1 : i < n * z.size
    · rw [List.getElem?_append_left (by simpa using h1)]
      simp [List.getElem?_map, List.getElem?_range h1, List.getElem?_range (show i < (n + 1) * z.size by rw [Nat.succ_mul]; omega)]
    · by_cases h2 : i < (n + 1) * z.size
      · rw [List.getElem?_append_right (by simp; omega), List.getElem?_range h2]
        have h3 : i - n * z.size < z.size := by rw [Nat.succ_mul] at h2; omega
        have h4 : i % z.size = i - n * z.size := by
          have : i = (i - n * z.size) + z.size * n := by rw [Nat.mul_comm z.size n]; omega
          rw [this, Nat.add_mul_mod_self_left, Nat.mod_eq_of_lt h3]
          rw [Nat.mul_comm z.size n]; omega
        simp only [Option.map_some, List.length_map, List.length_range, h4, Array.getElem?_toList]
        rw [getElem!_pos z _ h3, Array.getElem?_eq_getElem h3]
      · rw [List.getElem?_eq_none (by simp; omega), List.getElem?_eq_none (by simp [Nat.succ_mul] at h2 ⊢; omega)]
        rfl
theorem rep_ok {l : List SV} {L : List Value} (r : VRels σ ρ l L) : ∀ n, VRels σ ρ (rep l n) (List.replicate n L).flatten
  | 0 => by simp [rep, VRels]
  | n + 1 => by simp only [rep, List.replicate_succ, List.flatten_cons]; exact r.append (rep_ok r n)

theorem elemP_ok {P : Program} {t e : TypeId} (h : elemP P t = some e) : P.underlying t = some (.slice e) := by
  unfold elemP at h
  split at h
  · rename_i e' hu; obtain rfl := Option.some.inj h; exact hu
  · cases h
end
end Go.Sx
