/- Equality, unary operations, slicing, new slices, conversions. -/
import Derived.Test.YtacbfdokeiechaaGreatDoorSxOpB
import Derived.IntWalk
namespace Go.Sx
open Go

section
variable {C : Cx} {ρ : Env} {W : Base} {w : World} {σ : Sg} {h : SH} {tm : Tr SV} {a : Act}

theorem equalIn_eq (t : TypeId) (x y : Value) : Op.equal t x y = Op.equalIn (9999 + 1) t x y := rfl

theorem stringish_none {w : World} {b o : Nat} {c : Array Value} {e : TypeId} {fz : Nat × Nat} {P : Program} (hw : w.heap[b]? = some (.cells c e fz)) (hf : fz.1 = fz.2) :
    (stringish ⟨b, o, none⟩).run P w = .ok false w := by
  have h1 : ∀ i, w.frozen? ⟨b, i, none⟩ = false := by
    intro i; rw [frozen_of hw]; simp only [Bool.and_eq_false_iff, decide_eq_false_iff_not]; omega
  simp [stringish, h1, shape_of hw]

theorem sameAddr_other {w : World} {b b' o o' : Nat} {c c' : Array Value} {e e' : TypeId} {fz fz' : Nat × Nat} {P : Program} (hw : w.heap[b]? = some (.cells c e fz)) (hf : fz.1 = fz.2)
    (hw' : w.heap[b']? = some (.cells c' e' fz')) (hf' : fz'.1 = fz'.2) (hb : b ≠ b') : (sameAddr ⟨b, o, none⟩ ⟨b', o', none⟩).run P w = .ok false w := by
  have h1 : w.frozen? ⟨b, o, none⟩ = false := by
    rw [frozen_of hw]; simp only [Bool.and_eq_false_iff, decide_eq_false_iff_not]; omega
  have hbb : (b == b') = false := by simpa using hb
  simp only [sameAddr, hbb]
  simp [h1, noView, viewAt, shape_of hw, shape_of hw', mayBeOne, stringish_none hw hf, stringish_none hw' hf']

theorem equalS_at (r : HRel C ρ W σ h w) {t : TypeId} {x y : SV} {X Y : Value} {e : BE} (he : equalS C h t x y = some e) (hx : VRel σ ρ x X) (hy : VRel σ ρ y Y) :
    ∃ b, e.ev ρ = some b ∧ (∀ d, (Op.equalIn (d + 1) t X Y).run C.P w = .ok b w) ∧ (∀ op q q', (eqGuard op t q q' X Y).run C.P w = .ok () w) ∧ binOp .eql t X Y = (do pure (.bool (← Op.equal t X Y))) ∧ binOp .neq t X Y = (do pure (.bool (!(← Op.equal t X Y)))) := by
  unfold equalS at he
  split at he
  all_goals try contradiction
  case h_1 a b hu =>
    obtain rfl := Option.some.inj he
    simp only [VRel, BE.ev, Option.some.injEq] at hx hy
    obtain ⟨_, rfl, rfl⟩ := hx; obtain ⟨_, rfl, rfl⟩ := hy
    refine ⟨_, rfl, fun d => ?_, fun op q q' => ?_, rfl, rfl⟩
    · simp [Op.equalIn, run_underlying hu]
    · cases op <;> simp [eqGuard]
  case h_2 hu => 
    obtain rfl := Option.some.inj he
    simp only [VRel] at hx hy; subst hx; subst hy
    refine ⟨_, rfl, fun d => ?_, fun op q q' => ?_, rfl, rfl⟩
    · simp [Op.equalIn, run_underlying hu]
    · cases op <;> simp [eqGuard]
  case h_3 hu =>
    obtain rfl := Option.some.inj he
    simp only [VRel] at hx hy; subst hx; obtain ⟨_, _, rfl⟩ := hy
    refine ⟨_, rfl, fun d => ?_, fun op q q' => ?_, rfl, rfl⟩
    · simp [Op.equalIn, run_underlying hu]
    · cases op <;> simp [eqGuard]
  case h_4 hu =>
    obtain rfl := Option.some.inj he
    simp only [VRel] at hx hy; subst hy; obtain ⟨_, _, rfl⟩ := hx
    refine ⟨_, rfl, fun d => ?_, fun op q q' => ?_, rfl, rfl⟩
    · simp [Op.equalIn, run_underlying hu]
    · cases op <;> simp [eqGuard]
  case h_5 el i o j p hu =>
    simp only [VRel] at hx hy; obtain ⟨pi, hpi, rfl⟩ := hx; obtain ⟨pj, hpj, rfl⟩ := hy
    split at he
    · rename_i k _ _ _ _ _ _ _ _ hs hgi hgj
      obtain ⟨pi', ci, fi, hpi', hwi, _, _, _, _, hfi, _⟩ := r.cells hgi
      obtain ⟨pj', cj, fj, hpj', hwj, _, _, _, _, hfj, _⟩ := r.cells hgj
      rw [hpi] at hpi'; obtain rfl := Option.some.inj hpi'
      rw [hpj] at hpj'; obtain rfl := Option.some.inj hpj'
      have hk : (sizeOf el).run C.P w = .ok (k + 1) w := run_sizeOf hs w
      by_cases hij : i = j
      · subst hij
        rw [hpi] at hpj; obtain rfl := Option.some.inj hpj
        rw [Nat.beq_refl] at he
        obtain rfl := Option.some.inj he
        refine ⟨_, rfl, fun d => ?_, fun op q q' => ?_, rfl, rfl⟩
        · have : ((⟨pi.block, pi.off + o, none⟩ : Addr) == ⟨pi.block, pi.off + p, none⟩) = Nat.beq o p := by
            rw [Bool.eq_iff_iff, beq_iff_eq, beq_true]
            constructor
            · intro e; injection e with _ e2 _; omega
            · rintro rfl; rfl
          simp [Op.equalIn, run_underlying hu, hk, sameAddr, this]
        · cases op <;> simp [eqGuard]
      · rw [beq_false.2 hij] at he
        obtain rfl := Option.some.inj he
        have hne : pi.block ≠ pj.block := fun e => hij (r.inj i j _ _ pi pj hgi hgj hpi hpj e)
        refine ⟨_, rfl, fun d => ?_, fun op q q' => ?_, rfl, rfl⟩
        · simp [Op.equalIn, run_underlying hu, hk, sameAddr_other hwi hfi hwj hfj hne]
        · cases op <;> simp [eqGuard]
    · cases he
  case h_6 hu =>
    obtain rfl := Option.some.inj he
    simp only [VRel] at hx hy; subst hx; subst hy
    refine ⟨_, rfl, fun d => ?_, fun op q q' => ?_, rfl, rfl⟩
    · simp [Op.equalIn, run_underlying hu]
    · cases op <;> simp [eqGuard]
  case h_7 id off len room hu =>
    obtain rfl := Option.some.inj he
    have hy' : ∃ a c, Y = .slice (some a) len c := by
      cases room <;> simp only [VRel] at hy
      · obtain ⟨_, _, rfl⟩ := hy; exact ⟨_, _, rfl⟩
      · obtain ⟨_, _, _, rfl, _⟩ := hy; exact ⟨_, _, rfl⟩
    obtain ⟨_, _, rfl⟩ := hy'
    simp only [VRel] at hx; subst hx
    refine ⟨_, rfl, fun d => ?_, fun op q q' => ?_, rfl, rfl⟩
    · simp [Op.equalIn, run_underlying hu]
    · cases op <;> simp [eqGuard]
  case h_8 id off len room hu =>
    obtain rfl := Option.some.inj he
    have hx' : ∃ a c, X = .slice (some a) len c := by
      cases room <;> simp only [VRel] at hx
      · obtain ⟨_, _, rfl⟩ := hx; exact ⟨_, _, rfl⟩
      · obtain ⟨_, _, _, rfl, _⟩ := hx; exact ⟨_, _, rfl⟩
    obtain ⟨_, _, rfl⟩ := hx'
    simp only [VRel] at hy; subst hy
    refine ⟨_, rfl, fun d => ?_, fun op q q' => ?_, rfl, rfl⟩
    · simp [Op.equalIn, run_underlying hu]
    · cases op <;> simp [eqGuard]
  case h_9 hu =>
    obtain rfl := Option.some.inj he
    simp only [VRel] at hx hy; subst hx; subst hy
    refine ⟨_, rfl, fun d => ?_, fun op q q' => ?_, rfl, rfl⟩
    · simp [Op.equalIn, run_underlying hu]
    · cases op <;> simp [eqGuard]
  case h_10 hu =>
    obtain rfl := Option.some.inj he
    simp only [VRel] at hx hy; subst hx; obtain ⟨_, _, rfl⟩ := hy
    refine ⟨_, rfl, fun d => ?_, fun op q q' => ?_, rfl, rfl⟩
    · simp [Op.equalIn, run_underlying hu]
    · cases op <;> simp [eqGuard]
  case h_11 hu =>
    obtain rfl := Option.some.inj he
    simp only [VRel] at hx hy; subst hy; obtain ⟨_, _, rfl⟩ := hx
    refine ⟨_, rfl, fun d => ?_, fun op q q' => ?_, rfl, rfl⟩
    · simp [Op.equalIn, run_underlying hu]
    · cases op <;> simp [eqGuard]
  case h_12 hu =>
    obtain rfl := Option.some.inj he
    simp only [VRel] at hx hy; subst hx; subst hy
    refine ⟨_, rfl, fun d => ?_, fun op q q' => ?_, rfl, rfl⟩
    · simp [Op.equalIn, run_underlying hu]
    · cases op <;> simp [eqGuard]
  case h_13 hu =>
    obtain rfl := Option.some.inj he
    simp only [VRel] at hx hy; subst hx; obtain ⟨_, _, rfl, _⟩ := hy
    refine ⟨_, rfl, fun d => ?_, fun op q q' => ?_, rfl, rfl⟩
    · simp [Op.equalIn, run_underlying hu]
    · cases op <;> simp [eqGuard]
  case h_14 hu =>
    obtain rfl := Option.some.inj he
    simp only [VRel] at hx hy; subst hy; obtain ⟨_, _, rfl, _⟩ := hx
    refine ⟨_, rfl, fun d => ?_, fun op q q' => ?_, rfl, rfl⟩
    · simp [Op.equalIn, run_underlying hu]
    · cases op <;> simp [eqGuard]
  case h_15 hu =>
    obtain rfl := Option.some.inj he
    simp only [VRel] at hx hy; subst hx; obtain ⟨_, rfl, _⟩ := hy
    refine ⟨_, rfl, fun d => ?_, fun op q q' => ?_, rfl, rfl⟩
    · simp [Op.equalIn, run_underlying hu]
    · cases op <;> simp [eqGuard]
  case h_16 hu =>
    obtain rfl := Option.some.inj he
    simp only [VRel] at hx hy; subst hy; obtain ⟨_, rfl, _⟩ := hx
    refine ⟨_, rfl, fun d => ?_, fun op q q' => ?_, rfl, rfl⟩
    · simp [Op.equalIn, run_underlying hu]
    · cases op <;> simp [eqGuard]

theorem equalS_ok (r : HRel C ρ W σ h w) {t : TypeId} {x y : SV} {X Y : Value} {e : BE} (he : equalS C h t x y = some e) (hx : VRel σ ρ x X) (hy : VRel σ ρ y Y) :
    ∃ b, e.ev ρ = some b ∧ (Op.equal t X Y).run C.P w = .ok b w ∧ (∀ op q q', (eqGuard op t q q' X Y).run C.P w = .ok () w) ∧ binOp .eql t X Y = (do pure (.bool (← Op.equal t X Y))) ∧ binOp .neq t X Y = (do pure (.bool (!(← Op.equal t X Y)))) :=
  let ⟨b, h1, h2, h3⟩ := equalS_at r he hx hy
  ⟨b, h1, by rw [equalIn_eq]; exact h2 9999, h3⟩
end
end Go.Sx
