/- HouseNil: the row's walk. -/
import Derived.Test.YtacbfdokeiechaaGreatDoorSxHouseWalk
namespace Go.Proofs.YtacbfdokeiechaaGreatDoor.houseNil
open Go Go.Sx Go.ChangeMaps Go.ChangeShapes Go.WideShapes Go.ChangeAt Go.RowKit
set_option linter.unusedVariables false

set_option maxRecDepth 100000 in
theorem lifted (os : Os) (started : os.Started) (H : Type) (enc : TypeId × Value → H) :
    ReturnsInHanded {} Tryz.checked os 3 .any (fun w args => (Rows.houseNilSpec.pre enc Tryz.prog Tryz.f3 Rows.houseNilRow.domain false w args ∧ laidMetH Tryz.prog Rows.houseNilRow.laid w) ∧ sizedMet enc Tryz.prog Tryz.f3 (OpenSpec.ofChange Rows.houseNilSpec) false w args)
      (Rows.houseNilSpec.post enc Tryz.prog Tryz.f3 false true false false) := by
  refine returnsInHanded_of_change_and (C := Tryz.checked) (X := fun w _ => laidMetH Tryz.prog Rows.houseNilRow.laid w) (fun _ _ _ hh h => h.of_heap hh) own started (by as_aux_lemma => kernel_rfl) Tryz.func3
    (ChangeSpec.witness_shaped (enc := enc) (C := Tryz.checked) (os := os) (X := fun w _ => laidMetH Tryz.prog Rows.houseNilRow.laid w) false (World.laidAll Tryz.prog os Rows.houseNilRow.laid) #[.agg #[.int .i64 0, .int .i64 0, .int .i64 0, .string ⟨#[]⟩, .slice none 0 0]] 8 (World.laidAll_os _ _ _)
      (World.shaped_of_ZipB (by as_aux_lemma => kernel_rfl) (by as_aux_lemma => kernel_rfl)) (by as_aux_lemma => kernel_rfl) (by as_aux_lemma => kernel_rfl) (by as_aux_lemma => kernel_rfl)
      (by rw [MakeChecks.laidMetH_plain _ _ _ (by as_aux_lemma => kernel_rfl)]; exact laidMet_laidAll _ (by as_aux_lemma => kernel_rfl) (by as_aux_lemma => kernel_rfl))) ?_
  intro W base args ds gs before hval0 hW _ _ _ _
  have hval : ∀ (j : Nat) t v, Tryz.f3.params[j]? = some t → args[j]? = some v → Value.okWide Tryz.prog W .any base t v := hval0
  have hW' := hW
  obtain ⟨p, q, hA0, hV, rfl, hfz, hnd⟩ := hW
  have hA : DataW.TrodAll enc Tryz.prog W 0 (fun _ => true) true Tryz.f3.params.toList args.toList ds p := hA0
  rw [Tryz.params3] at hA hval
  obtain ⟨v0, vs0, d0, ds0, p0, q0, hargs, rfl, rfl, h0, r0⟩ := trodAll_cons hA
  obtain ⟨rfl, rfl, rfl⟩ := trodAll_nil r0
  obtain rfl : args = #[v0] := by cases args; simp_all
  obtain ⟨rfl, rfl⟩ := trodVars_none hV
  obtain ⟨cs, rfl, hsz⟩ := okWide_struct Tryz.underlying24 (hval 0 24 v0 rfl rfl)
  have c24 : Tryz.prog.cellsOf 24 = 5 := by as_aux_lemma => kernel_rfl
  have c3 : Tryz.prog.cellsOf 3 = 1 := by as_aux_lemma => kernel_rfl
  have c9 : Tryz.prog.cellsOf 9 = 1 := by as_aux_lemma => kernel_rfl
  have c22 : Tryz.prog.cellsOf 22 = 1 := by as_aux_lemma => kernel_rfl
  rw [c24] at hsz
  obtain ⟨fuel, hf⟩ := h0
  obtain ⟨xs, m, _, _, _, hx, hfd⟩ := DataW.trod_struct Tryz.underlying24 hf
  have hx5 : xs.length = 5 := hx
  have hcs : (Value.agg cs).cells.toList = cs.toList := rfl
  rw [hcs] at hfd
  have at1 : ∀ {off : Nat} {v : Value}, (cs.toList.drop off).take 1 = [v] → cs[off]? = some v := by
    intro off v e
    have e2 : ((cs.toList.drop off).take 1)[0]? = some v := by rw [e]; rfl
    simpa using e2
  have g0 := hfd 0 _ rfl
  rw [List.getElem?_eq_getElem (by omega)] at g0
  obtain ⟨z0, k0, _⟩ := DataW.trod_int Tryz.underlying3 g0
  have g1 := hfd 1 _ rfl
  rw [List.getElem?_eq_getElem (by omega)] at g1
  obtain ⟨z1, k1, _⟩ := DataW.trod_int Tryz.underlying3 g1
  have g2 := hfd 2 _ rfl
  rw [List.getElem?_eq_getElem (by omega)] at g2
  obtain ⟨z2, k2, _⟩ := DataW.trod_int Tryz.underlying3 g2
  have g3 := hfd 3 _ rfl
  rw [List.getElem?_eq_getElem (by omega)] at g3
  obtain ⟨s0, k3, _⟩ := DataW.trod_string Tryz.underlying9 g3
  have g4 := hfd 4 _ rfl
  rw [List.getElem?_eq_getElem (by omega)] at g4
  replace k0 : List.take (Tryz.prog.cellsOf 3) (cs.toList.drop 0) = [.int .i64 z0] := k0
  replace k1 : List.take (Tryz.prog.cellsOf 3) (cs.toList.drop 1) = [.int .i64 z1] := k1
  replace k2 : List.take (Tryz.prog.cellsOf 3) (cs.toList.drop 2) = [.int .i64 z2] := k2
  replace k3 : List.take (Tryz.prog.cellsOf 9) (cs.toList.drop 3) = [.string s0] := k3
  rw [c3] at k0 k1 k2
  rw [c9] at k3
  obtain ⟨d, k4, hd⟩ : ∃ d, (cs.toList.drop 4).take 1 = [d] ∧ d.oneCell' = true := by
    rcases DataW.trod_slice Tryz.underlying22 g4 with ⟨e, _⟩ | ⟨a, len, cap, elems, rest, n, _, e, _⟩
    · refine ⟨.slice none 0 0, ?_, rfl⟩
      replace e : List.take (Tryz.prog.cellsOf 22) (cs.toList.drop 4) = _ := e
      rw [c22] at e; exact e
    · refine ⟨.slice (some a) len cap, ?_, rfl⟩
      replace e : List.take (Tryz.prog.cellsOf 22) (cs.toList.drop 4) = _ := e
      rw [c22] at e; exact e
  have hcs : cs = #[.int .i64 z0, .int .i64 z1, .int .i64 z2, .string s0, d] := by
    apply Array.ext_getElem?
    intro i
    match i with
    | 0 => simpa using at1 k0
    | 1 => simpa using at1 k1
    | 2 => simpa using at1 k2
    | 3 => simpa using at1 k3
    | 4 => simpa using at1 k4
    | n + 5 => rw [Array.getElem?_eq_none (by omega)]; simp
  clear hfd hf g0 g1 g2 g3 g4 at1
  subst hcs
  refine (walk z0 z1 z2 s0 d hd W).mono fun e W' ⟨he, hg⟩ => ?_
  subst he
  exact ⟨_, rfl, post_true laidOut (by as_aux_lemma => kernel_rfl) Tryz.underlying4 (by as_aux_lemma => kernel_rfl) rfl hW' rfl rfl rfl hg⟩

end Go.Proofs.YtacbfdokeiechaaGreatDoor.houseNil
