/- LeaseNil: whatever step is given, the law returns true, and its argument reads as it did; what the two tables of utf8 hold is tied to the program's text. -/
import Derived.Test.YtgochfigjhjlnaaGreatDoorSxLeaseZ
namespace Go.Proofs.YtgochfigjhjlnaaGreatDoor.leaseNil
open Go Go.Sx Go.ChangeShapes Go.WideShapes Go.ChangeAt Go.RowKit
set_option linter.unusedVariables false

theorem runs : (call (cx []) 1000000 4 [.agg [.int .i64 (.var 0), .int .i64 (.var 1), .int .i64 (.var 2), .int .i64 (.var 3), .str (.var 0), .str (.var 1), .str (.var 2)]] { blocks := .nil, next := 0 }).map (·.1) = some (.bool (.lit true)) := by kernel_rfl

theorem walk (z0 z1 z2 z3 : Int) (s0 s1 s2 : ByteArray) (W : World) :
    Calls Tryz.prog 4 #[.agg #[.int .i64 z0, .int .i64 z1, .int .i64 z2, .int .i64 z3, .string s0, .string s1, .string s2]] W fun e w' => e = .returned (.bool true) ∧ Below W.heap.size W w' := by
  let ρ : Env := { i := fun i => if i = 0 then some z0 else if i = 1 then some z1 else if i = 2 then some z2 else some z3, s := fun i => if i = 0 then some s0 else if i = 1 then some s1 else some s2 }
  refine ran (b := []) (ρ := ρ) ⟨fun x hx => ?_, fun x hx => ?_⟩ ?_ runs
  · replace hx : x ∈ ([] : List (IE × Int)) := hx
    cases hx
  · replace hx : x ∈ ([] : List (BE × Bool)) := hx
    cases hx
  · simp [VRels, VRel, ρ, IE.ev]

set_option maxRecDepth 100000 in
theorem lifted (os : Os) (started : os.Started) (H : Type) (enc : TypeId × Value → H) :
    ReturnsInHanded {} Tryz.checked os 4 .any (fun w args => (Rows.leaseNilSpec.pre enc Tryz.prog Tryz.f4 Rows.leaseNilRow.domain false w args ∧ laidMetH Tryz.prog Rows.leaseNilRow.laid w) ∧ sizedMet enc Tryz.prog Tryz.f4 (OpenSpec.ofChange Rows.leaseNilSpec) false w args)
      (Rows.leaseNilSpec.post enc Tryz.prog Tryz.f4 false true false false) := by
  refine returnsInHanded_of_change_and (C := Tryz.checked) (X := fun w _ => laidMetH Tryz.prog Rows.leaseNilRow.laid w) (fun _ _ _ hh h => h.of_heap hh) own started (by kernel_rfl) Tryz.func4
    (ChangeSpec.witness_shaped (enc := enc) (C := Tryz.checked) (os := os) (X := fun w _ => laidMetH Tryz.prog Rows.leaseNilRow.laid w) false (World.laidAll Tryz.prog os Rows.leaseNilRow.laid) #[.agg #[.int .i64 0, .int .i64 0, .int .i64 0, .int .i64 0, .string ⟨#[]⟩, .string ⟨#[]⟩, .string ⟨#[]⟩]] 8 (World.laidAll_os _ _ _)
      (World.shaped_of_ZipB (by kernel_rfl) (by kernel_rfl)) (by kernel_rfl) (by kernel_rfl) (by kernel_rfl)
      (by rw [MakeChecks.laidMetH_plain _ _ _ (by kernel_rfl)]; exact laidMet_laidAll _ (by kernel_rfl) (by kernel_rfl))) ?_
  intro W base args ds gs before hval0 hW _ _ _ _
  have hval : ∀ (j : Nat) t v, Tryz.f4.params[j]? = some t → args[j]? = some v → Value.okWide Tryz.prog W .any base t v := hval0
  have hW' := hW
  obtain ⟨p, q, hA0, hV, rfl, hfz, hnd⟩ := hW
  have hA : DataW.TrodAll enc Tryz.prog W 0 (fun _ => true) true Tryz.f4.params.toList args.toList ds p := hA0
  rw [Tryz.params4] at hA hval
  obtain ⟨v0, vs0, d0, ds0, p0, q0, hargs, rfl, rfl, h0, r0⟩ := trodAll_cons hA
  obtain ⟨rfl, rfl, rfl⟩ := trodAll_nil r0
  obtain rfl : args = #[v0] := by cases args; simp_all
  obtain ⟨cs, rfl, hsz⟩ := okWide_struct Tryz.underlying28 (hval 0 28 v0 rfl rfl)
  have c28 : Tryz.prog.cellsOf 28 = 7 := by kernel_rfl
  have c3 : Tryz.prog.cellsOf 3 = 1 := by kernel_rfl
  have c9 : Tryz.prog.cellsOf 9 = 1 := by kernel_rfl
  rw [c28] at hsz
  obtain ⟨fuel, hf⟩ := h0
  obtain ⟨xs, m, _, _, _, hx, hfd⟩ := DataW.trod_struct Tryz.underlying28 hf
  have hx7 : xs.length = 7 := hx
  have hcs : (Value.agg cs).cells.toList = cs.toList := rfl
  rw [hcs] at hfd
  have int : ∀ (i off : Nat) (f : Field), i < 7 → (#[{ name := "Kind", type := 3, offset := 0, embedded := false, tag := "", pkgPath := "", byteOffset := 0 }, { name := "Id", type := 3, offset := 1, embedded := false, tag := "", pkgPath := "", byteOffset := 8 }, { name := "Conn", type := 3, offset := 2, embedded := false, tag := "", pkgPath := "", byteOffset := 16 }, { name := "By", type := 3, offset := 3, embedded := false, tag := "", pkgPath := "", byteOffset := 24 }, { name := "User", type := 9, offset := 4, embedded := false, tag := "", pkgPath := "", byteOffset := 32 }, { name := "Device", type := 9, offset := 5, embedded := false, tag := "", pkgPath := "", byteOffset := 48 }, { name := "Token", type := 9, offset := 6, embedded := false, tag := "", pkgPath := "", byteOffset := 64 }] : Array Field)[i]? = some f → f.offset = off → f.type = 3 → ∃ z, cs[off]? = some (.int .i64 z) := by
    intro i off f hi h1 h2 h3
    have g := hfd i f h1
    rw [h3, c3, h2, List.getElem?_eq_getElem (by omega)] at g
    obtain ⟨z, e1, _⟩ := DataW.trod_int Tryz.underlying3 g
    have e2 : ((cs.toList.drop off).take 1)[0]? = some (.int .i64 z) := by rw [e1]; rfl
    exact ⟨z, by simpa using e2⟩
  have str : ∀ (i off : Nat) (f : Field), i < 7 → (#[{ name := "Kind", type := 3, offset := 0, embedded := false, tag := "", pkgPath := "", byteOffset := 0 }, { name := "Id", type := 3, offset := 1, embedded := false, tag := "", pkgPath := "", byteOffset := 8 }, { name := "Conn", type := 3, offset := 2, embedded := false, tag := "", pkgPath := "", byteOffset := 16 }, { name := "By", type := 3, offset := 3, embedded := false, tag := "", pkgPath := "", byteOffset := 24 }, { name := "User", type := 9, offset := 4, embedded := false, tag := "", pkgPath := "", byteOffset := 32 }, { name := "Device", type := 9, offset := 5, embedded := false, tag := "", pkgPath := "", byteOffset := 48 }, { name := "Token", type := 9, offset := 6, embedded := false, tag := "", pkgPath := "", byteOffset := 64 }] : Array Field)[i]? = some f → f.offset = off → f.type = 9 → ∃ s, cs[off]? = some (.string s) := by
    intro i off f hi h1 h2 h3
    have g := hfd i f h1
    rw [h3, c9, h2, List.getElem?_eq_getElem (by omega)] at g
    obtain ⟨s, e1, _⟩ := DataW.trod_string Tryz.underlying9 g
    have e2 : ((cs.toList.drop off).take 1)[0]? = some (.string s) := by rw [e1]; rfl
    exact ⟨s, by simpa using e2⟩
  obtain ⟨z0, k0⟩ := int 0 0 _ (by omega) rfl rfl rfl
  obtain ⟨z1, k1⟩ := int 1 1 _ (by omega) rfl rfl rfl
  obtain ⟨z2, k2⟩ := int 2 2 _ (by omega) rfl rfl rfl
  obtain ⟨z3, k3⟩ := int 3 3 _ (by omega) rfl rfl rfl
  obtain ⟨s0, k4⟩ := str 4 4 _ (by omega) rfl rfl rfl
  obtain ⟨s1, k5⟩ := str 5 5 _ (by omega) rfl rfl rfl
  obtain ⟨s2, k6⟩ := str 6 6 _ (by omega) rfl rfl rfl
  have hcs : cs = #[.int .i64 z0, .int .i64 z1, .int .i64 z2, .int .i64 z3, .string s0, .string s1, .string s2] := by
    apply Array.ext_getElem?
    intro i
    match i with
    | 0 => simpa using k0
    | 1 => simpa using k1
    | 2 => simpa using k2
    | 3 => simpa using k3
    | 4 => simpa using k4
    | 5 => simpa using k5
    | 6 => simpa using k6
    | n + 7 => rw [Array.getElem?_eq_none (by omega)]; simp
  clear hfd hf int str
  subst hcs
  refine (walk z0 z1 z2 z3 s0 s1 s2 W).mono fun e W' ⟨he, hg⟩ => ?_
  subst he
  exact ⟨_, rfl, post_true laidOut (by kernel_rfl) Tryz.underlying4 (by kernel_rfl) rfl hW' rfl rfl rfl hg⟩

theorem over : Rows.LeaseNilSaid :=
  OpenClaim.holds_of_wide 4 Tryz.f4 rfl rfl rfl rfl rfl rfl rfl ⟨rfl, rfl, rfl, rfl, rfl⟩ rfl rfl rfl rfl rfl (by kernel_rfl) Tryz.func4 (by kernel_rfl)
    (of_decide_eq_true (by kernel_rfl)) (by unfold Func.isWrapper; first | (rw [if_pos (by decide +kernel)]; kernel_rfl) | (rw [if_neg (by decide +kernel)]; exact ⟨rfl, rfl⟩))
    (fun os started H enc _ => lifted os started H enc)

theorem proved : Rows.LeaseNilCardSaid :=
  Claim7.holds_tied_plain_at .later [] [.data, .pinned] true (true, "15cd293dd724adc3867dadef7da7313e5a269cb7de28698a1c87163ff3ef8e17") false
    over (fun _ h => by cases h) (by kernel_rfl) (fun _ h => by cases h) leaseNil_row_tie rfl ⟨rfl, rfl⟩ (by kernel_rfl) rfl
    (fun f fn hf hfn => by
      obtain rfl : f = 4 := Option.some.inj ((show Tryz.prog.funcNamed "tidewater/tidewaterlaw15.LeaseNil" = some 4 by kernel_rfl).symm.trans hf) |>.symm
      obtain rfl : fn = Tryz.f4 := (Option.some.inj (Tryz.func4.symm.trans hfn)).symm
      exact ⟨by kernel_rfl, fun j t ht => by
        rw [Tryz.params4] at ht
        have hm : t ∈ [28] := by simpa using Array.mem_of_getElem? ht
        have hall : ([28].all fun u => !Tryz.prog.wantsStandIn u) = true := by kernel_rfl
        exact (show Tryz.prog.wantsStandIn t = false by simpa using List.all_eq_true.1 hall t hm)⟩)
    (by kernel_rfl)
#print axioms proved
end Go.Proofs.YtgochfigjhjlnaaGreatDoor.leaseNil
