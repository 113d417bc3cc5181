/- The sorted keys of a small map: the shelf's contracts, laid over this program. -/
import Derived.Test.YtgochfigjhjlnaaDoorChecked
import Derived.Test.YtgochfigjhjlnaaDoorSxSorted
import Derived.Shelf.SlIterI.Sorted
import Derived.Shelf.SlIterI.Keys
import Derived.Shelf.SortM.Plain
import Derived.Shelf.SortM.SortNone
namespace Go.Proofs.YtgochfigjhjlnaaDoor
open Go Go.Sx Go.RowKit Go.Maps Go.Sort Go.Shelf
set_option maxRecDepth 100000

def keysARen : Ren where
  f := fun x => match x with
    | 7 => 42
    | 10 => 59
    | n => n
  t := fun x => match x with
    | 23 => 48
    | 26 => 3
    | 3 => 52
    | 28 => 72
    | 0 => 0
    | 27 => 71
    | 33 => 55
    | 4 => 4
    | n => n
  g := fun x => x
theorem keysA : SlLaysZI.n7 Tryd.prog keysARen where
  mixed := Tryd.checked.mixed
  f7 := ⟨"maps.Keys[map[int]*tidewater/lease.Session,int,*tidewater/lease.Session]", by kernel_rfl, by kernel_rfl⟩
  f10 := ⟨"maps.Keys[map[int]*tidewater/lease.Session,int,*tidewater/lease.Session]$1", by kernel_rfl, by kernel_rfl⟩
  t0 := Tryd.underlying0
  a0 := Tryd.isAgg0
  z0 := Tryd.sizeOf0
  v0 := Tryd.zeroValue0
  t4 := Tryd.underlying4
  a4 := Tryd.isAgg4
  z4 := Tryd.sizeOf4
  v4 := Tryd.zeroValue4
  t23 := Tryd.underlying48
  a23 := Tryd.isAgg48
  z23 := Tryd.sizeOf48
  v23 := Tryd.zeroValue48
  t26 := Tryd.underlying3
  a26 := Tryd.isAgg3
  z26 := Tryd.sizeOf3
  v26 := Tryd.zeroValue3
  t27 := Tryd.underlying71
  a27 := Tryd.isAgg71
  z27 := Tryd.sizeOf71
  v27 := Tryd.zeroValue71
  t28 := Tryd.underlying72
  a28 := Tryd.isAgg72
  z28 := Tryd.sizeOf72
  v28 := Tryd.zeroValue72
  t33 := Tryd.underlying55
  a33 := Tryd.isAgg55
  z33 := Tryd.sizeOf55
  v33 := Tryd.zeroValue55

def sortedARen : Ren where
  f := fun x => match x with
    | 6 => 41
    | 8 => 57
    | 9 => 58
    | 11 => 79
    | 13 => 44
    | 12 => 80
    | 23 => 68
    | 24 => 69
    | 14 => 89
    | 15 => 90
    | 16 => 91
    | 17 => 92
    | 18 => 93
    | 19 => 94
    | 20 => 95
    | 21 => 96
    | 22 => 97
    | 25 => 100
    | 26 => 82
    | 27 => 83
    | 28 => 101
    | 29 => 102
    | 30 => 70
    | 31 => 103
    | n => n
  t := fun x => match x with
    | 26 => 3
    | 28 => 72
    | 24 => 69
    | 0 => 0
    | 3 => 3
    | 37 => 25
    | 48 => 98
    | 50 => 100
    | 4 => 4
    | 40 => 91
    | 39 => 90
    | 45 => 95
    | 5 => 5
    | 9 => 9
    | 51 => 110
    | 55 => 114
    | 57 => 122
    | 58 => 123
    | 33 => 55
    | n => n
  g := fun x => x
theorem sortedA : SlLaysZI.n6 Tryd.prog sortedARen where
  mixed := Tryd.checked.mixed
  f6 := ⟨"slices.Sorted[int]", by kernel_rfl, by kernel_rfl⟩
  f8 := ⟨"slices.Collect[int]", by kernel_rfl, by kernel_rfl⟩
  f11 := ⟨"slices.AppendSeq[[]int,int]", by kernel_rfl, by kernel_rfl⟩
  t0 := Tryd.underlying0
  a0 := Tryd.isAgg0
  z0 := Tryd.sizeOf0
  v0 := Tryd.zeroValue0
  t24 := Tryd.underlying69
  a24 := Tryd.isAgg69
  z24 := Tryd.sizeOf69
  v24 := Tryd.zeroValue69
  t26 := Tryd.underlying3
  a26 := Tryd.isAgg3
  z26 := Tryd.sizeOf3
  v26 := Tryd.zeroValue3
  t28 := Tryd.underlying72
  a28 := Tryd.isAgg72
  z28 := Tryd.sizeOf72
  v28 := Tryd.zeroValue72
  i26 := by kernel_rfl

def sortARen : Ren where
  f := fun x => match x with
    | 5 => 58
    | 8 => 44
    | 7 => 80
    | 19 => 68
    | 20 => 69
    | 10 => 89
    | 11 => 90
    | 12 => 91
    | 13 => 92
    | 14 => 93
    | 15 => 94
    | 16 => 95
    | 17 => 96
    | 18 => 97
    | 30 => 100
    | 31 => 82
    | 32 => 83
    | 33 => 101
    | 34 => 102
    | 35 => 70
    | 40 => 103
    | n => n
  t := fun x => match x with
    | 23 => 69
    | 25 => 3
    | 3 => 3
    | 32 => 25
    | 22 => 69
    | 0 => 0
    | 44 => 98
    | 46 => 100
    | 4 => 4
    | 36 => 91
    | 35 => 90
    | 41 => 95
    | 5 => 5
    | 9 => 9
    | 53 => 110
    | 57 => 114
    | 63 => 122
    | 64 => 123
    | n => n
  g := fun x => x
theorem sortA : SlLaysM.n5 Tryd.prog sortARen where
  mixed := Tryd.checked.mixed
  f5 := ⟨"slices.Sort[[]int,int]", by kernel_rfl, by kernel_rfl⟩
  f7 := ⟨"slices.pdqsortOrdered[int]", by kernel_rfl, by kernel_rfl⟩
  f8 := by kernel_rfl
  f10 := ⟨"slices.insertionSortOrdered[int]", by kernel_rfl, by kernel_rfl⟩
  f11 := ⟨"slices.heapSortOrdered[int]", by kernel_rfl, by kernel_rfl⟩
  f12 := ⟨"slices.breakPatternsOrdered[int]", by kernel_rfl, by kernel_rfl⟩
  f13 := ⟨"slices.choosePivotOrdered[int]", by kernel_rfl, by kernel_rfl⟩
  f14 := ⟨"slices.reverseRangeOrdered[int]", by kernel_rfl, by kernel_rfl⟩
  f15 := ⟨"slices.partialInsertionSortOrdered[int]", by kernel_rfl, by kernel_rfl⟩
  f16 := ⟨"cmp.Less[int]", by kernel_rfl, by kernel_rfl⟩
  f17 := ⟨"slices.partitionEqualOrdered[int]", by kernel_rfl, by kernel_rfl⟩
  f18 := ⟨"slices.partitionOrdered[int]", by kernel_rfl, by kernel_rfl⟩
  f19 := by kernel_rfl
  f20 := by kernel_rfl
  f30 := ⟨"slices.siftDownOrdered[int]", by kernel_rfl, by kernel_rfl⟩
  f31 := by kernel_rfl
  f32 := by kernel_rfl
  f33 := ⟨"slices.medianAdjacentOrdered[int]", by kernel_rfl, by kernel_rfl⟩
  f34 := ⟨"slices.medianOrdered[int]", by kernel_rfl, by kernel_rfl⟩
  f35 := ⟨"cmp.isNaN[int]", by kernel_rfl, by kernel_rfl⟩
  f40 := ⟨"slices.order2Ordered[int]", by kernel_rfl, by kernel_rfl⟩
  t0 := Tryd.underlying0
  a0 := Tryd.isAgg0
  z0 := Tryd.sizeOf0
  v0 := Tryd.zeroValue0
  t3 := Tryd.underlying3
  a3 := Tryd.isAgg3
  z3 := Tryd.sizeOf3
  v3 := Tryd.zeroValue3
  t4 := Tryd.underlying4
  a4 := Tryd.isAgg4
  z4 := Tryd.sizeOf4
  v4 := Tryd.zeroValue4
  t5 := Tryd.underlying5
  a5 := Tryd.isAgg5
  z5 := Tryd.sizeOf5
  v5 := Tryd.zeroValue5
  t9 := Tryd.underlying9
  a9 := Tryd.isAgg9
  z9 := Tryd.sizeOf9
  v9 := Tryd.zeroValue9
  t22 := Tryd.underlying69
  a22 := Tryd.isAgg69
  z22 := Tryd.sizeOf69
  v22 := Tryd.zeroValue69
  t23 := Tryd.underlying69
  a23 := Tryd.isAgg69
  z23 := Tryd.sizeOf69
  v23 := Tryd.zeroValue69
  t25 := Tryd.underlying3
  a25 := Tryd.isAgg3
  z25 := Tryd.sizeOf3
  v25 := Tryd.zeroValue3
  t32 := Tryd.underlying25
  a32 := Tryd.isAgg25
  z32 := Tryd.sizeOf25
  v32 := Tryd.zeroValue25
  t35 := Tryd.underlying90
  a35 := Tryd.isAgg90
  z35 := Tryd.sizeOf90
  v35 := Tryd.zeroValue90
  t36 := Tryd.underlying91
  a36 := Tryd.isAgg91
  z36 := Tryd.sizeOf91
  v36 := Tryd.zeroValue91
  t41 := Tryd.underlying95
  a41 := Tryd.isAgg95
  z41 := Tryd.sizeOf95
  v41 := Tryd.zeroValue95
  t44 := Tryd.underlying98
  a44 := Tryd.isAgg98
  z44 := Tryd.sizeOf98
  v44 := Tryd.zeroValue98
  t46 := Tryd.underlying100
  a46 := Tryd.isAgg100
  z46 := Tryd.sizeOf100
  v46 := Tryd.zeroValue100
  t53 := Tryd.underlying110
  a53 := Tryd.isAgg110
  z53 := Tryd.sizeOf110
  v53 := Tryd.zeroValue110
  t57 := Tryd.underlying114
  a57 := Tryd.isAgg114
  z57 := Tryd.sizeOf114
  v57 := Tryd.zeroValue114
  t63 := Tryd.underlying122
  a63 := Tryd.isAgg122
  z63 := Tryd.sizeOf122
  v63 := Tryd.zeroValue122
  t64 := Tryd.underlying123
  a64 := Tryd.isAgg123
  z64 := Tryd.sizeOf123
  v64 := Tryd.zeroValue123

/-- slices.Sort's two contracts, inside a fence. -/
theorem sortsA (m : Nat) : AnyZI.SortsIn Tryd.prog sortedARen Fence.wide m :=
  ⟨fun blk off cap ss W hH hblk hsz => callsIn_wide.2 (AnyM.slices_Sort_int sortA blk off cap ss W hH hblk hsz),
   fun p cap W => callsIn_wide.2 (AnyM.slices_Sort_int_none sortA p cap W)⟩

theorem sortedOk : SortedOk Tryd.prog 41 59 3 := by
  intro w bx m es clock hbx hm hsz hes
  have hst : Go.MapKept.Stamped es clock := by
    refine ⟨fun x hx => (hes x hx).1, ?_, ?_⟩
    · match h : es.toList with
      | [] => simp
      | [a] => simp
      | a :: b :: r => have := congrArg List.length h; simp at this; omega
    · match h : es.toList with
      | [] => simp
      | [a] => simp
      | a :: b :: r => have := congrArg List.length h; simp at this; omega
  let R : Value → Option (DataW Unit × List MemPlace) := fun _ => some (.nil, [])
  have key : ∀ x ∈ es.toList, ∃ z : Int, x.key = .int .i64 z ∧ Go.WideElems.rd Tryd.prog 3 R x = some (.int .i64 z, .nil) := by
    intro x hx
    obtain ⟨_, z, hz, h1, h2⟩ := hes x hx
    refine ⟨z, hz, ?_⟩
    have hw : (Lit.int .i64 z).wf = true := by simp [Lit.wf, IntKind.min, IntKind.max, IntKind.bits, IntKind.signed]; omega
    simp [Go.WideElems.rd, hz, Go.Maps.keyOf_int_mk Tryd.underlying3 hw, R]
  have hown : w.ownsMap Tryd.prog 3 R m es.size (.map ((es.toList.map (Go.WideElems.rg Tryd.prog 3 R)).foldr DataW.insert [])) :=
    ⟨es, clock, hm, ⟨by have : (1 : Nat) ≤ maxLen := by decide
                        omega, hst, fun x hx => let ⟨z, _, h⟩ := key x hx; ⟨_, h⟩⟩, Nat.le_refl _, rfl⟩
  generalize hD : (DataW.map ((es.toList.map (Go.WideElems.rg Tryd.prog 3 R)).foldr DataW.insert []) : DataW Unit) = D at hown
  have hDs : (es.toList = [] ∧ D = .map []) ∨ ∃ x z, es.toList = [x] ∧ x.key = .int .i64 z ∧ D = .map [(.int .i64 z, .nil)] := by
    match h : es.toList with
    | [] => left; rw [← hD, h]; exact ⟨rfl, rfl⟩
    | [x] =>
      right
      obtain ⟨z, hz, hr⟩ := key x (by rw [h]; simp)
      refine ⟨x, z, rfl, hz, ?_⟩
      rw [← hD, h]
      simp [Go.WideElems.rg, hr, DataW.insert]
    | a :: b :: r => have := congrArg List.length h; simp at this; omega
  have hsize : Maps.size D ≤ 1 := by
    rcases hDs with ⟨_, rfl⟩ | ⟨x, z, _, _, rfl⟩ <;> simp [Maps.size]
  have hmax : Maps.size D ≤ maxLen := by have : (1 : Nat) ≤ maxLen := by decide
                                         omega
  have hBm : bx < w.heap.size := by
    unfold World.cell? at hbx
    split at hbx
    · rename_i hb; exact (Array.getElem?_eq_some_iff.1 hb).1
    · cases hbx
  have hseq : SeqGives Fence.wide 2 Tryd.prog 59 #[.pointer (some ⟨bx, 0, none⟩)] encZ (fun ss => ss.Perm (intKeys D)) (Maps.size D) w :=
    AnyZI.keys_gives (ρ := keysARen) { keysA with } Fence.wide _ trivial rfl (by omega) bx m es.size D w hBm hbx hown
  have cS := AnyZI.sorted_in sortedA Fence.wide 5 trivial trivial trivial trivial rfl (by omega) (sortsA _) (enters_of Tryd.func58 (by kernel_rfl) rfl) 59 #[.pointer (some ⟨bx, 0, none⟩)] trivial (enters_of Tryd.func59 (by kernel_rfl) rfl) _ _ hmax (by omega) _ hseq
  refine (callsIn_wide (n := 5)).1 (cS.mono ?_)
  rintro e w' ⟨v, ss, rfl, hS, hrow, hnil, hb⟩
  refine ⟨hb, v, rfl, ?_⟩
  rcases hDs with ⟨h0, rfl⟩ | ⟨x, z, h0, hz, rfl⟩
  · left
    have : ss = [] := by have := hS.length_eq; simp [intKeys] at this; exact this
    exact ⟨h0, hnil.2 this⟩
  · right
    have hss : ss = [z] := by
      have h1 : (intKeys (DataW.map [(Lit.int .i64 z, (.nil : DataW Unit))])) = [z] := rfl
      rw [h1] at hS
      exact List.perm_singleton.1 hS
    subst hss
    rcases hrow.2 with ⟨_, hc⟩ | ⟨g, cap, cur, rfl, h1, h2, h3, h4, h5, h6⟩
    · simp at hc
    · refine ⟨x, g, cap, cur, h0, rfl, by simpa using h3, h1, h2, by simpa using h5, ?_⟩
      have h7 : cur.toList.take 1 = [encZ z] := by simpa using h6
      have h8 : (cur.toList.take 1)[0]? = some (encZ z) := by rw [h7]; rfl
      rw [List.getElem?_take, if_pos (by decide), Array.getElem?_toList] at h8
      rw [h8, hz]
end Go.Proofs.YtgochfigjhjlnaaDoor
