/- The sorted keys of a small map: the shelf's contracts, laid over this program. -/
import Derived.Test.YtacbfdokeiechaaGreatDoorChecked
import Derived.Test.YtacbfdokeiechaaGreatDoorSxSorted
import Derived.Shelf.SlIterI.Sorted
import Derived.Shelf.SlIterI.Keys
import Derived.Shelf.SortM.Plain
import Derived.Shelf.SortM.SortNone
namespace Go.Proofs.YtacbfdokeiechaaGreatDoor
open Go Go.Sx Go.RowKit Go.Maps Go.Sort Go.Shelf
set_option maxRecDepth 100000

def keysARen : Ren where
  f := fun x => match x with
    | 7 => 84
    | 10 => 134
    | n => n
  t := fun x => match x with
    | 23 => 136
    | 26 => 3
    | 3 => 115
    | 28 => 161
    | 0 => 0
    | 27 => 160
    | 33 => 31
    | 4 => 4
    | n => n
  g := fun x => x
theorem keysA : SlLaysZI.n7 Tryz.prog keysARen where
  mixed := Tryz.checked.mixed
  f7 := ⟨"maps.Keys[map[int]*tidewater/lease.Session,int,*tidewater/lease.Session]", by kernel_rfl, by kernel_rfl⟩
  f10 := ⟨"maps.Keys[map[int]*tidewater/lease.Session,int,*tidewater/lease.Session]$1", by kernel_rfl, by kernel_rfl⟩
  t0 := Tryz.underlying0
  a0 := Tryz.isAgg0
  z0 := Tryz.sizeOf0
  v0 := Tryz.zeroValue0
  t4 := Tryz.underlying4
  a4 := Tryz.isAgg4
  z4 := Tryz.sizeOf4
  v4 := Tryz.zeroValue4
  t23 := Tryz.underlying136
  a23 := Tryz.isAgg136
  z23 := Tryz.sizeOf136
  v23 := Tryz.zeroValue136
  t26 := Tryz.underlying3
  a26 := Tryz.isAgg3
  z26 := Tryz.sizeOf3
  v26 := Tryz.zeroValue3
  t27 := Tryz.underlying160
  a27 := Tryz.isAgg160
  z27 := Tryz.sizeOf160
  v27 := Tryz.zeroValue160
  t28 := Tryz.underlying161
  a28 := Tryz.isAgg161
  z28 := Tryz.sizeOf161
  v28 := Tryz.zeroValue161
  t33 := Tryz.underlying31
  a33 := Tryz.isAgg31
  z33 := Tryz.sizeOf31
  v33 := Tryz.zeroValue31

def sortedARen : Ren where
  f := fun x => match x with
    | 6 => 83
    | 8 => 132
    | 9 => 133
    | 11 => 204
    | 13 => 55
    | 12 => 205
    | 23 => 93
    | 24 => 94
    | 14 => 280
    | 15 => 281
    | 16 => 282
    | 17 => 283
    | 18 => 284
    | 19 => 285
    | 20 => 286
    | 21 => 287
    | 22 => 288
    | 25 => 344
    | 26 => 136
    | 27 => 137
    | 28 => 345
    | 29 => 346
    | 30 => 56
    | 31 => 376
    | n => n
  t := fun x => match x with
    | 26 => 3
    | 28 => 161
    | 24 => 55
    | 0 => 0
    | 3 => 3
    | 37 => 46
    | 48 => 172
    | 50 => 101
    | 4 => 4
    | 40 => 165
    | 39 => 164
    | 45 => 169
    | 5 => 5
    | 9 => 9
    | 51 => 206
    | 55 => 210
    | 57 => 276
    | 58 => 277
    | 33 => 31
    | n => n
  g := fun x => x
theorem sortedA : SlLaysZI.n6 Tryz.prog sortedARen where
  mixed := Tryz.checked.mixed
  f6 := ⟨"slices.Sorted[int]", by kernel_rfl, by kernel_rfl⟩
  f8 := ⟨"slices.Collect[int]", by kernel_rfl, by kernel_rfl⟩
  f11 := ⟨"slices.AppendSeq[[]int,int]", by kernel_rfl, by kernel_rfl⟩
  t0 := Tryz.underlying0
  a0 := Tryz.isAgg0
  z0 := Tryz.sizeOf0
  v0 := Tryz.zeroValue0
  t24 := Tryz.underlying55
  a24 := Tryz.isAgg55
  z24 := Tryz.sizeOf55
  v24 := Tryz.zeroValue55
  t26 := Tryz.underlying3
  a26 := Tryz.isAgg3
  z26 := Tryz.sizeOf3
  v26 := Tryz.zeroValue3
  t28 := Tryz.underlying161
  a28 := Tryz.isAgg161
  z28 := Tryz.sizeOf161
  v28 := Tryz.zeroValue161
  i26 := by kernel_rfl

def sortARen : Ren where
  f := fun x => match x with
    | 5 => 133
    | 8 => 55
    | 7 => 205
    | 19 => 93
    | 20 => 94
    | 10 => 280
    | 11 => 281
    | 12 => 282
    | 13 => 283
    | 14 => 284
    | 15 => 285
    | 16 => 286
    | 17 => 287
    | 18 => 288
    | 30 => 344
    | 31 => 136
    | 32 => 137
    | 33 => 345
    | 34 => 346
    | 35 => 56
    | 40 => 376
    | n => n
  t := fun x => match x with
    | 23 => 55
    | 25 => 3
    | 3 => 3
    | 32 => 46
    | 22 => 55
    | 0 => 0
    | 44 => 172
    | 46 => 101
    | 4 => 4
    | 36 => 165
    | 35 => 164
    | 41 => 169
    | 5 => 5
    | 9 => 9
    | 53 => 206
    | 57 => 210
    | 63 => 276
    | 64 => 277
    | n => n
  g := fun x => x
theorem sortA : SlLaysM.n5 Tryz.prog sortARen where
  mixed := Tryz.checked.mixed
  f5 := ⟨"slices.Sort[[]int,int]", by kernel_rfl, by kernel_rfl⟩
  f7 := ⟨"slices.pdqsortOrdered[int]", by kernel_rfl, by kernel_rfl⟩
  f8 := by kernel_rfl
  f10 := ⟨"slices.insertionSortOrdered[int]", by kernel_rfl, by kernel_rfl⟩
  f11 := ⟨"slices.heapSortOrdered[int]", by kernel_rfl, by kernel_rfl⟩
  f12 := ⟨"slices.breakPatternsOrdered[int]", by kernel_rfl, by kernel_rfl⟩
  f13 := ⟨"slices.choosePivotOrdered[int]", by kernel_rfl, by kernel_rfl⟩
  f14 := ⟨"slices.reverseRangeOrdered[int]", by kernel_rfl, by kernel_rfl⟩
  f15 := ⟨"slices.partialInsertionSortOrdered[int]", by kernel_rfl, by kernel_rfl⟩
  f16 := ⟨"cmp.Less[int]", by kernel_rfl, by kernel_rfl⟩
  f17 := ⟨"slices.partitionEqualOrdered[int]", by kernel_rfl, by kernel_rfl⟩
  f18 := ⟨"slices.partitionOrdered[int]", by kernel_rfl, by kernel_rfl⟩
  f19 := by kernel_rfl
  f20 := by kernel_rfl
  f30 := ⟨"slices.siftDownOrdered[int]", by kernel_rfl, by kernel_rfl⟩
  f31 := by kernel_rfl
  f32 := by kernel_rfl
  f33 := ⟨"slices.medianAdjacentOrdered[int]", by kernel_rfl, by kernel_rfl⟩
  f34 := ⟨"slices.medianOrdered[int]", by kernel_rfl, by kernel_rfl⟩
  f35 := ⟨"cmp.isNaN[int]", by kernel_rfl, by kernel_rfl⟩
  f40 := ⟨"slices.order2Ordered[int]", by kernel_rfl, by kernel_rfl⟩
  t0 := Tryz.underlying0
  a0 := Tryz.isAgg0
  z0 := Tryz.sizeOf0
  v0 := Tryz.zeroValue0
  t3 := Tryz.underlying3
  a3 := Tryz.isAgg3
  z3 := Tryz.sizeOf3
  v3 := Tryz.zeroValue3
  t4 := Tryz.underlying4
  a4 := Tryz.isAgg4
  z4 := Tryz.sizeOf4
  v4 := Tryz.zeroValue4
  t5 := Tryz.underlying5
  a5 := Tryz.isAgg5
  z5 := Tryz.sizeOf5
  v5 := Tryz.zeroValue5
  t9 := Tryz.underlying9
  a9 := Tryz.isAgg9
  z9 := Tryz.sizeOf9
  v9 := Tryz.zeroValue9
  t22 := Tryz.underlying55
  a22 := Tryz.isAgg55
  z22 := Tryz.sizeOf55
  v22 := Tryz.zeroValue55
  t23 := Tryz.underlying55
  a23 := Tryz.isAgg55
  z23 := Tryz.sizeOf55
  v23 := Tryz.zeroValue55
  t25 := Tryz.underlying3
  a25 := Tryz.isAgg3
  z25 := Tryz.sizeOf3
  v25 := Tryz.zeroValue3
  t32 := Tryz.underlying46
  a32 := Tryz.isAgg46
  z32 := Tryz.sizeOf46
  v32 := Tryz.zeroValue46
  t35 := Tryz.underlying164
  a35 := Tryz.isAgg164
  z35 := Tryz.sizeOf164
  v35 := Tryz.zeroValue164
  t36 := Tryz.underlying165
  a36 := Tryz.isAgg165
  z36 := Tryz.sizeOf165
  v36 := Tryz.zeroValue165
  t41 := Tryz.underlying169
  a41 := Tryz.isAgg169
  z41 := Tryz.sizeOf169
  v41 := Tryz.zeroValue169
  t44 := Tryz.underlying172
  a44 := Tryz.isAgg172
  z44 := Tryz.sizeOf172
  v44 := Tryz.zeroValue172
  t46 := Tryz.underlying101
  a46 := Tryz.isAgg101
  z46 := Tryz.sizeOf101
  v46 := Tryz.zeroValue101
  t53 := Tryz.underlying206
  a53 := Tryz.isAgg206
  z53 := Tryz.sizeOf206
  v53 := Tryz.zeroValue206
  t57 := Tryz.underlying210
  a57 := Tryz.isAgg210
  z57 := Tryz.sizeOf210
  v57 := Tryz.zeroValue210
  t63 := Tryz.underlying276
  a63 := Tryz.isAgg276
  z63 := Tryz.sizeOf276
  v63 := Tryz.zeroValue276
  t64 := Tryz.underlying277
  a64 := Tryz.isAgg277
  z64 := Tryz.sizeOf277
  v64 := Tryz.zeroValue277

/-- slices.Sort's two contracts, inside a fence. -/
theorem sortsA (m : Nat) : AnyZI.SortsIn Tryz.prog sortedARen Fence.wide m :=
  ⟨fun blk off cap ss W hH hblk hsz => callsIn_wide.2 (AnyM.slices_Sort_int sortA blk off cap ss W hH hblk hsz),
   fun p cap W => callsIn_wide.2 (AnyM.slices_Sort_int_none sortA p cap W)⟩

theorem sortedOk : SortedOk Tryz.prog 83 134 3 := by
  intro w bx m es clock hbx hm hsz hes
  have hst : Go.MapKept.Stamped es clock := by
    refine ⟨fun x hx => (hes x hx).1, ?_, ?_⟩
    · match h : es.toList with
      | [] => simp
      | [a] => simp
      | a :: b :: r => have := congrArg List.length h; simp at this; omega
    · match h : es.toList with
      | [] => simp
      | [a] => simp
      | a :: b :: r => have := congrArg List.length h; simp at this; omega
  let R : Value → Option (DataW Unit × List MemPlace) := fun _ => some (.nil, [])
  have key : ∀ x ∈ es.toList, ∃ z : Int, x.key = .int .i64 z ∧ Go.WideElems.rd Tryz.prog 3 R x = some (.int .i64 z, .nil) := by
    intro x hx
    obtain ⟨_, z, hz, h1, h2⟩ := hes x hx
    refine ⟨z, hz, ?_⟩
    have hw : (Lit.int .i64 z).wf = true := by simp [Lit.wf, IntKind.min, IntKind.max, IntKind.bits, IntKind.signed]; omega
    simp [Go.WideElems.rd, hz, Go.Maps.keyOf_int_mk Tryz.underlying3 hw, R]
  have hown : w.ownsMap Tryz.prog 3 R m es.size (.map ((es.toList.map (Go.WideElems.rg Tryz.prog 3 R)).foldr DataW.insert [])) :=
    ⟨es, clock, hm, ⟨by have : (1 : Nat) ≤ maxLen := by decide
                        omega, hst, fun x hx => let ⟨z, _, h⟩ := key x hx; ⟨_, h⟩⟩, Nat.le_refl _, rfl⟩
  generalize hD : (DataW.map ((es.toList.map (Go.WideElems.rg Tryz.prog 3 R)).foldr DataW.insert []) : DataW Unit) = D at hown
  have hDs : (es.toList = [] ∧ D = .map []) ∨ ∃ x z, es.toList = [x] ∧ x.key = .int .i64 z ∧ D = .map [(.int .i64 z, .nil)] := by
    match h : es.toList with
    | [] => left; rw [← hD, h]; exact ⟨rfl, rfl⟩
    | [x] =>
      right
      obtain ⟨z, hz, hr⟩ := key x (by rw [h]; simp)
      refine ⟨x, z, rfl, hz, ?_⟩
      rw [← hD, h]
      simp [Go.WideElems.rg, hr, DataW.insert]
    | a :: b :: r => have := congrArg List.length h; simp at this; omega
  have hsize : Maps.size D ≤ 1 := by
    rcases hDs with ⟨_, rfl⟩ | ⟨x, z, _, _, rfl⟩ <;> simp [Maps.size]
  have hmax : Maps.size D ≤ maxLen := by have : (1 : Nat) ≤ maxLen := by decide
                                         omega
  have hBm : bx < w.heap.size := by
    unfold World.cell? at hbx
    split at hbx
    · rename_i hb; exact (Array.getElem?_eq_some_iff.1 hb).1
    · cases hbx
  have hseq : SeqGives Fence.wide 2 Tryz.prog 134 #[.pointer (some ⟨bx, 0, none⟩)] encZ (fun ss => ss.Perm (intKeys D)) (Maps.size D) w :=
    AnyZI.keys_gives (ρ := keysARen) { keysA with } Fence.wide _ trivial rfl (by omega) bx m es.size D w hBm hbx hown
  have cS := AnyZI.sorted_in sortedA Fence.wide 5 trivial trivial trivial trivial rfl (by omega) (sortsA _) (enters_of Tryz.func133 (by kernel_rfl) rfl) 134 #[.pointer (some ⟨bx, 0, none⟩)] trivial (enters_of Tryz.func134 (by kernel_rfl) rfl) _ _ hmax (by omega) _ hseq
  refine (callsIn_wide (n := 5)).1 (cS.mono ?_)
  rintro e w' ⟨v, ss, rfl, hS, hrow, hnil, hb⟩
  refine ⟨hb, v, rfl, ?_⟩
  rcases hDs with ⟨h0, rfl⟩ | ⟨x, z, h0, hz, rfl⟩
  · left
    have : ss = [] := by have := hS.length_eq; simp [intKeys] at this; exact this
    exact ⟨h0, hnil.2 this⟩
  · right
    have hss : ss = [z] := by
      have h1 : (intKeys (DataW.map [(Lit.int .i64 z, (.nil : DataW Unit))])) = [z] := rfl
      rw [h1] at hS
      exact List.perm_singleton.1 hS
    subst hss
    rcases hrow.2 with ⟨_, hc⟩ | ⟨g, cap, cur, rfl, h1, h2, h3, h4, h5, h6⟩
    · simp at hc
    · refine ⟨x, g, cap, cur, h0, rfl, by simpa using h3, h1, h2, by simpa using h5, ?_⟩
      have h7 : cur.toList.take 1 = [encZ z] := by simpa using h6
      have h8 : (cur.toList.take 1)[0]? = some (encZ z) := by rw [h7]; rfl
      rw [List.getElem?_take, if_pos (by decide), Array.getElem?_toList] at h8
      rw [h8, hz]
end Go.Proofs.YtacbfdokeiechaaGreatDoor
