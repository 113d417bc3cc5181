/- Conversions, texts out of bytes, lengths, smaller built-ins. -/
import Derived.Test.YtacbfdokeiechaaGreatDoorSxOpF
import Derived.Laws.BytesArg
import Derived.Lib.UnsafeStr
namespace Go.Sx
open Go

section
variable {C : Cx} {ρ : Env} {W : Base} {w : World} {σ : Sg} {h : SH} {tm : Tr SV} {a : Act}

theorem isU8_ok {P : Program} {t : TypeId} (h : isU8 P t = true) : P.underlying t = some (.int .u8) := by
  unfold isU8 at h
  split at h
  · rename_i hu; exact hu
  · cases h

theorem bytesAt_spec {t : Tr SV} : ∀ {n i : Nat} {l : List Nat}, bytesAt t i n = some l → l.length = n ∧ small l ∧ ∀ j, j < n → ∃ b, l[j]? = some b ∧ t.get (i + j) = some (.int .u8 (.lit (Int.ofNat b)))
  | 0, i, l, h => by simp only [bytesAt, Option.some.injEq] at h; subst h; exact ⟨rfl, by simp [small], fun j hj => absurd hj (Nat.not_lt_zero _)⟩
  | n + 1, i, l, h => by
    unfold bytesAt at h
    split at h
    · rename_i b r hv hr
      cases hc : (decide (0 ≤ b) && decide (b < 256)) with
      | false => rw [hc] at h; cases h
      | true =>
        rw [hc] at h; simp only [cond_true, Option.some.injEq] at h; subst h
        rw [Bool.and_eq_true, decide_eq_true_eq, decide_eq_true_eq] at hc
        obtain ⟨h1, h2, h3⟩ := bytesAt_spec hr
        refine ⟨by simp [h1], small_cons.2 ⟨by omega, h2⟩, fun j hj => ?_⟩
        cases j with
        | zero => exact ⟨_, rfl, by rw [Nat.add_zero, hv]; rw [show Int.ofNat b.toNat = b from by have := Int.toNat_of_nonneg hc.1; exact this]⟩
        | succ j =>
          obtain ⟨b', hb', ht⟩ := h3 j (by omega)
          exact ⟨b', by simpa using hb', by rw [← ht]; congr 1; omega⟩
    · cases h

/-- Bytes in memory. -/
theorem bytesAt_cell {p : Pl} {c : Array Value} {cs : Tr SV} {n off k : Nat} {l : List Nat} (hc : ∀ i x, cs.get i = some x → i < n ∧ ∃ V, c[p.off + i]? = some V ∧ VRel σ ρ x V) (e : bytesAt cs off k = some l) :
    ∀ j, j < k → ∃ b, l[j]? = some b ∧ b < 256 ∧ off + j < n ∧ c[p.off + off + j]? = some (.int .u8 (b : Int)) := by
  intro j hj
  obtain ⟨_, hs, h3⟩ := bytesAt_spec e
  obtain ⟨b, hb, ht⟩ := h3 j hj
  obtain ⟨hn, V, hV, hr⟩ := hc _ _ ht
  simp only [VRel, IE.ev] at hr
  obtain ⟨n, hn', rfl⟩ := hr
  obtain rfl := Option.some.inj hn'
  exact ⟨b, hb, hs b (List.mem_of_getElem? hb), hn, by rw [Nat.add_assoc]; exact hV⟩

theorem strOfNums_bytes (l : List Nat) : strOfNums (l.map fun b => Int.ofNat b) = bytes l := by
  apply ByteArray.ext
  apply Array.ext'
  rw [strOfNums_data, bytes_data, List.map_map]
  rfl

/-- Numbers of a kind turned to another one; texts; bytes; pointers without a type. -/
theorem convS_ok (hh : Hints C ρ) (r : HRel C ρ W σ h w) {src dst : TypeId} {x v : SV} {X : Value} {h' : SH} (e : convS C h h.next src dst x = some (v, h')) (hx : VRel σ ρ x X) :
    OpOk C ρ W σ w (do pure (.value (← convert src dst X))) (.val v h') := by
  unfold convS at e
  split at e
  case h_1 d k k' m hsrc hdst =>
    simp only [Option.some.injEq, Prod.mk.injEq] at e; obtain ⟨rfl, rfl⟩ := e
    simp only [VRel] at hx; obtain ⟨n, hn, rfl⟩ := hx
    refine OpOk.val (Sg.le_refl _) (V := .int k (k.wrap n)) ?_ ?_ r
    · simp only [convert, Sem.run_bind, run_underlying hsrc, run_underlying hdst, Result.andThen_ok]
      cases d <;> rfl
    · simp only [VRel]
      refine ⟨k.wrap n, ?_, rfl⟩
      split
      · simp only [IE.ev, Option.some.injEq] at hn ⊢; rw [hn]
      · rw [hint_i hh]; simp [IE.ev, hn]
  case h_2 d s hsrc hdst =>
    simp only [Option.some.injEq, Prod.mk.injEq] at e; obtain ⟨rfl, rfl⟩ := e
    have hX : ∃ S, X = .string S := by cases s <;> simp only [VRel] at hx <;> obtain ⟨_, h⟩ := hx <;> first | exact ⟨_, h⟩ | exact ⟨_, h.2⟩
    obtain ⟨S, rfl⟩ := hX
    refine OpOk.val (Sg.le_refl _) (V := .string S) ?_ hx r
    simp only [convert, Sem.run_bind, run_underlying hsrc, run_underlying hdst, Result.andThen_ok]
    cases d <;> rfl
  case h_3 d el l hsrc hdst =>
    cases hc : (isU8 C.P el && Nat.ble (lenL l) 16777216) with
    | false => rw [hc] at e; cases e
    | true =>
      rw [hc] at e; simp only [cond_true, Option.some.injEq, Prod.mk.injEq] at e; obtain ⟨rfl, rfl⟩ := e
      rw [Bool.and_eq_true, ble_true, lenL_eq] at hc
      have hu8 := isU8_ok hc.1
      simp only [VRel] at hx; obtain ⟨hs, rfl⟩ := hx
      -- the new row
      let q := Question.appendCap (bytes l).size 0 el
      let nc := q.cut (w.tape w.drawn q)
      have hnc : (bytes l).size ≤ nc := by simp [nc, q, Question.cut]
      let cells : Array Value := (bytes l).data.map (fun b => .int .u8 b.toNat) ++ Array.replicate (nc - (bytes l).size) (.int .u8 0)
      have hcs : cells.size = nc := by
        have : (bytes l).data.size = (bytes l).size := rfl
        simp only [cells, Array.size_append, Array.size_map, Array.size_replicate]; omega
      have hb : BRel σ ρ ⟨w.heap.size, 0, nc⟩ (.cells (trOf (l.map fun b => SV.int .u8 (.lit (Int.ofNat b))) 0 .nil) (lenL l) el true .tail) (.cells cells el (nc, nc + 1)) := by
        rw [bytes_size] at hnc
        refine ⟨cells, (nc, nc + 1), rfl, by simp [hcs], by rw [lenL_eq]; exact hnc, (fun h => by cases h), ?_, .inr (by simp), rfl⟩
        · intro i x hx
          rw [get_trOf] at hx
          by_cases ci : 0 ≤ i ∧ i < 0 + (l.map fun b => SV.int .u8 (.lit (Int.ofNat b))).length
          · rw [if_pos ci] at hx
            rw [List.length_map] at ci
            simp only [Nat.sub_zero, List.getElem?_map] at hx
            cases hb : l[i]? with
            | none => rw [hb] at hx; cases hx
            | some b =>
              rw [hb] at hx; simp only [Option.map_some, Option.some.injEq] at hx; subst hx
              have hb256 := hs b (List.mem_of_getElem? hb)
              refine ⟨by rw [lenL_eq]; omega, .int .u8 b, ?_, by simp [VRel, IE.ev]⟩
              have hd : (bytes l).data[i]? = some (UInt8.ofNat b) := by
                rw [← Array.getElem?_toList, bytes_data, List.getElem?_map, hb]; rfl
              have hi : i < (bytes l).data.size := (Array.getElem?_eq_some_iff.1 hd).1
              rw [Nat.zero_add, Array.getElem?_append_left (by simpa using hi), Array.getElem?_map, hd]
              simp [toNat_of hb256]
          · rw [if_neg ci] at hx; simp at hx
      have hpush := (r.push nc hb).draw (w.drawn + 1)
      refine OpOk.val (r.le_put _) (V := .slice (some ⟨w.heap.size, 0, none⟩) (bytes l).size nc) ?_ ?_ hpush
      · have hfr : ∀ (ww : World), ww.heap = w.heap.push (.cells cells el) → ww.freeze { block := w.heap.size, off := nc } 1 = { ww with heap := w.heap.push (.cells cells el (nc, nc + 1)) } := by
          intro ww hww
          unfold World.freeze
          rw [if_neg (by omega)]
          congr 1
          rw [hww]
          apply Array.ext_getElem?
          intro i
          rw [Array.getElem?_modify]
          by_cases hi : w.heap.size = i
          · subst hi; simp
          · rw [if_neg hi]
            rw [Array.getElem?_push, Array.getElem?_push, if_neg (Ne.symm hi), if_neg (Ne.symm hi)]
        have hsh : ∀ (ww : World), ww.heap = w.heap.push (.cells cells el) → ww.shape? w.heap.size = some (el, nc) := by
          intro ww hww; unfold World.shape?; rw [hww]; simp [hcs]
        have h1 : (convert src dst (.string (bytes l))).run C.P w = (Conv.stringToBytes el (bytes l)).run C.P w := by
          simp only [convert, Sem.run_bind, run_underlying hsrc, run_underlying hdst, Result.andThen_ok]
          cases d <;> simp only [run_underlying hu8, Result.andThen_ok]
        rw [h1]
        unfold Conv.stringToBytes
        simp only [Sem.run_bind, run_choose, Question.forced, Bool.false_eq_true, if_false, Result.andThen_ok]
        simp only [newRow, Sem.run_bind, run_newObj, Sem.run_pure, Result.andThen_ok, markStringish, run_shape]
        rw [hsh _ rfl]
        simp only [run_freeze, Result.andThen_ok]
        rw [hfr _ rfl]
      · rw [bytes_size] at hnc ⊢
        rw [lenL_eq]
        exact newWide nc l.length 1 nc hnc (by omega)
  case h_4 el hsrc hdst =>
    cases hc : isU8 C.P el with
    | false => rw [hc] at e; cases e
    | true =>
      rw [hc] at e; simp only [cond_true, Option.some.injEq, Prod.mk.injEq] at e; obtain ⟨rfl, rfl⟩ := e
      simp only [VRel] at hx; subst hx
      refine OpOk.val (Sg.le_refl _) (run_convert_bytes_nil w src el hsrc (isU8_ok hc) 0 0 dst hdst) ?_ r
      simp only [VRel]; exact ⟨by simp [small], rfl⟩
  case h_5 el i o n room hsrc hdst =>
    cases hc : isU8 C.P el with
    | false => rw [hc] at e; cases e
    | true =>
      rw [hc] at e; simp only [cond_true] at e
      cases hb : bytesOfS h (.slice i o n room) with
      | none => rw [hb] at e; cases e
      | some l =>
        rw [hb] at e; simp only [Option.map_some, Option.some.injEq, Prod.mk.injEq] at e; obtain ⟨rfl, rfl⟩ := e
        simp only [bytesOfS] at hb
        split at hb
        · rename_i cs m el' more f hg
          obtain ⟨p, c, fz, hp, hw, _, _, _, hcc, _⟩ := r.cells hg
          have hX : ∃ cap, X = .slice (some ⟨p.block, p.off + o, none⟩) n cap := by
            cases room <;> simp only [VRel] at hx
            · obtain ⟨p', hp', rfl⟩ := hx; rw [hp] at hp'; obtain rfl := Option.some.inj hp'; exact ⟨_, rfl⟩
            · obtain ⟨p', c, hp', rfl, _⟩ := hx; rw [hp] at hp'; obtain rfl := Option.some.inj hp'; exact ⟨_, rfl⟩
          obtain ⟨cap, rfl⟩ := hX
          obtain ⟨hl, hs, _⟩ := bytesAt_spec hb
          have := run_convert_bytes_arg (P := C.P) w src el hsrc (isU8_ok hc) p.block (p.off + o) n cap (l.map fun b => Int.ofNat b) (by simp [hl]) (fun j hj => by
            obtain ⟨b, hb', _, _, hcell⟩ := bytesAt_cell hcc hb j hj
            rw [cell_of hw, hcell, List.getD_eq_getElem?_getD, List.getElem?_map, hb']
            rfl) dst hdst
          rw [strOfNums_bytes] at this
          exact OpOk.val (Sg.le_refl _) this (by simp only [VRel]; exact ⟨hs, trivial⟩) r
        · cases hb
  case h_6 t i o hsrc hdst =>
    split at e
    · rename_i cs n el more f k hg hs
      cases hb : Nat.blt o n with
      | false => rw [hb] at e; cases e
      | true =>
        rw [hb] at e; simp only [cond_true, Option.some.injEq, Prod.mk.injEq] at e; obtain ⟨rfl, rfl⟩ := e
        have hlt := blt_true.1 hb
        obtain ⟨p, c, fz, hp, hw, hsz, hn, _, _, _, hoff⟩ := r.cells hg
        have hx' := hx
        simp only [VRel] at hx; obtain ⟨p', hp', rfl⟩ := hx
        rw [hp] at hp'; obtain rfl := Option.some.inj hp'
        refine OpOk.val (Sg.le_refl _) (V := .pointer (some ⟨p.block, p.off + o, none⟩)) ?_ hx' r
        have hnot : ¬ c.size ≤ p.off + o := by omega
        simp only [convert, Sem.run_bind, run_underlying hsrc, run_underlying hdst, Result.andThen_ok, Conv.unsafePointer, Conv.seenAt, viewAt, run_shape, shape_of hw]
        simp [cellsIn, shape_of hw, run_sizeOf hs, hnot]
    · cases e
  case h_7 u i o hsrc hdst =>
    split at e
    · rename_i cs n el f k hg hs
      cases hb : liesAt C.P C.P.depth el (n / C.P.cellsOf el) o u 1 with
      | false => rw [hb] at e; cases e
      | true =>
        rw [hb] at e; simp only [cond_true, Option.some.injEq, Prod.mk.injEq] at e; obtain ⟨rfl, rfl⟩ := e
        obtain ⟨p, c, fz, hp, hw, hsz, hn, hmore, _, _, hoff⟩ := r.cells hg
        obtain ⟨hnp, _⟩ := hmore rfl
        have hx' := hx
        simp only [VRel] at hx; obtain ⟨p', hp', rfl⟩ := hx
        rw [hp] at hp'; obtain rfl := Option.some.inj hp'
        refine OpOk.val (Sg.le_refl _) (V := .pointer (some ⟨p.block, p.off + o, none⟩)) ?_ hx' r
        have hcn : c.size = n := by omega
        simp only [convert, Sem.run_bind, run_underlying hsrc, run_underlying hdst, Result.andThen_ok, Conv.unsafePointer, Conv.seenAt, viewAt, run_shape, shape_of hw]
        simp [variablesAt, shape_of hw, run_sizeOf hs, hcn, hoff, hb]
    · cases e
  case h_8 => cases e
end
end Go.Sx
