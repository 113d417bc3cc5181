/- Texts and constants: what the runner reckons is what the operations give. -/
import Derived.Test.YtacbfdokeiechaaGreatDoorSxNum
import Derived.Laws.Strings2
import Derived.Lib.Strings
import Derived.Laws.Concat
import Derived.Laws.StructEq
namespace Go.Sx
open Go

theorem bytes_size (l : List Nat) : (bytes l).size = l.length := by simp [bytes, ByteArray.size]
theorem bytes_data (l : List Nat) : (bytes l).data.toList = l.map UInt8.ofNat := by simp [bytes]
theorem bytes_toList (l : List Nat) : (bytes l).toList = l.map UInt8.ofNat := by rw [ByteArray.toList_eq]; exact bytes_data l
theorem toNat_of {b : Nat} (h : b < 256) : (UInt8.ofNat b).toNat = b := by simp [UInt8.toNat_ofNat']; omega
theorem small_cons {a : Nat} {l : List Nat} : small (a :: l) ↔ a < 256 ∧ small l := by simp [small]
theorem small_append {a b : List Nat} (h : small a) (g : small b) : small (a ++ b) := by
  intro x hx; rcases List.mem_append.1 hx with hx | hx
  · exact h x hx
  · exact g x hx
theorem small_take {a : List Nat} (h : small a) (n : Nat) : small (a.take n) := fun x hx => h x (List.mem_of_mem_take hx)
theorem small_drop {a : List Nat} (h : small a) (n : Nat) : small (a.drop n) := fun x hx => h x (List.mem_of_mem_drop hx)
theorem map_ofNat_inj : ∀ {a b : List Nat}, small a → small b → a.map UInt8.ofNat = b.map UInt8.ofNat → a = b
  | [], [], _, _, _ => rfl
  | [], _ :: _, _, _, h => by simp at h
  | _ :: _, [], _, _, h => by simp at h
  | x :: a, y :: b, hx, hy, h => by
    simp only [List.map_cons, List.cons.injEq] at h
    rw [small_cons] at hx hy
    have h1 := congrArg UInt8.toNat h.1
    rw [toNat_of hx.1, toNat_of hy.1] at h1
    rw [h1, map_ofNat_inj hx.2 hy.2 h.2]
theorem eq_small {a b : List Nat} (ha : small a) (hb : small b) : (a.map UInt8.ofNat == b.map UInt8.ofNat) = decide (a = b) := by
  by_cases h : a = b
  · simp [h]
  · rw [decide_eq_false h]
    simp only [beq_eq_false_iff_ne, ne_eq]
    exact fun e => h (map_ofNat_inj ha hb e)
theorem bytes_inj {a b : List Nat} (ha : small a) (hb : small b) (h : bytes a = bytes b) : a = b := by
  have := congrArg (fun s => s.data.toList) h
  simp only [bytes_data] at this
  exact map_ofNat_inj ha hb this
theorem bytes_beq {a b : List Nat} (ha : small a) (hb : small b) : (bytes a == bytes b) = decide (a = b) := by
  rw [beq_toListBytes, bytes_toList, bytes_toList, eq_small ha hb]
theorem less_small : ∀ {a b : List Nat}, small a → small b → Op.bytesLess (a.map UInt8.ofNat) (b.map UInt8.ofNat) = lessL a b
  | _, [], _, _ => by cases ‹List Nat› <;> simp [Op.bytesLess, lessL]
  | [], _ :: _, _, _ => by simp [Op.bytesLess, lessL]
  | x :: a, y :: b, hx, hy => by
    rw [small_cons] at hx hy
    simp only [List.map_cons, Op.bytesLess, lessL, less_small hx.2 hy.2]
    have h1 : decide (UInt8.ofNat x < UInt8.ofNat y) = Nat.blt x y := by
      rw [Bool.eq_iff_iff, blt_true, decide_eq_true_eq, UInt8.lt_iff_toNat_lt, toNat_of hx.1, toNat_of hy.1]
    have h2 : (UInt8.ofNat x == UInt8.ofNat y) = Nat.beq x y := by
      rw [Bool.eq_iff_iff, beq_true, beq_iff_eq]
      constructor
      · intro e; have := congrArg UInt8.toNat e; rwa [toNat_of hx.1, toNat_of hy.1] at this
      · rintro rfl; rfl
    rw [h1, h2]
theorem less_flip : ∀ (a b : List UInt8), Op.bytesLess b a = !(Op.bytesLess a b || a == b)
  | [], [] => by simp [Op.bytesLess]
  | [], _ :: _ => by simp [Op.bytesLess]
  | _ :: _, [] => by simp [Op.bytesLess]
  | x :: a, y :: b => by
    simp only [Op.bytesLess, less_flip a b]
    by_cases h1 : x < y
    · have h2 : ¬ y < x := fun h => absurd (UInt8.lt_iff_toNat_lt.1 h) (by have := UInt8.lt_iff_toNat_lt.1 h1; omega)
      have h3 : (y == x) = false := by simp only [beq_eq_false_iff_ne]; rintro rfl; exact h2 h1
      simp [h1, h2, h3]
    · by_cases h2 : y < x
      · have h3 : (x == y) = false := by simp only [beq_eq_false_iff_ne]; rintro rfl; exact h1 h2
        simp [h1, h2, h3]
      · have : x = y := UInt8.toNat_inj.1 (by have := mt UInt8.lt_iff_toNat_lt.2 h1; have := mt UInt8.lt_iff_toNat_lt.2 h2; omega)
        subst this
        simp [h1]
theorem bytes_append (a b : List Nat) : bytes a ++ bytes b = bytes (a ++ b) := by
  simp [bytes, ByteArray.mk_append_mk]
theorem bytes_extract (l : List Nat) (a b : Nat) : (bytes l).extract a b = bytes ((l.drop a).take (b - a)) := by
  unfold bytes
  rw [ByteArray.extract_mk, List.map_take, List.map_drop]
theorem bytes_get {l : List Nat} {k b : Nat} (h : l[k]? = some b) : (bytes l)[k]? = some (UInt8.ofNat b) := by
  have hk : k < l.length := (List.getElem?_eq_some_iff.1 h).1
  have hb : l[k] = b := (List.getElem?_eq_some_iff.1 h).2
  rw [ByteArray.getElem?_lt' _ _ (by rw [bytes_size]; exact hk)]
  congr 1
  show (bytes l).data[k]'_ = _
  simp [bytes, hb]
theorem bytes_of_map (s : ByteArray) : bytes (s.data.toList.map UInt8.toNat) = s := by
  unfold bytes
  rw [List.map_map]
  have : (UInt8.ofNat ∘ UInt8.toNat) = id := by funext b; simp
  rw [this, List.map_id]
theorem small_map (l : List UInt8) : small (l.map UInt8.toNat) := by
  intro b hb
  obtain ⟨x, _, rfl⟩ := List.mem_map.1 hb
  exact x.toNat_lt

section
variable {σ : Sg} {ρ : Env}
theorem str_rel {x : SE} {V : Value} : VRel σ ρ (.str x) V ↔ ∃ b, x.ev ρ = some b ∧ V = .string b := by
  cases x with
  | lit l =>
    simp only [VRel, SE.ev]
    constructor
    · rintro ⟨h, rfl⟩; exact ⟨_, by rw [if_pos h], rfl⟩
    · rintro ⟨b, h, rfl⟩
      by_cases c : small l
      · rw [if_pos c] at h; exact ⟨c, by rw [Option.some.inj h]⟩
      · rw [if_neg c] at h; cases h
  | var i => simp only [VRel, SE.ev]
  | cat a b => simp only [VRel]
  | sub a l h => simp only [VRel]
theorem str_ev {x : SE} {b : ByteArray} : VRel σ ρ (.str x) (.string b) ↔ x.ev ρ = some b := by
  rw [str_rel]
  constructor
  · rintro ⟨c, h, e⟩; obtain rfl := Value.string.inj e; exact h
  · exact fun h => ⟨_, h, rfl⟩
theorem lenE_ok : ∀ {x : SE} {b : ByteArray}, x.ev ρ = some b → (lenE x).ev ρ = some (b.size : Int)
  | .lit l, b, h => by
    simp only [SE.ev] at h
    by_cases c : small l
    · rw [if_pos c] at h; obtain rfl := Option.some.inj h
      simp only [lenE, IE.ev, lenL_eq, bytes_size]; rfl
    · rw [if_neg c] at h; cases h
  | .var i, b, h => by
    simp only [SE.ev] at h
    simp only [lenE, IE.ev, h, Option.map_some]
  | .cat x y, b, h => by
    simp only [SE.ev] at h
    split at h
    · rename_i u v hu hv
      obtain rfl := Option.some.inj h
      simp only [lenE, IE.ev, lenE_ok hu, lenE_ok hv, op2, ByteArray.size_append]
      simp
    · cases h
  | .sub x lo hi, b, h => by
    simp only [SE.ev] at h
    split at h
    · rename_i u l m hu hl hm
      split at h
      · rename_i hc
        obtain rfl := Option.some.inj h
        simp only [lenE, IE.ev, hl, hm, op2, ByteArray.size_extract, Option.some.injEq]
        omega
      · cases h
    · cases h
theorem isTrue_iff {e : BE} : isTrue e = true ↔ e = .lit true := by
  unfold isTrue; split <;> simp_all
/-- What is told of a condition. -/
theorem told_true {C : Cx} (hh : Hints C ρ) {e : BE} {c : Bool} (h : isTrue (C.b e) = true) (he : e.ev ρ = some c) : c = true := by
  have := hint_b hh he
  rw [isTrue_iff.1 h] at this
  simpa [BE.ev] using this.symm
theorem litB_ok {C : Cx} (hh : Hints C ρ) {e : BE} {b c : Bool} (h : litB (C.b e) = some b) (he : e.ev ρ = some c) : c = b := by
  have := hint_b hh he
  unfold litB at h
  split at h
  · rename_i x hx
    obtain rfl := Option.some.inj h
    rw [hx] at this; simpa [BE.ev] using this.symm
  · cases h

theorem strOp_ok {C : Cx} (hh : Hints C ρ) {op : BinOp} {x y : SE} {r : SV} {s u : ByteArray} (h : strOp C op x y = some r) (hx : VRel σ ρ (.str x) (.string s)) (hy : VRel σ ρ (.str y) (.string u)) (t : TypeId) :
    ∃ V, VRel σ ρ r V ∧ ∀ P, Gives P (binOp op t (.string s) (.string u)) V := by
  have hX := str_ev.1 hx
  have hY := str_ev.1 hy
  unfold strOp at h
  split at h
  all_goals try contradiction
  case h_8 =>
    cases e : isTrue (C.b (.le (.add (lenE x) (lenE y)) (.lit 9223372036854775807))) <;> rw [e] at h
    · cases h
    · obtain rfl := Option.some.inj h
      have hb : s.size + u.size ≤ 9223372036854775807 := by
        have := told_true hh e (c := decide ((s.size : Int) + u.size ≤ 9223372036854775807)) (by simp only [BE.ev, IE.ev, lenE_ok hX, lenE_ok hY, op2, op2b])
        simp only [decide_eq_true_eq] at this; omega
      refine ⟨.string (s ++ u), str_ev.2 (by rw [hint_s hh]; simp only [SE.ev, hX, hY]), fun P w => ?_⟩
      rw [show binOp .add t (.string s) (.string u) = Op.stringOp .add s u from by simp [binOp]]
      exact run_string_add_sum _ _ _ hb
  case h_9 =>
    by_cases c : x = y
    · rw [decide_eq_true c] at h; obtain rfl := Option.some.inj h
      have : s = u := by rw [c, hY] at hX; exact (Option.some.inj hX).symm
      exact ⟨.bool (s.toList == u.toList), by simp [VRel, BE.ev, this], fun P w => by rw [binOp_string_eql]; rfl⟩
    · rw [decide_eq_false c] at h; obtain rfl := Option.some.inj h
      exact ⟨.bool (s.toList == u.toList), by simp only [VRel]; exact ⟨_, hint_b hh (by simp only [BE.ev, hX, hY, opSb]), rfl⟩, fun P w => by rw [binOp_string_eql]; rfl⟩
  case h_10 =>
    by_cases c : x = y
    · rw [decide_eq_true c] at h; obtain rfl := Option.some.inj h
      have : s = u := by rw [c, hY] at hX; exact (Option.some.inj hX).symm
      exact ⟨.bool (!(s.toList == u.toList)), by simp [VRel, BE.ev, this], fun P w => by rw [binOp_string_neq]; rfl⟩
    · rw [decide_eq_false c] at h; obtain rfl := Option.some.inj h
      exact ⟨.bool (!(s.toList == u.toList)), by simp only [VRel]; exact ⟨_, hint_b hh (by simp only [BE.ev, hX, hY, opSb, Option.map_some]), rfl⟩, fun P w => by rw [binOp_string_neq]; rfl⟩
  case h_11 => obtain rfl := Option.some.inj h; exact ⟨.bool (Op.bytesLess s.toList u.toList), by simp only [VRel]; exact ⟨_, hint_b hh (by simp only [BE.ev, hX, hY, opSb]), rfl⟩, fun P w => by simp only [binOp, Op.stringOp]; rfl⟩
  case h_12 => obtain rfl := Option.some.inj h; exact ⟨.bool (!(Op.bytesLess s.toList u.toList || s.toList == u.toList)), by simp only [VRel]; exact ⟨_, hint_b hh (by simp only [BE.ev, hX, hY, opSb]; rw [less_flip]), rfl⟩, fun P w => by simp only [binOp, Op.stringOp]; rfl⟩
  case h_13 => obtain rfl := Option.some.inj h; exact ⟨.bool (Op.bytesLess s.toList u.toList || s.toList == u.toList), by simp only [VRel]; exact ⟨_, hint_b hh (by simp only [BE.ev, hX, hY, opSb, Option.map_some]; rw [less_flip, Bool.not_not]), rfl⟩, fun P w => by simp only [binOp, Op.stringOp]; rfl⟩
  case h_14 => obtain rfl := Option.some.inj h; exact ⟨.bool (!Op.bytesLess s.toList u.toList), by simp only [VRel]; exact ⟨_, hint_b hh (by simp only [BE.ev, hX, hY, opSb, Option.map_some]), rfl⟩, fun P w => by simp only [binOp, Op.stringOp]; rfl⟩
  all_goals (
    rename_i a b
    simp only [VRel, Value.string.injEq] at hx hy
    obtain ⟨hx1, rfl⟩ := hx
    obtain ⟨hy1, rfl⟩ := hy)
  case h_1 a b =>
    cases e : Nat.ble (lenL a + lenL b) 16777216 <;> rw [e] at h
    · cases h
    · obtain rfl := Option.some.inj h
      have e' := ble_true.1 e
      simp only [lenL_eq] at e'
      refine ⟨.string (bytes a ++ bytes b), ?_, fun P w => ?_⟩
      · simp only [VRel]; exact ⟨small_append hx1 hy1, by rw [bytes_append]⟩
      · rw [show binOp .add t (.string (bytes a)) (.string (bytes b)) = Op.stringOp .add (bytes a) (bytes b) from by simp [binOp]]
        exact run_string_add_sum _ _ _ (by rw [bytes_size, bytes_size]; omega)
  case h_2 a b => obtain rfl := Option.some.inj h; exact ⟨.bool (decide (a = b)), by simp [VRel, BE.ev], fun P w => by rw [binOp_string_eql, bytes_toList, bytes_toList, eq_small hx1 hy1]; rfl⟩
  case h_3 a b => obtain rfl := Option.some.inj h; exact ⟨.bool (!decide (a = b)), by simp only [VRel, BE.ev, eqL_eq]; exact ⟨_, rfl, rfl⟩, fun P w => by rw [binOp_string_neq, bytes_toList, bytes_toList, eq_small hx1 hy1]; rfl⟩
  case h_4 a b => obtain rfl := Option.some.inj h; exact ⟨.bool (lessL a b), by simp [VRel, BE.ev], fun P w => by rw [binOp_string_lss, bytes_toList, bytes_toList, less_small hx1 hy1]; rfl⟩
  case h_5 a b => obtain rfl := Option.some.inj h; exact ⟨.bool (lessL a b || decide (a = b)), by simp [VRel, BE.ev], fun P w => by simp only [binOp, Op.stringOp]; rw [bytes_toList, bytes_toList, less_small hx1 hy1, eq_small hx1 hy1]; rfl⟩
  case h_6 a b => obtain rfl := Option.some.inj h; exact ⟨.bool (!(lessL a b || decide (a = b))), by simp [VRel, BE.ev], fun P w => by simp only [binOp, Op.stringOp]; rw [bytes_toList, bytes_toList, less_small hx1 hy1, eq_small hx1 hy1]; rfl⟩
  case h_7 a b => obtain rfl := Option.some.inj h; exact ⟨.bool (!lessL a b), by simp [VRel, BE.ev], fun P w => by simp only [binOp, Op.stringOp]; rw [bytes_toList, bytes_toList, less_small hx1 hy1]; rfl⟩

mutual
theorem ofVal_ok : ∀ (V : Value) (v : SV), ofVal V = some v → VRel σ ρ v V
  | .bool b, v, h => by simp only [ofVal, Option.some.injEq] at h; subst h; simp [VRel, BE.ev]
  | .int k n, v, h => by simp only [ofVal, Option.some.injEq] at h; subst h; simp [VRel, IE.ev]
  | .float _ _, v, h => by simp [ofVal] at h
  | .complex _ _ _, v, h => by simp [ofVal] at h
  | .string s, v, h => by
    simp only [ofVal, Option.some.injEq] at h; subst h
    simp only [VRel]; exact ⟨small_map _, by rw [bytes_of_map]⟩
  | .pointer none, v, h => by simp only [ofVal, Option.some.injEq] at h; subst h; simp [VRel]
  | .pointer (some _), v, h => by simp [ofVal] at h
  | .slice none l c, v, h => by
    cases l with
    | zero => cases c with
      | zero => simp only [ofVal, Option.some.injEq] at h; subst h; simp [VRel]
      | succ c => simp [ofVal] at h
    | succ l => simp [ofVal] at h
  | .slice (some _) _ _, v, h => by simp [ofVal] at h
  | .map none, v, h => by simp only [ofVal, Option.some.injEq] at h; subst h; simp [VRel]
  | .map (some _), v, h => by simp [ofVal] at h
  | .chan _, v, h => by simp [ofVal] at h
  | .func _ _ _, v, h => by simp [ofVal] at h
  | .nilFunc, v, h => by simp only [ofVal, Option.some.injEq] at h; subst h; simp [VRel]
  | .iface t x, v, h => by
    simp only [ofVal] at h
    cases e : ofVal x with
    | none => rw [e] at h; cases h
    | some y => rw [e] at h; simp at h; subst h; simp only [VRel]; exact ⟨x, rfl, ofVal_ok x y e⟩
  | .nilIface, v, h => by simp only [ofVal, Option.some.injEq] at h; subst h; simp [VRel]
  | .agg cs, v, h => by
    simp only [ofVal] at h
    cases e : ofVals cs.toList with
    | none => rw [e] at h; cases h
    | some y => rw [e] at h; simp at h; subst h; simp only [VRel]; exact ⟨cs, rfl, ofVals_ok cs.toList y e⟩
  | .tuple cs, v, h => by
    simp only [ofVal] at h
    cases e : ofVals cs.toList with
    | none => rw [e] at h; cases h
    | some y => rw [e] at h; simp at h; subst h; simp only [VRel]; exact ⟨cs, rfl, ofVals_ok cs.toList y e⟩
theorem ofVals_ok : ∀ (V : List Value) (v : List SV), ofVals V = some v → VRels σ ρ v V
  | [], v, h => by simp only [ofVals, Option.some.injEq] at h; subst h; simp [VRels]
  | x :: r, v, h => by
    simp only [ofVals] at h
    cases e : ofVal x with
    | none => rw [e] at h; simp at h
    | some y =>
      cases e2 : ofVals r with
      | none => rw [e, e2] at h; simp at h
      | some l => rw [e, e2] at h; simp at h; subst h; simp only [VRels]; exact ⟨x, r, rfl, ofVal_ok x y e, ofVals_ok r l e2⟩
end
end
end Go.Sx
