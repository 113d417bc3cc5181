/- Texts and constants: what the runner reckons is what the operations give. -/
import Derived.Test.YtgmpjhlgdicanaaGreatDoorSxNum
import Derived.Laws.Strings2
import Derived.Lib.Strings
import Derived.Laws.Concat
import Derived.Laws.StructEq
namespace Go.Sx
open Go

theorem bytes_size (l : List Nat) : (bytes l).size = l.length := by simp [bytes, ByteArray.size]
theorem bytes_data (l : List Nat) : (bytes l).data.toList = l.map UInt8.ofNat := by simp [bytes]
theorem bytes_toList (l : List Nat) : (bytes l).toList = l.map UInt8.ofNat := by rw [ByteArray.toList_eq]; exact bytes_data l
theorem toNat_of {b : Nat} (h : b < 256) : (UInt8.ofNat b).toNat = b := by simp [UInt8.toNat_ofNat']; omega
theorem small_cons {a : Nat} {l : List Nat} : small (a :: l) ↔ a < 256 ∧ small l := by simp [small]
theorem small_append {a b : List Nat} (h : small a) (g : small b) : small (a ++ b) := by
  intro x hx; rcases List.mem_append.1 hx with hx | hx
  · exact h x hx
  · exact g x hx
theorem small_take {a : List Nat} (h : small a) (n : Nat) : small (a.take n) := fun x hx => h x (List.mem_of_mem_take hx)
theorem small_drop {a : List Nat} (h : small a) (n : Nat) : small (a.drop n) := fun x hx => h x (List.mem_of_mem_drop hx)
theorem map_ofNat_inj : ∀ {a b : List Nat}, small a → small b → a.map UInt8.ofNat = b.map UInt8.ofNat → a = b
  | [], [], _, _, _ => rfl
  | [], _ :: _, _, _, h => by simp at h
  | _ :: _, [], _, _, h => by simp at h
  | x :: a, y :: b, hx, hy, h => by
    simp only [List.map_cons, List.cons.injEq] at h
    rw [small_cons] at hx hy
    have h1 := congrArg UInt8.toNat h.1
    rw [toNat_of hx.1, toNat_of hy.1] at h1
    rw [h1, map_ofNat_inj hx.2 hy.2 h.2]
theorem eq_small {a b : List Nat} (ha : small a) (hb : small b) : (a.map UInt8.ofNat == b.map UInt8.ofNat) = decide (a = b) := by
  by_cases h : a = b
  · simp [h]
  · rw [decide_eq_false h]
    simp only [beq_eq_false_iff_ne, ne_eq]
    exact fun e => h (map_ofNat_inj ha hb e)
theorem bytes_inj {a b : List Nat} (ha : small a) (hb : small b) (h : bytes a = bytes b) : a = b := by
  have := congrArg (fun s => s.data.toList) h
  simp only [bytes_data] at this
  exact map_ofNat_inj ha hb this
theorem bytes_beq {a b : List Nat} (ha : small a) (hb : small b) : (bytes a == bytes b) = decide (a = b) := by
  rw [beq_toListBytes, bytes_toList, bytes_toList, eq_small ha hb]
theorem less_small : ∀ {a b : List Nat}, small a → small b → Op.bytesLess (a.map UInt8.ofNat) (b.map UInt8.ofNat) = lessL a b
  | _, [], _, _ => by cases ‹List Nat› <;> simp [Op.bytesLess, lessL]
  | [], _ :: _, _, _ => by simp [Op.bytesLess, lessL]
  | x :: a, y :: b, hx, hy => by
    rw [small_cons] at hx hy
    simp only [List.map_cons, Op.bytesLess, lessL, less_small hx.2 hy.2]
    have h1 : decide (UInt8.ofNat x < UInt8.ofNat y) = Nat.blt x y := by
      rw [Bool.eq_iff_iff, blt_true, decide_eq_true_eq, UInt8.lt_iff_toNat_lt, toNat_of hx.1, toNat_of hy.1]
    have h2 : (UInt8.ofNat x == UInt8.ofNat y) = Nat.beq x y := by
      rw [Bool.eq_iff_iff, beq_true, beq_iff_eq]
      constructor
      · intro e; have := congrArg UInt8.toNat e; rwa [toNat_of hx.1, toNat_of hy.1] at this
      · rintro rfl; rfl
    rw [h1, h2]
theorem bytes_append (a b : List Nat) : bytes a ++ bytes b = bytes (a ++ b) := by
  simp [bytes, ByteArray.mk_append_mk]
theorem bytes_extract (l : List Nat) (a b : Nat) : (bytes l).extract a b = bytes ((l.drop a).take (b - a)) := by
  unfold bytes
  rw [ByteArray.extract_mk, List.map_take, List.map_drop]
theorem bytes_get {l : List Nat} {k b : Nat} (h : l[k]? = some b) : (bytes l)[k]? = some (UInt8.ofNat b) := by
  have hk : k < l.length := (List.getElem?_eq_some_iff.1 h).1
  have hb : l[k] = b := (List.getElem?_eq_some_iff.1 h).2
  rw [ByteArray.getElem?_lt' _ _ (by rw [bytes_size]; exact hk)]
  congr 1
  show (bytes l).data[k]'_ = _
  simp [bytes, hb]
theorem bytes_of_map (s : ByteArray) : bytes (s.data.toList.map UInt8.toNat) = s := by
  unfold bytes
  rw [List.map_map]
  have : (UInt8.ofNat ∘ UInt8.toNat) = id := by funext b; simp
  rw [this, List.map_id]
theorem small_map (l : List UInt8) : small (l.map UInt8.toNat) := by
  intro b hb
  obtain ⟨x, _, rfl⟩ := List.mem_map.1 hb
  exact x.toNat_lt

section
variable {σ : Sg} {ρ : Env}
theorem strOp_ok {op : BinOp} {x y : SE} {r : SV} {s u : ByteArray} (h : strOp op x y = some r) (hx : VRel σ ρ (.str x) (.string s)) (hy : VRel σ ρ (.str y) (.string u)) (t : TypeId) :
    ∃ V, VRel σ ρ r V ∧ ∀ P, Gives P (binOp op t (.string s) (.string u)) V := by
  unfold strOp at h
  split at h
  all_goals try contradiction
  all_goals (
    rename_i a b
    simp only [VRel, Value.string.injEq] at hx hy
    obtain ⟨hx1, rfl⟩ := hx
    obtain ⟨hy1, rfl⟩ := hy)
  case h_1 a b =>
    cases e : Nat.ble (lenL a + lenL b) 16777216 <;> rw [e] at h
    · cases h
    · obtain rfl := Option.some.inj h
      have e' := ble_true.1 e
      simp only [lenL_eq] at e'
      refine ⟨.string (bytes a ++ bytes b), ?_, fun P w => ?_⟩
      · simp only [VRel]; exact ⟨small_append hx1 hy1, by rw [bytes_append]⟩
      · rw [show binOp .add t (.string (bytes a)) (.string (bytes b)) = Op.stringOp .add (bytes a) (bytes b) from by simp [binOp]]
        exact run_string_add_sum _ _ _ (by rw [bytes_size, bytes_size]; omega)
  case h_2 a b => obtain rfl := Option.some.inj h; exact ⟨.bool (decide (a = b)), by simp [VRel, BE.ev], fun P w => by rw [binOp_string_eql, bytes_toList, bytes_toList, eq_small hx1 hy1]; rfl⟩
  case h_3 a b => obtain rfl := Option.some.inj h; exact ⟨.bool (!decide (a = b)), by simp only [VRel, BE.ev, eqL_eq]; exact ⟨_, rfl, rfl⟩, fun P w => by rw [binOp_string_neq, bytes_toList, bytes_toList, eq_small hx1 hy1]; rfl⟩
  case h_4 a b => obtain rfl := Option.some.inj h; exact ⟨.bool (lessL a b), by simp [VRel, BE.ev], fun P w => by rw [binOp_string_lss, bytes_toList, bytes_toList, less_small hx1 hy1]; rfl⟩
  case h_5 a b => obtain rfl := Option.some.inj h; exact ⟨.bool (lessL a b || decide (a = b)), by simp [VRel, BE.ev], fun P w => by simp only [binOp, Op.stringOp]; rw [bytes_toList, bytes_toList, less_small hx1 hy1, eq_small hx1 hy1]; rfl⟩
  case h_6 a b => obtain rfl := Option.some.inj h; exact ⟨.bool (!(lessL a b || decide (a = b))), by simp [VRel, BE.ev], fun P w => by simp only [binOp, Op.stringOp]; rw [bytes_toList, bytes_toList, less_small hx1 hy1, eq_small hx1 hy1]; rfl⟩
  case h_7 a b => obtain rfl := Option.some.inj h; exact ⟨.bool (!lessL a b), by simp [VRel, BE.ev], fun P w => by simp only [binOp, Op.stringOp]; rw [bytes_toList, bytes_toList, less_small hx1 hy1]; rfl⟩

mutual
theorem ofVal_ok : ∀ (V : Value) (v : SV), ofVal V = some v → VRel σ ρ v V
  | .bool b, v, h => by simp only [ofVal, Option.some.injEq] at h; subst h; simp [VRel, BE.ev]
  | .int k n, v, h => by simp only [ofVal, Option.some.injEq] at h; subst h; simp [VRel, IE.ev]
  | .float _ _, v, h => by simp [ofVal] at h
  | .complex _ _ _, v, h => by simp [ofVal] at h
  | .string s, v, h => by
    simp only [ofVal, Option.some.injEq] at h; subst h
    simp only [VRel]; exact ⟨small_map _, by rw [bytes_of_map]⟩
  | .pointer none, v, h => by simp only [ofVal, Option.some.injEq] at h; subst h; simp [VRel]
  | .pointer (some _), v, h => by simp [ofVal] at h
  | .slice none l c, v, h => by
    cases l with
    | zero => cases c with
      | zero => simp only [ofVal, Option.some.injEq] at h; subst h; simp [VRel]
      | succ c => simp [ofVal] at h
    | succ l => simp [ofVal] at h
  | .slice (some _) _ _, v, h => by simp [ofVal] at h
  | .map none, v, h => by simp only [ofVal, Option.some.injEq] at h; subst h; simp [VRel]
  | .map (some _), v, h => by simp [ofVal] at h
  | .chan _, v, h => by simp [ofVal] at h
  | .func _ _ _, v, h => by simp [ofVal] at h
  | .nilFunc, v, h => by simp only [ofVal, Option.some.injEq] at h; subst h; simp [VRel]
  | .iface t x, v, h => by
    simp only [ofVal] at h
    cases e : ofVal x with
    | none => rw [e] at h; cases h
    | some y => rw [e] at h; simp at h; subst h; simp only [VRel]; exact ⟨x, rfl, ofVal_ok x y e⟩
  | .nilIface, v, h => by simp only [ofVal, Option.some.injEq] at h; subst h; simp [VRel]
  | .agg cs, v, h => by
    simp only [ofVal] at h
    cases e : ofVals cs.toList with
    | none => rw [e] at h; cases h
    | some y => rw [e] at h; simp at h; subst h; simp only [VRel]; exact ⟨cs, rfl, ofVals_ok cs.toList y e⟩
  | .tuple cs, v, h => by
    simp only [ofVal] at h
    cases e : ofVals cs.toList with
    | none => rw [e] at h; cases h
    | some y => rw [e] at h; simp at h; subst h; simp only [VRel]; exact ⟨cs, rfl, ofVals_ok cs.toList y e⟩
theorem ofVals_ok : ∀ (V : List Value) (v : List SV), ofVals V = some v → VRels σ ρ v V
  | [], v, h => by simp only [ofVals, Option.some.injEq] at h; subst h; simp [VRels]
  | x :: r, v, h => by
    simp only [ofVals] at h
    cases e : ofVal x with
    | none => rw [e] at h; simp at h
    | some y =>
      cases e2 : ofVals r with
      | none => rw [e, e2] at h; simp at h
      | some l => rw [e, e2] at h; simp at h; subst h; simp only [VRels]; exact ⟨x, r, rfl, ofVal_ok x y e, ofVals_ok r l e2⟩
end
end
end Go.Sx
