/- Own work: numbers and texts of a slice, and their bytes one behind the other. -/
import Derived.Test.YtfpiaeodblbfjaaNumPutB
import Derived.Test.YtfpiaeodblbfjaaOpenS
namespace Go.Proofs.YtfpiaeodblbfjaaSep
open Go.RowKit Go.Lib Go.Proofs

theorem Sl.num {w : World} {v : Value} {zs : List Int} (h : Sl w v 1 zs.length (zs.map (Value.int .u64))) (hw : ∀ x ∈ zs, (Lit.int .u64 x).wf = true) (k : Nat) (hk : k < zs.length) :
    ∃ A c y, v = .slice (some A) zs.length c ∧ w.cell? (A.add k) = some (.int .u64 ((y : Nat) : Int)) ∧ Kp (zs[k]? = some ((y : Nat) : Int)) ∧ Kp (y < 18446744073709551616) := by
  obtain ⟨A, c, rfl, hc⟩ := h.at_ k hk
  have hm := bounds_u64 (hw _ (List.getElem_mem hk))
  refine ⟨A, c, zs[k].toNat, rfl, ?_, ⟨?_⟩, ⟨by omega⟩⟩
  · rw [hc, List.getD_eq_getElem?_getD, List.getElem?_map, List.getElem?_eq_getElem hk, Int.toNat_of_nonneg (by omega)]
    rfl
  · rw [List.getElem?_eq_getElem hk, Int.toNat_of_nonneg (by omega)]
theorem Sl.txt {w : World} {v : Value} {ss : List ByteArray} (h : Sl w v 1 ss.length (ss.map Value.string)) (k : Nat) (hk : k < ss.length) :
    ∃ A c s, v = .slice (some A) ss.length c ∧ w.cell? (A.add k) = some (.string s) ∧ Kp (ss[k]? = some s) := by
  obtain ⟨A, c, rfl, hc⟩ := h.at_ k hk
  refine ⟨A, c, ss[k], rfl, ?_, ⟨List.getElem?_eq_getElem hk⟩⟩
  rw [hc, List.getD_eq_getElem?_getD, List.getElem?_map, List.getElem?_eq_getElem hk]
  rfl
def catN (zs : List Int) : List UInt8 := zs.flatMap fun z => putN z.toNat
def catS (ss : List ByteArray) : List UInt8 := ss.flatMap fun s => putN s.size ++ s.data.toList
theorem catN_step {zs : List Int} {k y : Nat} (h : zs[k]? = some (y : Int)) : catN (zs.take (k + 1)) = catN (zs.take k) ++ putN y := by
  rw [catN, List.take_add_one, h, List.flatMap_append]
  simp [catN]
theorem catS_step {ss : List ByteArray} {k : Nat} {s : ByteArray} (h : ss[k]? = some s) : catS (ss.take (k + 1)) = catS (ss.take k) ++ (putN s.size ++ s.data.toList) := by
  rw [catS, List.take_add_one, h, List.flatMap_append]
  simp [catS]
theorem catN_drop {zs : List Int} {k y : Nat} (h : zs[k]? = some (y : Int)) : catN (zs.drop k) = putN y ++ catN (zs.drop (k + 1)) := by
  obtain ⟨hk, he⟩ := List.getElem?_eq_some_iff.1 h
  rw [List.drop_eq_getElem_cons hk, he, catN, List.flatMap_cons]
  rfl
theorem catS_drop {ss : List ByteArray} {k : Nat} {s : ByteArray} (h : ss[k]? = some s) : catS (ss.drop k) = putN s.size ++ s.data.toList ++ catS (ss.drop (k + 1)) := by
  obtain ⟨hk, he⟩ := List.getElem?_eq_some_iff.1 h
  rw [List.drop_eq_getElem_cons hk, he, catS, List.flatMap_cons]
  rfl
theorem catN_len {zs : List Int} (hw : ∀ x ∈ zs, (Lit.int .u64 x).wf = true) (k : Nat) : (catN (zs.take k)).length ≤ 10 * k := by
  induction k with
  | zero => simp [catN]
  | succ k ih =>
    by_cases hk : k < zs.length
    · have hm := bounds_u64 (hw _ (List.getElem_mem hk))
      have h : zs[k]? = some ((zs[k].toNat : Nat) : Int) := by rw [List.getElem?_eq_getElem hk, Int.toNat_of_nonneg (by omega)]
      rw [catN_step h, List.length_append]
      have := putN_len64 (n := zs[k].toNat) (by omega)
      omega
    · rw [List.take_of_length_le (by omega)]
      rw [List.take_of_length_le (by omega)] at ih
      omega
theorem catS_len {ss : List ByteArray} (k : Nat) (hw : ∀ j s, j < k → ss[j]? = some s → s.size ≤ 300) : (catS (ss.take k)).length ≤ 310 * k := by
  induction k with
  | zero => simp [catS]
  | succ k ih =>
    have ih := ih fun j s hj => hw j s (by omega)
    by_cases hk : k < ss.length
    · have h : ss[k]? = some ss[k] := List.getElem?_eq_getElem hk
      have hz := hw k _ (by omega) h
      rw [catS_step h, List.length_append, List.length_append]
      have := putN_len64 (n := ss[k].size) (by omega)
      have h3 : (ss[k]).data.toList.length = (ss[k]).size := by rw [Array.length_toList]; rfl
      omega
    · rw [List.take_of_length_le (by omega)]
      rw [List.take_of_length_le (by omega)] at ih
      omega
end Go.Proofs.YtfpiaeodblbfjaaSep
