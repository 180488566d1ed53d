/- Own work: a law's arguments, opened: slices of whole numbers as lists. No program in it. -/
import Derived.Test.YtbijlkbfndkdcaaDoorBytes
import Derived.ProofKit
import Derived.SizedLaws
import Derived.ChangeSlices
namespace Go.Proofs.YtbijlkbfndkdcaaDoorSep
open Go.RowKit Go.Lib Go.ChangeShapes Go.WideShapes

/-- A slice of whole numbers that came in. -/
theorem open_row {H : Type} {enc : TypeId × Value → H} {P : Program} {W : World} {base : Nat} {spare : Nat → Bool} {held : Bool} {t e : TypeId} {k : IntKind} {v : Value} {d : DataW H} {ps : List MemPlace} {ts : List TypeId} {ds : List (DataW H)} {j b B : Nat}
    (hu : P.underlying t = some (.slice e)) (he : P.underlying e = some (.int k)) (hc : P.cellsOf e = 1) (hB : P.bytesOf e = B)
    (hsz : (DataW.weightsEach P ts ds).all (· ≤ reachBytes) = true) (ht : ts[j]? = some t) (hd : ds[j]? = some d)
    (hv : Value.okWide P W .any b t v) (h : DataW.Trod enc P W base spare held t v d ps) :
    ∃ zs : List Int, (∀ x ∈ zs, (Lit.int k x).wf = true) ∧ zs.length * B ≤ 140737488351232 ∧ Sl W v 1 zs.length (zs.map (Value.int k)) := by
  obtain ⟨a0, len, cap, rfl⟩ := okWide_slice hu hv
  obtain ⟨fuel, hf⟩ := h
  rcases open_ints hu he hc hf with ⟨hcs, _⟩ | ⟨x, l, c, zs, hcs, _, hl, hm, hz, hx, hcell, hwz⟩
  · simp [Value.cells] at hcs
    obtain ⟨rfl, rfl, rfl⟩ := hcs
    exact ⟨[], fun x hx => by simp at hx, by simp, Sl.nil W 1⟩
  · simp [Value.cells] at hcs
    obtain ⟨rfl, rfl, rfl⟩ := hcs
    obtain ⟨hx, _⟩ := Prod.mk.inj hx
    subst hx
    have z := sized_slice hsz ht hd hu
    rw [hB] at z
    have hl2 : len ≤ zs.length := by
      rw [hz]
      split
      · exact hl
      · exact Nat.le_refl _
    have h1 : (lits (H := H) k (zs.take len)).length + (lits (H := H) k (zs.drop len)).length = zs.length := by
      simp [lits]
      omega
    rw [h1] at z
    have hlen : (zs.take len).length = len := by rw [List.length_take]; omega
    refine ⟨zs.take len, fun x hx => hwz x (List.mem_of_mem_take hx), by rw [hlen]; exact Nat.le_trans (Nat.mul_le_mul_right _ hl2) z, by simp, _, cap, by rw [hlen], by rw [hlen]; exact hl, hm, (fun h => by cases h), fun h0 => ⟨x, rfl, fun j u hj => ?_⟩⟩
    have hj2 : j < len := by
      have := (List.getElem?_eq_some_iff.1 hj).1
      rw [List.length_map, hlen] at this
      exact this
    rw [hcell j (by omega)]
    rw [List.getElem?_map, List.getElem?_take, if_pos hj2, List.getElem?_eq_getElem (show j < zs.length by omega)] at hj
    simp at hj
    rw [← hj, List.getD_eq_getElem?_getD, List.getElem?_eq_getElem (show j < zs.length by omega)]
    rfl
theorem bytes_of (zs : List Int) (hw : ∀ x ∈ zs, (Lit.int .u8 x).wf = true) : ∃ l : List UInt8, l.length = zs.length ∧ zs.map (Value.int .u8) = U l := by
  refine ⟨zs.map fun z => UInt8.ofNat z.toNat, by simp, ?_⟩
  rw [U, List.map_map]
  refine List.map_congr_left fun z hz => ?_
  have h := hw z hz
  have h2 : 0 ≤ z ∧ z ≤ 255 := by simp [Lit.wf, IntKind.min, IntKind.max, IntKind.signed, IntKind.bits] at h; omega
  have : ((UInt8.ofNat z.toNat).toNat : Int) = z := by rw [UInt8.toNat_ofNat']; omega
  exact congrArg (Value.int .u8) this.symm
/-- Bytes that came in. -/
theorem open_bytes {H : Type} {enc : TypeId × Value → H} {P : Program} {W : World} {base : Nat} {spare : Nat → Bool} {held : Bool} {t e : TypeId} {v : Value} {d : DataW H} {ps : List MemPlace} {ts : List TypeId} {ds : List (DataW H)} {j b : Nat}
    (hu : P.underlying t = some (.slice e)) (he : P.underlying e = some (.int .u8)) (hc : P.cellsOf e = 1) (hB : P.bytesOf e = 1)
    (hsz : (DataW.weightsEach P ts ds).all (· ≤ reachBytes) = true) (ht : ts[j]? = some t) (hd : ds[j]? = some d)
    (hv : Value.okWide P W .any b t v) (h : DataW.Trod enc P W base spare held t v d ps) :
    ∃ l : List UInt8, l.length ≤ 140737488351232 ∧ Sl W v 1 l.length (U l) := by
  obtain ⟨zs, hw, hz, hs⟩ := open_row (j := j) hu he hc hB hsz ht hd hv h
  obtain ⟨l, hl, hU⟩ := bytes_of zs hw
  exact ⟨l, by omega, by rw [← hU, hl]; exact hs⟩
end Go.Proofs.YtbijlkbfndkdcaaDoorSep
