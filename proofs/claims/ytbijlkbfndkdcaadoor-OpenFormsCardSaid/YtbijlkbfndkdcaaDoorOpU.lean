/- Own work: what the program's tables of names hold, as they are laid. -/
import Derived.Test.YtbijlkbfndkdcaaDoorOpF
import Derived.Test.YtbijlkbfndkdcaaDoorRows
import Derived.ProofKit
import Derived.OpenShut
import Derived.LaidMore
import Derived.Lay
import Derived.SliceStrings
namespace Go.Proofs.YtbijlkbfndkdcaaDoorSep
open Go.RowKit Go.Lib Go.Proofs Go.ChangeShapes Go.WideShapes
theorem strs_inj {H : Type} : ∀ (zs : List ByteArray) (L : List (List UInt8)), (strs zs : List (DataW H)) = (L.map fun l => DataW.lit (.string l)) → zs = L.map str
  | [], [], _ => rfl
  | [], l :: L, h => by simp [strs] at h
  | z :: zs, [], h => by simp [strs] at h
  | z :: zs, l :: L, h => by
    simp only [strs, List.map_cons, List.cons.injEq, DataW.lit.injEq, Lit.string.injEq] at h
    rw [List.map_cons, ← strs_inj zs L h.2, ← h.1, str_of]
theorem laid_names {H : Type} {enc : TypeId × Value → H} {W : World} {base : Nat} {spare : Nat → Bool} {held : Bool} {fuel g : Nat} {cs : Array Value} {L : List (List UInt8)} {p : List MemPlace} 
    (hc : ∀ r, W.cell? ⟨g, r, none⟩ = cs[r]?) (hd : DataW.trod enc Tryd.prog W base spare held fuel 31 cs.toList = some (.slice (L.map fun l => DataW.lit (.string l)) [], p)) :
    ∃ u, W.cell? ⟨g, 0, none⟩ = some u ∧ Sl W u 1 L.length (SV L) := by
  rcases open_strings Tryd.underlying31 Tryd.underlying9 (by kernel_rfl) hd with ⟨_, hx⟩ | ⟨a, len, cap, ss, hcs, _, hl, hm, hlen, hx, hcell, _⟩
  · simp at hx
  · simp only [Prod.mk.injEq, DataW.slice.injEq] at hx
    obtain ⟨⟨h1, h2⟩, _⟩ := hx
    have h3 := strs_inj _ _ h1.symm
    have h4 : ss.drop len = [] := by
      have : (strs (ss.drop len) : List (DataW H)) = [] := h2.symm
      simpa [strs] using this
    have h5 : ss.length ≤ len := by simpa using h4
    have h6 : len ≤ ss.length := by rw [hlen]; split <;> omega
    rw [List.take_of_length_le h5] at h3
    have h7 : len = L.length := by
      have : ss.length = L.length := by rw [h3, List.length_map]
      omega
    subst h7
    refine ⟨.slice (some a) L.length cap, ?_, ?_⟩
    · rw [hc 0]
      have : cs.toList[0]? = some (.slice (some a) L.length cap) := by rw [hcs]; rfl
      simpa using this
    · refine ⟨by rw [SV_length, Nat.mul_one], some a, cap, rfl, hl, hm, (fun h => by cases h), fun _ => ⟨a, rfl, fun j u hj => ?_⟩⟩
      have hjl : j < ss.length := by
        have := (List.getElem?_eq_some_iff.1 hj).1
        rw [SV_length] at this
        omega
      rw [hcell j hjl, h3]
      rw [SV, List.getElem?_map] at hj
      rw [List.getD_eq_getElem?_getD, List.getElem?_map]
      cases hq : L[j]? with
      | none => rw [hq] at hj; cases hj
      | some l =>
        rw [hq] at hj
        simp only [Option.map_some, Option.some.injEq] at hj
        rw [← hj]
        rfl
theorem usual_laid {W : World} (h : laidMetH Tryd.prog [("woodcut/open.usual", _root_.Go.Proofs.YtbijlkbfndkdcaaDoor.Rows.laid_woodcut_open_usual)] W) : ∃ u, W.cell? ⟨1, 0, none⟩ = some u ∧ Sl W u 1 9 (SV usualT) := by
  rw [MakeChecks.laidMetH_plain _ _ _ (by kernel_rfl)] at h
  obtain ⟨ps, ⟨g, t, cs, fuel, p, q, hg, ht, hv, hd, _, _⟩, _, _⟩ := h
  obtain rfl := Option.some.inj ((show Tryd.prog.globalNamed "woodcut/open.usual" = some 1 by kernel_rfl).symm.trans hg)
  obtain rfl := Option.some.inj ((show (Tryd.prog.globals[1]?).map (·.type) = some 31 by kernel_rfl).symm.trans ht)
  exact laid_names (L := usualT) (fun r => World.var?_cell hg hv r) hd
theorem Usual.of {W : World} {u : Value} (h : W.cell? ⟨1, 0, none⟩ = some u ∧ Sl W u 1 9 (SV usualT)) : Usual W (Old W) u := fun _ H =>
  have hb := H.old
  ⟨(hb.cell (World.block_lt_of_cell? W _ h.1)).trans h.1, h.2.below hb⟩
end Go.Proofs.YtbijlkbfndkdcaaDoorSep
