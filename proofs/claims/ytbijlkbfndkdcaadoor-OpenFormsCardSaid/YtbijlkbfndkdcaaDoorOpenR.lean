/- Own work: a slice of slices of bytes that came in. No program in it. -/
import Derived.Test.YtbijlkbfndkdcaaDoorOpen
import Derived.SliceStrings
namespace Go.Proofs.YtbijlkbfndkdcaaDoorSep
open Go.RowKit Go.Lib Go.ChangeShapes Go.WideShapes

/-- v is a slice of slices: its elements' values, and the bytes of each. -/
structure Rows2 (W : World) (v : Value) (vs : List Value) (ls : List (List UInt8)) : Prop where
  len : vs.length = ls.length
  sl : Sl W v 1 ls.length vs
  at_ : ∀ (j : Nat) u l, vs[j]? = some u → ls[j]? = some l → Sl W u 1 l.length (U l)
theorem ints_bytes {H : Type} {enc : TypeId × Value → H} {P : Program} {W : World} {base : Nat} {spare : Nat → Bool} {held : Bool} {t e fuel : Nat} {cs : List Value} {x : DataW H × List MemPlace}
    (hu : P.underlying t = some (.slice e)) (he : P.underlying e = some (.int .u8)) (hc : P.cellsOf e = 1) (h : DataW.trod enc P W base spare held fuel t cs = some x) :
    ∃ u l, cs = [u] ∧ Sl W u 1 (l : List UInt8).length (U l) := by
  rcases open_ints hu he hc h with ⟨rfl, _⟩ | ⟨a, len, cap, zs, rfl, _, hl, hm, hz, _, hcell, hwz⟩
  · exact ⟨_, [], rfl, Sl.nil W 1⟩
  · have hl2 : len ≤ zs.length := by
      rw [hz]
      split
      · exact hl
      · exact Nat.le_refl _
    have hlen : (zs.take len).length = len := by rw [List.length_take]; omega
    obtain ⟨l, hll, hU⟩ := bytes_of (zs.take len) (fun x hx => hwz x (List.mem_of_mem_take hx))
    refine ⟨_, l, rfl, by rw [U_length]; omega, _, cap, by rw [hll, hlen], by rw [hll, hlen]; exact hl, hm, (fun h => by cases h), fun h0 => ⟨a, rfl, fun j u hj => ?_⟩⟩
    rw [← hU] at hj
    have hj2 : j < len := by
      have := (List.getElem?_eq_some_iff.1 hj).1
      rw [List.length_map, hlen] at this
      exact this
    rw [hcell j (by omega)]
    rw [List.getElem?_map, List.getElem?_take, if_pos hj2, List.getElem?_eq_getElem (show j < zs.length by omega)] at hj
    simp at hj
    rw [← hj, List.getD_eq_getElem?_getD, List.getElem?_eq_getElem (show j < zs.length by omega)]
    rfl
theorem pick_list {α β : Type} (n : Nat) (f : Nat → α → β → Prop) (h : ∀ i, i < n → ∃ a b, f i a b) : ∃ (xs : List α) (ys : List β), xs.length = n ∧ ys.length = n ∧ ∀ (i : Nat) a b, xs[i]? = some a → ys[i]? = some b → f i a b := by
  induction n with
  | zero => exact ⟨[], [], rfl, rfl, fun i a b h1 => by simp at h1⟩
  | succ n ih =>
    obtain ⟨xs, ys, h1, h2, h3⟩ := ih fun i hi => h i (by omega)
    obtain ⟨a, b, hab⟩ := h n (by omega)
    refine ⟨xs ++ [a], ys ++ [b], by simp [h1], by simp [h2], fun i x y hx hy => ?_⟩
    by_cases hi : i < n
    · rw [List.getElem?_append_left (by omega)] at hx hy
      exact h3 i x y hx hy
    · obtain rfl : i = n := by
        have := (List.getElem?_eq_some_iff.1 hx).1
        simp [h1] at this
        omega
      rw [List.getElem?_append_right (by omega), h1] at hx
      rw [List.getElem?_append_right (by omega), h2] at hy
      simp at hx hy
      subst hx hy
      exact hab
theorem open_rows {H : Type} {enc : TypeId × Value → H} {P : Program} {W : World} {base : Nat} {spare : Nat → Bool} {held : Bool} {t e e2 : TypeId} {v : Value} {d : DataW H} {ps : List MemPlace} {b : Nat}
    (hu : P.underlying t = some (.slice e)) (he : P.underlying e = some (.slice e2)) (he2 : P.underlying e2 = some (.int .u8)) (hc : P.cellsOf e = 1) (hc2 : P.cellsOf e2 = 1)
    (hv : Value.okWide P W .any b t v) (h : DataW.Trod enc P W base spare held t v d ps) : ∃ vs ls, Rows2 W v vs ls := by
  obtain ⟨a0, len0, cap0, rfl⟩ := okWide_slice hu hv
  obtain ⟨fuel, hf⟩ := h
  rcases DataW.trod_slice hu hf with ⟨hcs, _⟩ | ⟨a, len, cap, elems, rest, n, _, hcs, _, hb, hl, hm, hlen, hel, _⟩
  · simp [Value.cells] at hcs
    obtain ⟨rfl, rfl, rfl⟩ := hcs
    exact ⟨[], [], rfl, Sl.nil W 1, fun j u l h => by simp at h⟩
  · simp [Value.cells] at hcs
    obtain ⟨rfl, rfl, rfl⟩ := hcs
    obtain ⟨vs, ls, h1, h2, h3⟩ := pick_list len0 (fun i u (l : List UInt8) => W.cell? (a.add i) = some u ∧ Sl W u 1 l.length (U l)) (fun i hi => by
      have h := hel i hi
      rw [List.getElem?_eq_getElem (by omega), hc, Nat.mul_one, Option.bind_eq_some_iff] at h
      obtain ⟨cs', hcs, hy⟩ := h
      obtain ⟨u, l, rfl, hs⟩ := ints_bytes he he2 hc2 hy
      exact ⟨u, l, cell_of_cells?_one hcs, hs⟩)
    refine ⟨vs, ls, by omega, ⟨by omega, some a, cap0, by rw [h2], by omega, hm, (fun h => by cases h), fun h0 => ⟨a, rfl, fun j u hj => ?_⟩⟩, fun j u l hu hl => (h3 j u l hu hl).2⟩
    have hj2 : j < ls.length := by have := (List.getElem?_eq_some_iff.1 hj).1; omega
    exact (h3 j u _ hj (List.getElem?_eq_getElem hj2)).1
end Go.Proofs.YtbijlkbfndkdcaaDoorSep
