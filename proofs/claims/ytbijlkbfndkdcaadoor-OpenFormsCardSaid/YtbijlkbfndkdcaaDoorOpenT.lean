/- Own work: a slice of structs that came in: its elements, by their fields. No program in it. -/
import Derived.Test.YtbijlkbfndkdcaaDoorOpenR
import Derived.Test.YtbijlkbfndkdcaaDoorOpenS
namespace Go.Proofs.YtbijlkbfndkdcaaDoorSep
open Go.RowKit Go.Lib Go.ChangeShapes Go.WideShapes

section
variable {H : Type} {enc : TypeId × Value → H} {P : Program} {W : World} {base : Nat} {spare : Nat → Bool} {held : Bool}
theorem flat_get {α β : Type} (mk : α → List β) (sz : Nat) (hsz : 0 < sz) : ∀ (L : List α), (∀ a ∈ L, (mk a).length = sz) → ∀ (i j : Nat) (a : α), L[i]? = some a → j < sz → (L.flatMap mk)[i * sz + j]? = (mk a)[j]?
  | [], _, i, j, a, h, _ => by simp at h
  | b :: L, hl, i, j, a, h, hj => by
    rw [List.flatMap_cons]
    have hb := hl b (List.mem_cons_self ..)
    cases i with
    | zero =>
      simp only [List.getElem?_cons_zero, Option.some.injEq] at h
      subst h
      rw [Nat.zero_mul, Nat.zero_add, List.getElem?_append_left (by omega)]
    | succ i =>
      rw [List.getElem?_cons_succ] at h
      have := flat_get mk sz hsz L (fun a ha => hl a (List.mem_cons_of_mem _ ha)) i j a h hj
      rw [List.getElem?_append_right (by rw [hb, Nat.succ_mul]; omega), hb, show (i + 1) * sz + j - sz = i * sz + j by rw [Nat.succ_mul]; omega]
      exact this
theorem flat_len {α β : Type} (mk : α → List β) (sz : Nat) : ∀ (L : List α), (∀ a ∈ L, (mk a).length = sz) → (L.flatMap mk).length = L.length * sz
  | [], _ => by simp
  | b :: L, hl => by
    rw [List.flatMap_cons, List.length_append, hl b (List.mem_cons_self ..), flat_len mk sz L (fun a ha => hl a (List.mem_cons_of_mem _ ha)), List.length_cons, Nat.succ_mul]
    omega
/-- A slice that came in, by its elements: each of sz cells. -/
theorem open_slice_of {α : Type} (mk : α → List Value) (good : α → Prop) {t e sz : Nat} {v : Value} {d : DataW H} {ps : List MemPlace} {b : Nat} (hsz : 0 < sz)
    (hu : P.underlying t = some (.slice e)) (hc : P.cellsOf e = sz) (hel : ∀ fuel cs x, DataW.trod enc P W base spare held fuel e cs = some x → ∃ a, cs = mk a ∧ (mk a).length = sz ∧ good a)
    (hv : Value.okWide P W .any b t v) (h : DataW.Trod enc P W base spare held t v d ps) :
    ∃ L : List α, Sl W v sz L.length (L.flatMap mk) ∧ ∀ a ∈ L, (mk a).length = sz ∧ good a := by
  obtain ⟨a0, len0, cap0, rfl⟩ := okWide_slice hu hv
  obtain ⟨fuel, hf⟩ := h
  rcases DataW.trod_slice hu hf with ⟨hcs, _⟩ | ⟨a, len, cap, elems, rest, n, _, hcs, _, hb, hl, hm, hlen, hel2, _⟩
  · simp [Value.cells] at hcs
    obtain ⟨rfl, rfl, rfl⟩ := hcs
    exact ⟨[], Sl.nil W sz, fun a h => absurd h (List.not_mem_nil)⟩
  · simp [Value.cells] at hcs
    obtain ⟨rfl, rfl, rfl⟩ := hcs
    obtain ⟨L, ys, h1, _, h3⟩ := pick_list len0 (fun i (u : α) (_ : Unit) => (mk u).length = sz ∧ good u ∧ ∀ j, j < sz → W.cell? (a.add (i * sz + j)) = (mk u)[j]?) (fun i hi => by
      have h := hel2 i hi
      rw [List.getElem?_eq_getElem (by omega), hc, Option.bind_eq_some_iff] at h
      obtain ⟨cs', hcs, hy⟩ := h
      obtain ⟨u, rfl, hu1, hu2⟩ := hel _ _ _ hy
      obtain ⟨_, _, h5⟩ := World.cells?_some hcs
      refine ⟨u, (), hu1, hu2, fun j hj => ?_⟩
      rw [← h5 j hj, Addr.add_add])
    have hall : ∀ u ∈ L, (mk u).length = sz ∧ good u := by
      intro u hu
      obtain ⟨i, hi, rfl⟩ := List.getElem_of_mem hu
      have := h3 i L[i] (ys[i]'(by omega)) (List.getElem?_eq_getElem hi) (List.getElem?_eq_getElem (by omega))
      exact ⟨this.1, this.2.1⟩
    refine ⟨L, ⟨flat_len mk sz L (fun u hu => (hall u hu).1), some a, cap0, by rw [h1], by omega, hm, (fun h => by cases h), fun h0 => ⟨a, rfl, fun j u hj => ?_⟩⟩, hall⟩
    have hlt := (List.getElem?_eq_some_iff.1 hj).1
    rw [flat_len mk sz L (fun u hu => (hall u hu).1)] at hlt
    have hi : j / sz < L.length := Nat.div_lt_of_lt_mul (by rwa [Nat.mul_comm])
    have hjm := Nat.mod_lt j hsz
    have hd : j / sz * sz + j % sz = j := Nat.div_add_mod' j sz
    have h6 := (h3 (j / sz) L[j / sz] (ys[j / sz]'(by omega)) (List.getElem?_eq_getElem hi) (List.getElem?_eq_getElem (by omega))).2.2 (j % sz) hjm
    have h7 := flat_get mk sz hsz L (fun u hu => (hall u hu).1) (j / sz) (j % sz) L[j / sz] (List.getElem?_eq_getElem hi) hjm
    rw [hd] at h6 h7
    rw [h6, ← h7, hj]
/-- The cells of a struct whose fields have one cell each. -/
theorem field_at {fs : Array Field} {e fuel : Nat} {cs : List Value} {x : DataW H × List MemPlace} (he : P.underlying e = some (.struct fs)) (h : DataW.trod enc P W base spare held fuel e cs = some x) {i : Nat} {f : Field}
    (hf : fs[i]? = some f) : ∃ n y, DataW.trod enc P W base spare held n f.type ((cs.drop f.offset).take (P.cellsOf f.type)) = some y := by
  obtain ⟨xs, n, _, _, _, hlen, hall⟩ := DataW.trod_struct he h
  have hi : i < xs.length := by
    rw [hlen]
    exact (Array.getElem?_eq_some_iff.1 hf).1
  exact ⟨n, _, (hall i f hf).trans (List.getElem?_eq_getElem hi)⟩
theorem struct_len {fs : Array Field} {e fuel : Nat} {cs : List Value} {x : DataW H × List MemPlace} (he : P.underlying e = some (.struct fs)) (h : DataW.trod enc P W base spare held fuel e cs = some x) : cs.length = P.cellsOf e := by
  obtain ⟨_, _, _, _, hl, _⟩ := DataW.trod_struct he h
  exact hl
theorem strs_of {t e fuel : Nat} {cs : List Value} {x : DataW H × List MemPlace}
    (hu : P.underlying t = some (.slice e)) (he : P.underlying e = some .string) (hc : P.cellsOf e = 1) (h : DataW.trod enc P W base spare held fuel t cs = some x) :
    ∃ u ss, cs = [u] ∧ (∀ x ∈ (ss : List ByteArray), x.size ≤ maxLen) ∧ Sl W u 1 ss.length (ss.map Value.string) := by
  rcases open_strings hu he hc h with ⟨rfl, _⟩ | ⟨x, len, cap, zs, rfl, _, hl, hm, hz, hx, hcell, hwz⟩
  · exact ⟨_, [], rfl, fun x hx => by simp at hx, Sl.nil W 1⟩
  · have hl2 : len ≤ zs.length := by
      rw [hz]
      split
      · exact hl
      · exact Nat.le_refl _
    have hlen : (zs.take len).length = len := by rw [List.length_take]; omega
    refine ⟨_, zs.take len, rfl, fun x hx => hwz x (List.mem_of_mem_take hx), by simp, _, cap, by rw [hlen], by rw [hlen]; exact hl, hm, (fun h => by cases h), fun h0 => ⟨x, rfl, fun j u hj => ?_⟩⟩
    have hj2 : j < len := by
      have := (List.getElem?_eq_some_iff.1 hj).1
      rw [List.length_map, hlen] at this
      exact this
    rw [hcell j (by omega)]
    rw [List.getElem?_map, List.getElem?_take, if_pos hj2, List.getElem?_eq_getElem (show j < zs.length by omega)] at hj
    simp at hj
    rw [← hj, List.getD_eq_getElem?_getD, List.getElem?_eq_getElem (show j < zs.length by omega)]
    rfl
end
end Go.Proofs.YtbijlkbfndkdcaaDoorSep
