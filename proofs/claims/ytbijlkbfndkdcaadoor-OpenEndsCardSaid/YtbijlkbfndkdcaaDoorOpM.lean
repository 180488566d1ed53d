/- Own work: Until, Back of a stack, by walks; what they leave: plain. -/
import Derived.Test.YtbijlkbfndkdcaaDoorOpH
namespace Go.Proofs.YtbijlkbfndkdcaaDoorSep
open Go.RowKit Go.Lib Go.Proofs
abbrev Nm := List UInt8 × Int
/-- An element of HTML with one of two names. -/
def isF (a b : List UInt8) (x : Nm) : Bool := decide (spF x.2 = 0) && hasB [a, b] x.1
def untilF (p : Nm → Bool) : List Nm → Nat
  | L => L.foldl (fun (s : Nat × Nat) x => (s.1 + 1, if p x then s.1 else s.2)) (0, 0) |>.2
def backF (p : Nm → Bool) (L : List Nm) : Nat := (L.foldl (fun (s : Nat × Nat) x => (s.1 + 1, if p x then s.1 + 1 else s.2)) (0, 0)).2
theorem fold_fst (f : Nat → Nm → Nat → Nat) (L : List Nm) : ∀ s : Nat × Nat, (L.foldl (fun (s : Nat × Nat) x => (s.1 + 1, f s.1 x s.2)) s).1 = s.1 + L.length := by
  induction L with
  | nil => intro s; rfl
  | cons x L ih => intro s; rw [List.foldl_cons, ih]; simp only [List.length_cons]; omega
theorem untilF_snoc (p : Nm → Bool) (L : List Nm) (x : Nm) : untilF p (L ++ [x]) = if p x then L.length else untilF p L := by
  have h := fold_fst (fun i x b => if p x then i else b) L (0, 0)
  rw [untilF, List.foldl_append]
  simp only [List.foldl_cons, List.foldl_nil]
  rw [h, Nat.zero_add]
  rfl
theorem backF_snoc (p : Nm → Bool) (L : List Nm) (x : Nm) : backF p (L ++ [x]) = if p x then L.length + 1 else backF p L := by
  have h := fold_fst (fun i x b => if p x then i + 1 else b) L (0, 0)
  rw [backF, List.foldl_append]
  simp only [List.foldl_cons, List.foldl_nil]
  rw [h, Nat.zero_add]
  rfl
theorem untilF_nil (p : Nm → Bool) : untilF p [] = 0 := rfl
theorem backF_nil (p : Nm → Bool) : backF p [] = 0 := rfl
theorem untilF_le (p : Nm → Bool) (L : List Nm) : untilF p L ≤ L.length := by
  refine snoc_ind (P := fun L => untilF p L ≤ L.length) (Nat.le_refl _) (fun L x ih => ?_) L
  rw [untilF_snoc, List.length_append, List.length_singleton]
  split <;> omega
theorem backF_le (p : Nm → Bool) (L : List Nm) : backF p L ≤ L.length := by
  refine snoc_ind (P := fun L => backF p L ≤ L.length) (Nat.le_refl _) (fun L x ih => ?_) L
  rw [backF_snoc, List.length_append, List.length_singleton]
  split <;> omega
theorem addF_get (L : List NodeM) (sp : Int) (n : List UInt8) : (∀ (j : Nat) (x : NodeM), L[j]? = some x → (addF L sp n)[j]? = some x) ∧ ∃ i, (addF L sp n)[L.length]? = some ⟨2, sp, n, i⟩ := by
  rw [addF]
  split
  · rename_i h
    refine ⟨fun j x hj => by rw [List.getElem?_append_left (List.getElem?_eq_some_iff.1 hj).1]; exact hj, _, by rw [List.getElem?_append_right (Nat.le_refl _), Nat.sub_self, h.1]; rfl⟩
  · refine ⟨fun j x hj => by rw [List.getElem?_append_left (List.getElem?_eq_some_iff.1 hj).1]; exact hj, _, by rw [List.getElem?_append_right (Nat.le_refl _), Nat.sub_self]; rfl⟩
/-- Each element's number is its node's. -/
theorem made_node (L : List Nm) : ∀ (i : Nat) (x : Nm), L[i]? = some x → ∃ id j, (madeF L).2[i]? = some id ∧ (madeF L).1[id]? = some ⟨2, spF x.2, x.1, j⟩ := by
  refine snoc_ind (P := fun L => ∀ (i : Nat) (x : Nm), L[i]? = some x → ∃ id j, (madeF L).2[i]? = some id ∧ (madeF L).1[id]? = some ⟨2, spF x.2, x.1, j⟩) (fun i x h => by simp at h) (fun L y ih i x h => ?_) L
  have hl := (madeF_len L).2
  rw [madeF_snoc]
  obtain ⟨h1, j, h2⟩ := addF_get (madeF L).1 (spF y.2) y.1
  by_cases hi : i < L.length
  · rw [List.getElem?_append_left hi] at h
    obtain ⟨id, j, h3, h4⟩ := ih i x h
    exact ⟨id, j, by rw [List.getElem?_append_left (by omega)]; exact h3, h1 _ _ h4⟩
  · have hlt := (List.getElem?_eq_some_iff.1 h).1
    rw [List.length_append, List.length_singleton] at hlt
    obtain rfl : i = L.length := by omega
    rw [List.getElem?_append_right (Nat.le_refl _), Nat.sub_self] at h
    simp only [List.getElem?_cons_zero, Option.some.injEq] at h
    subst h
    exact ⟨(madeF L).1.length, j, by rw [← hl, List.getElem?_append_right (Nat.le_refl _), Nat.sub_self]; rfl, h2⟩
end Go.Proofs.YtbijlkbfndkdcaaDoorSep
