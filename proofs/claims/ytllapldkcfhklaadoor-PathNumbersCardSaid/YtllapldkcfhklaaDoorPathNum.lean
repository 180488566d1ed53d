/- Own work: numbers in order, and a map that holds just these: plain. -/
import Derived.Test.YtllapldkcfhklaaDoorNTabQ
import Derived.Test.YtllapldkcfhklaaDoorNMapB
namespace Go.Proofs.YtllapldkcfhklaaDoorSep
open Go.RowKit Go.Lib Go.Proofs
theorem sortedI_nodup {K : List Int} (h : sortedI K) : K.Nodup := by
  refine List.Pairwise.imp ?_ h
  intro a b h1 e
  subst e
  rw [ltI_irr] at h1
  cases h1
theorem mem_putI (K : List Int) (x y : Int) (hs : sortedI K) : y ∈ putI K x ↔ y = x ∨ y ∈ K := by
  rw [putI]
  rcases h : hasI K x with _ | _
  · rw [if_neg (by simp)]
    conv => rhs; rw [← List.take_append_drop (posI K x) K]
    simp only [List.mem_append, List.mem_cons]
    constructor
    · rintro (h | h | h)
      · exact .inr (.inl h)
      · exact .inl h
      · exact .inr (.inr h)
    · rintro (h | h | h)
      · exact .inr (.inl h)
      · exact .inl h
      · exact .inr (.inr h)
  · rw [if_pos rfl]
    rw [hasI_mem K x hs, decide_eq_true_eq] at h
    constructor
    · exact .inr
    · rintro (rfl | h2)
      · exact h
      · exact h2
def SeenR (K : List Int) (L : AL) : Prop := ∀ x, getA L x = if x ∈ K then some (.bool true) else none
theorem seen_nil : SeenR [] [] := fun x => by simp [getA]
theorem seen_step {K : List Int} {L : AL} (hs : sortedI K) (h : SeenR K L) (x : Int) : SeenR (putI K x) (setA L x (.bool true)) := by
  intro y
  rw [getA_set, h y]
  by_cases hxy : x = y
  · rw [if_pos hxy, if_pos ((mem_putI K x y hs).2 (.inl hxy.symm))]
  · rw [if_neg hxy]
    by_cases hy : y ∈ K
    · rw [if_pos hy, if_pos ((mem_putI K x y hs).2 (.inr hy))]
    · rw [if_neg hy, if_neg (fun h2 => by
        rcases (mem_putI K x y hs).1 h2 with e | e
        · exact hxy e.symm
        · exact hy e)]
theorem seen_get {K : List Int} {L : AL} (hs : sortedI K) (h : SeenR K L) (x : Int) : (getA L x).getD (.bool false) = .bool (hasI K x) := by
  rw [h x, hasI_mem K x hs]
  by_cases hx : x ∈ K
  · rw [if_pos hx, decide_eq_true hx]; rfl
  · rw [if_neg hx, decide_eq_false hx]; rfl
theorem seen_len {K : List Int} {L : AL} (hs : sortedI K) (h : SeenR K L) (hk : KeysA L) : L.length = K.length := by
  have h1 : ∀ x, x ∈ L.map (·.1) ↔ x ∈ K := by
    intro x
    have := getA_none L x
    rw [h x] at this
    by_cases hx : x ∈ K
    · rw [if_pos hx] at this
      simp only [hx, iff_true]
      exact Classical.not_not.1 fun h2 => absurd (this.2 h2) (by simp)
    · rw [if_neg hx] at this
      simp only [hx, iff_false]
      exact this.1 rfl
  have hk2 : (L.map fun p => p.1).Nodup := hk
  have a := len_of_subset (L.map fun p => p.1) K hk2 fun x hx => (h1 x).1 hx
  have b := len_of_subset K (L.map fun p => p.1) (sortedI_nodup hs) fun x hx => (h1 x).2 hx
  rw [List.length_map] at a b
  omega
theorem putI_len (K : List Int) (x : Int) : (putI K x).length ≤ K.length + 1 := by
  rw [putI]
  have := posI_le x K
  split
  · omega
  · rw [List.length_append, List.length_cons, List.length_take, List.length_drop]; omega
/-- The last key of what has come. -/
def lastN (pre : List (Int × Value)) : Int := (pre.getLast?.map (·.1)).getD 0
theorem lastN_snoc (pre : List (Int × Value)) (x : Int × Value) : lastN (pre ++ [x]) = x.1 := by simp [lastN]
theorem next_sorted {K : List Int} {V : List Value} (hs : sortedI K) (hV : V.length = K.length) {pre rest : List (Int × Value)} {x : Int × Value} (h : K.zip V = pre ++ x :: rest) :
    x.1 ∈ K ∧ (pre ≠ [] → lastN pre < x.1) := by
  have hk : K = pre.map (·.1) ++ x.1 :: rest.map (·.1) := by
    have := congrArg (List.map (·.1)) h
    rw [List.map_append, List.map_cons] at this
    rw [← this]
    exact (List.map_fst_zip (by omega)).symm
  refine ⟨by rw [hk]; simp, fun hp => ?_⟩
  rw [hk] at hs
  obtain ⟨_, _, h3⟩ := List.pairwise_append.1 hs
  rcases List.eq_nil_or_concat pre with e | ⟨a, p, e⟩
  · exact absurd e hp
  · rw [List.concat_eq_append] at e
    subst e
    rw [lastN_snoc]
    have := h3 p.1 (by simp) x.1 (by simp)
    simpa [ltI] using this
end Go.Proofs.YtllapldkcfhklaaDoorSep
