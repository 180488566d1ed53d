/- Own work: what a list of versions tells: plain. -/
import Derived.Test.YtfhfinnjlihghaaDepF
namespace Go.Proofs.YtfhfinnjlihghaaSep
open Go.RowKit Go.Lib Go.Proofs

section
variable {K : List (List UInt8)} {V : List Value} {x y : List UInt8} {u v : Value}
theorem not_has (hs : sortedK K) (h : y ∉ K) : ofV K V y = .int .i64 0 := by
  rw [ofV, hasK_mem K y hs, decide_eq_false h]
  rfl
theorem posF_at (hs : sortedK K) {t : Nat} (ht : t < K.length) : posF K K[t] = t := by
  have hm : hasK K K[t] = true := by rw [hasK_mem K _ hs]; exact decide_eq_true (List.getElem_mem _)
  have hlt := hasK_lt K _ hm
  rw [hasK, decide_eq_true_iff, List.getElem?_eq_getElem hlt] at hm
  injection hm with hm
  rcases Nat.lt_trichotomy (posF K K[t]) t with h | h | h
  · have := List.pairwise_iff_getElem.1 hs _ t hlt ht h
    rw [hm, ltB_irr] at this
    cases this
  · exact h
  · have := List.pairwise_iff_getElem.1 hs t _ ht hlt h
    rw [hm, ltB_irr] at this
    cases this
theorem ofV_at (hs : sortedK K) {t : Nat} (ht : t < K.length) : ofV K V K[t] = V.getD t undef := by
  rw [ofV, hasK_mem K _ hs, decide_eq_true (List.getElem_mem _), if_pos rfl, posF_at hs ht]
theorem ofV_mem (hs : sortedK K) (h : (y, v) ∈ K.zip V) : ofV K V y = v := by
  obtain ⟨t, ht, he⟩ := List.getElem_of_mem h
  rw [List.length_zip] at ht
  rw [List.getElem_zip] at he
  injection he with h1 h2
  have h3 := ofV_at (V := V) hs (t := t) (by omega)
  rw [h1] at h3
  rw [h3, List.getD_eq_getElem?_getD, List.getElem?_eq_getElem (by omega), h2]
  rfl
theorem mem_zip_of (hV : V.length = K.length) (h : y ∈ K) (hs : sortedK K) : (y, ofV K V y) ∈ K.zip V := by
  obtain ⟨t, ht, rfl⟩ := List.getElem_of_mem h
  rw [ofV_at hs ht, List.getD_eq_getElem?_getD, List.getElem?_eq_getElem (by omega)]
  have : (K.zip V)[t]'(by rw [List.length_zip]; omega) = (K[t], V[t]'(by omega)) := List.getElem_zip
  exact this ▸ List.getElem_mem _
theorem zip_ins (p : Nat) (hV : V.length = K.length) : (K.take p ++ x :: K.drop p).zip (V.take p ++ u :: V.drop p) = (K.zip V).take p ++ (x, u) :: (K.zip V).drop p := by
  rw [List.zip_append (by rw [List.length_take, List.length_take, hV]), List.zip_cons_cons]; simp only [List.zip, List.take_zipWith, List.drop_zipWith]
theorem zip_del (p : Nat) (hV : V.length = K.length) : (K.take p ++ K.drop (p + 1)).zip (V.take p ++ V.drop (p + 1)) = (K.zip V).take p ++ (K.zip V).drop (p + 1) := by
  rw [List.zip_append (by rw [List.length_take, List.length_take, hV])]; simp only [List.zip, List.take_zipWith, List.drop_zipWith]
theorem ofV_put (hs : sortedK K) (hV : V.length = K.length) : ofV (putK K x) (putV K V x u) y = if y = x then u else ofV K V y := by
  have hs2 := putK_sorted K x hs
  have hl2 := putV_len K V x u hV
  rcases hx : hasK K x with _ | _
  · have hxm : x ∉ K := by rw [hasK_mem K x hs] at hx; simpa using hx
    have hz : (putK K x).zip (putV K V x u) = (K.zip V).take (posF K x) ++ (x, u) :: (K.zip V).drop (posF K x) := by
      rw [putK, putV, hx]
      simp only [Bool.false_eq_true, if_false]
      exact zip_ins _ hV
    have hmem : ∀ z : KV, z ∈ (putK K x).zip (putV K V x u) ↔ z = (x, u) ∨ z ∈ K.zip V := by
      intro z
      rw [hz, List.mem_append, List.mem_cons]
      conv => rhs; rw [← List.take_append_drop (posF K x) (K.zip V), List.mem_append]
      constructor
      · rintro (h | h | h)
        · exact .inr (.inl h)
        · exact .inl h
        · exact .inr (.inr h)
      · rintro (h | h | h)
        · exact .inr (.inl h)
        · exact .inl h
        · exact .inr (.inr h)
    split
    · rename_i h
      subst h
      exact ofV_mem hs2 ((hmem _).2 (.inl rfl))
    · rename_i h
      by_cases hy : y ∈ K
      · exact ofV_mem hs2 ((hmem _).2 (.inr (mem_zip_of hV hy hs)))
      · rw [not_has hs hy]
        refine not_has hs2 ?_
        intro h3
        rw [putK, hx] at h3
        simp only [Bool.false_eq_true, if_false, List.mem_append, List.mem_cons] at h3
        rcases h3 with h3 | h3 | h3
        · exact hy (List.mem_of_mem_take h3)
        · exact h h3
        · exact hy (List.mem_of_mem_drop h3)
  · have hlt := hasK_lt K x hx
    have hx2 : K[posF K x] = x := by
      rw [hasK, decide_eq_true_iff, List.getElem?_eq_getElem hlt] at hx
      injection hx
    have hk : putK K x = K := by rw [putK, hx]; rfl
    have hv : putV K V x u = V.set (posF K x) u := by rw [putV, hx]; rfl
    rw [hk, hv]
    by_cases hy : y ∈ K
    · obtain ⟨t, ht, rfl⟩ := List.getElem_of_mem hy
      rw [ofV_at hs ht, ofV_at hs ht, List.getD_eq_getElem?_getD, List.getElem?_set]
      by_cases h : posF K x = t
      · subst h
        rw [if_pos rfl, if_pos (by omega), if_pos hx2]
        rfl
      · rw [if_neg h, if_neg]
        · rw [List.getD_eq_getElem?_getD]
        · intro h2
          exact h (by rw [← h2, posF_at hs ht])
    · rw [not_has hs hy, not_has hs hy, if_neg]
      intro h
      exact hy (by rw [h, ← hx2]; exact List.getElem_mem _)
theorem ofV_drop (hs : sortedK K) (hV : V.length = K.length) : ofV (dropK K x) (dropV K V x) y = if y = x then .int .i64 0 else ofV K V y := by
  have hs2 := dropK_sorted K x hs
  rcases hx : hasK K x with _ | _
  · have hxm : x ∉ K := by rw [hasK_mem K x hs] at hx; simpa using hx
    have hk : dropK K x = K := by rw [dropK, hx]; rfl
    have hv : dropV K V x = V := by rw [dropV, hx]; rfl
    rw [hk, hv]
    split
    · rename_i h
      rw [h]
      exact not_has hs hxm
    · rfl
  · have hlt := hasK_lt K x hx
    have hx2 : K[posF K x] = x := by
      rw [hasK, decide_eq_true_iff, List.getElem?_eq_getElem hlt] at hx
      injection hx
    have hk : dropK K x = K.take (posF K x) ++ K.drop (posF K x + 1) := by rw [dropK, hx]; rfl
    have hv : dropV K V x = V.take (posF K x) ++ V.drop (posF K x + 1) := by rw [dropV, hx]; rfl
    have hz : (dropK K x).zip (dropV K V x) = (K.zip V).take (posF K x) ++ (K.zip V).drop (posF K x + 1) := by rw [hk, hv, zip_del _ hV]
    have hin : ∀ t (ht : t < K.length), K[t] ∈ dropK K x ↔ t ≠ posF K x := by
      intro t ht
      rw [hk]
      constructor
      · rintro h rfl
        rcases List.mem_append.1 h with h | h
        · obtain ⟨j, hj, he⟩ := List.getElem_of_mem h
          rw [List.length_take] at hj
          rw [List.getElem_take] at he
          have h1 := posF_at hs (t := j) (by omega)
          rw [he, posF_at hs ht] at h1
          omega
        · obtain ⟨j, hj, he⟩ := List.getElem_of_mem h
          rw [List.length_drop] at hj
          rw [List.getElem_drop] at he
          have h1 := posF_at hs (t := posF K x + 1 + j) (by omega)
          rw [he, posF_at hs ht] at h1
          omega
      · intro h
        rcases Nat.lt_or_ge t (posF K x) with h1 | h1
        · refine List.mem_append.2 (.inl ?_)
          have : (K.take (posF K x))[t]'(by rw [List.length_take]; omega) = K[t] := List.getElem_take
          exact this ▸ List.getElem_mem _
        · refine List.mem_append.2 (.inr ?_)
          have : (K.drop (posF K x + 1))[t - (posF K x + 1)]'(by rw [List.length_drop]; omega) = K[t] := by
            rw [List.getElem_drop]
            congr 1
            omega
          exact this ▸ List.getElem_mem _
    by_cases hy : y ∈ K
    · obtain ⟨t, ht, rfl⟩ := List.getElem_of_mem hy
      by_cases h : t = posF K x
      · subst h
        rw [if_pos hx2]
        exact not_has hs2 (fun h => ((hin _ ht).1 h) rfl)
      · rw [if_neg (fun h2 => h (by rw [← posF_at hs ht, h2]))]
        refine ofV_mem hs2 ?_
        rw [hz]
        have hm : (K.zip V)[t]'(by rw [List.length_zip]; omega) = (K[t], ofV K V K[t]) := by
          rw [List.getElem_zip, ofV_at hs ht, List.getD_eq_getElem?_getD, List.getElem?_eq_getElem (by omega)]
          rfl
        rcases Nat.lt_or_ge t (posF K x) with h1 | h1
        · refine List.mem_append.2 (.inl ?_)
          have : ((K.zip V).take (posF K x))[t]'(by rw [List.length_take, List.length_zip]; omega) = (K[t], ofV K V K[t]) := by rw [List.getElem_take]; exact hm
          exact this ▸ List.getElem_mem _
        · refine List.mem_append.2 (.inr ?_)
          have : ((K.zip V).drop (posF K x + 1))[t - (posF K x + 1)]'(by rw [List.length_drop, List.length_zip]; omega) = (K[t], ofV K V K[t]) := by
            rw [List.getElem_drop, ← hm]
            congr 1
            omega
          exact this ▸ List.getElem_mem _
    · have h1 : y ∉ dropK K x := by
        intro h
        rw [hk] at h
        rcases List.mem_append.1 h with h | h
        · exact hy (List.mem_of_mem_take h)
        · exact hy (List.mem_of_mem_drop h)
      rw [not_has hs2 h1, not_has hs hy]
      split <;> rfl
end
end Go.Proofs.YtfhfinnjlihghaaSep
