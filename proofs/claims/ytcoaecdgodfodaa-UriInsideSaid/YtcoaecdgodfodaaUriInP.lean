/- Own work: a whole path leads just there: plain. -/
import Derived.Test.YtcoaecdgodfodaaUriDotP
import Derived.Test.YtcoaecdgodfodaaUriP
import Derived.Test.YtcoaecdgodfodaaUriM
namespace Go.Proofs.YtcoaecdgodfodaaSep
open Go.RowKit Go.Lib Go.Proofs

def cleanP (c : List UInt8) : Prop := (∀ x ∈ c, (97 ≤ x.toNat ∧ x.toNat ≤ 122) ∨ x = 47) ∧ ∀ t, c ≠ 47 :: t
theorem cleanP_nil : cleanP [] := ⟨fun x h => by simp at h, fun t h => by simp at h⟩
theorem cleanP_letter (c : List UInt8) (x : UInt8) (h : cleanP c) (h1 : 97 ≤ x.toNat ∧ x.toNat ≤ 122) : cleanP (c ++ [x]) := by
  refine ⟨fun y hy => ?_, fun t ht => ?_⟩
  · rcases List.mem_append.1 hy with hy | hy
    · exact h.1 y hy
    · rw [List.mem_singleton.1 hy]; exact .inl h1
  · cases c with
    | nil =>
      simp at ht
      have : x.toNat = 47 := by rw [ht.1]; rfl
      omega
    | cons a c =>
      simp at ht
      exact h.2 c (by rw [ht.1])
theorem cleanP_stroke (c : List UInt8) (h : cleanP c) (h0 : c ≠ []) : cleanP (c ++ [47]) := by
  refine ⟨fun y hy => ?_, fun t ht => ?_⟩
  · rcases List.mem_append.1 hy with hy | hy
    · exact h.1 y hy
    · rw [List.mem_singleton.1 hy]; exact .inr rfl
  · cases c with
    | nil => exact h0 rfl
    | cons a c =>
      simp at ht
      exact h.2 c (by rw [ht.1])
theorem cleanP_not (c : List UInt8) (h : cleanP c) (x : UInt8) (hx : ¬ (97 ≤ x.toNat ∧ x.toNat ≤ 122)) (hx2 : ¬ x = 47) : x ∉ c := fun hm => by
  rcases h.1 x hm with h | h
  · exact hx h
  · exact hx2 h
theorem cutAt_none (x : UInt8) (l : List UInt8) (h : x ∉ l) : cutAt x l = (l, [], false) := by
  induction l with
  | nil => rfl
  | cons a l ih =>
    have h1 : ¬ a = x := fun e => h (by simp [e])
    rw [cutAt, if_neg h1, ih (fun e => h (by simp [e]))]
theorem cutAt_mid (x : UInt8) (l t : List UInt8) (h : x ∉ l) : cutAt x (l ++ x :: t) = (l, t, true) := by
  induction l with
  | nil => rw [List.nil_append, cutAt, if_pos rfl]
  | cons a l ih =>
    have h1 : ¬ a = x := fun e => h (by simp [e])
    rw [List.cons_append, cutAt, if_neg h1, ih (fun e => h (by simp [e]))]
theorem decode_none (l : List UInt8) (h : 37 ∉ l) : decodeF l = some l := by
  induction l with
  | nil => rw [decodeF]
  | cons a l ih =>
    have h1 : ¬ a = 37 := fun e => h (by simp [e])
    rw [decode_plain _ _ h1, ih (fun e => h (by simp [e]))]
    rfl
theorem split_mem (l : List UInt8) : ∀ (n x : List UInt8), x ∈ splitG n l → ∀ y ∈ x, y ∈ n ∨ y ∈ l := by
  induction l with
  | nil =>
    intro n x hx y hy
    simp [splitG] at hx
    subst hx
    exact .inl hy
  | cons c t ih =>
    intro n x hx y hy
    by_cases h : c = 47
    · subst h
      rw [splitG_hit] at hx
      rcases List.mem_cons.1 hx with h | h
      · exact .inl (h ▸ hy)
      · rcases ih [] x h y hy with h | h
        · simp at h
        · exact .inr (by simp [h])
    · rw [splitG_miss _ _ _ h] at hx
      rcases ih (n ++ [c]) x hx y hy with h | h
      · rcases List.mem_append.1 h with h | h
        · exact .inl h
        · exact .inr (by simp [List.mem_singleton.1 h])
      · exact .inr (by simp [h])
theorem dots_clean (c : List UInt8) (h : cleanP c) : dotsF (47 :: c) = 47 :: c := by
  have h46 := cleanP_not c h 46 (by decide) (by decide)
  have hok : okP (splitF c) := fun x hx => by
    have hm := split_mem c [] x hx
    refine ⟨?_, ?_⟩
    · rintro rfl
      rcases hm 46 (by simp) with h | h
      · simp at h
      · exact h46 h
    · rintro rfl
      rcases hm 46 (by simp) with h | h
      · simp at h
      · exact h46 h
  have := (dots_law c).1
  rw [this, dotsL, dl_ok _ _ hok, List.nil_append, splitF, jl_split]
  simp
theorem parse_clean (c : List UInt8) (h : cleanP c) : parseF (47 :: c) = ⟨[], [], 47 :: c, [], [], false, false, false, false⟩ := by
  have h35 : (35 : UInt8) ∉ 47 :: c := by
    have := cleanP_not c h 35 (by decide) (by decide)
    simp [this]
  have h63 : (63 : UInt8) ∉ 47 :: c := by
    have := cleanP_not c h 63 (by decide) (by decide)
    simp [this]
  rw [parseF, cutAt_none _ _ h35]
  simp only
  rw [cutAt_none _ _ h63]
  simp only
  rw [parse2, show schemeF (47 :: c) = none by rw [schemeF, if_neg (by decide)]]
  simp only
  rw [parse3, if_neg]
  rw [Lib.hasPrefix, List.isPrefixOf_iff_prefix, List.cons_prefix_cons]
  rintro ⟨_, t, ht⟩
  exact h.2 t ht.symm
def placeS : List UInt8 := [120, 37, 50, 48, 121]
theorem parse_cleanS (c : List UInt8) (h : cleanP c) : parseF (47 :: c ++ 35 :: placeS) = ⟨[], [], 47 :: c, [], placeS, false, false, false, true⟩ := by
  have h35 : (35 : UInt8) ∉ 47 :: c := by
    have := cleanP_not c h 35 (by decide) (by decide)
    simp [this]
  have h63 : (63 : UInt8) ∉ 47 :: c := by
    have := cleanP_not c h 63 (by decide) (by decide)
    simp [this]
  rw [parseF, cutAt_mid _ _ _ h35]
  simp only
  rw [cutAt_none _ _ h63]
  simp only
  rw [parse2, show schemeF (47 :: c) = none by rw [schemeF, if_neg (by decide)]]
  simp only
  rw [parse3, if_neg]
  rw [Lib.hasPrefix, List.isPrefixOf_iff_prefix, List.cons_prefix_cons]
  rintro ⟨_, t, ht⟩
  exact h.2 t ht.symm
theorem target_clean (l c f f2 : List UInt8) (b : Bool) (h : cleanP c) (hf : decodeF f = some f2) : targetF l ⟨[], [], 47 :: c, [], f, false, false, false, b⟩ = (fileF c, f2, 0) := by
  rw [targetF, if_neg (by simp), resolveF, if_neg (by simp), if_neg (by simp), if_neg (by simp), if_pos (by simp), dots_clean c h]
  have : Lib.trimPrefix (47 :: c) [47] = c := by
    rw [Lib.trimPrefix, if_pos (by simp [Lib.hasPrefix])]
    rfl
  rw [this, decode_none c (cleanP_not c h 37 (by decide) (by decide))]
  simp only [hf]
theorem decode_place : decodeF placeS = some [120, 32, 121] := by
  rw [placeS, decode_plain _ _ (by decide), decode_two, if_pos (by decide), decode_plain _ _ (by decide), decodeF]
  decide +kernel
end Go.Proofs.YtcoaecdgodfodaaSep
