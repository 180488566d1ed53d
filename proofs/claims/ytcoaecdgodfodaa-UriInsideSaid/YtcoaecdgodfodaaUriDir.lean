/- Own work: what stands ahead of the last stroke, by a list of parts: plain. -/
import Derived.Test.YtcoaecdgodfodaaUriT
import Derived.Test.YtcoaecdgodfodaaUriF
namespace Go.Proofs.YtcoaecdgodfodaaSep
open Go.RowKit Go.Lib Go.Proofs

def jn (ps : List (List UInt8)) : List UInt8 := ps.flatMap (· ++ [47])
theorem jn_snoc (ps : List (List UInt8)) (x : List UInt8) : jn (ps ++ [x]) = jn ps ++ (x ++ [47]) := by simp [jn]
theorem splitG_ne (n l : List UInt8) : splitG n l ≠ [] := by
  induction l generalizing n with
  | nil => simp [splitG]
  | cons c t ih =>
    rw [splitG]
    split
    · simp
    · exact ih _
theorem splitG_len (l : List UInt8) : ∀ n, (splitG n l).length ≤ l.length + 1 := by
  induction l with
  | nil => intro n; simp [splitG]
  | cons c t ih =>
    intro n
    rw [splitG]
    split
    · have := ih []; simp only [List.length_cons]; omega
    · have := ih (n ++ [c]); simp only [List.length_cons]; omega
theorem split_parts (l : List UInt8) : ∀ n, 47 ∉ n → ∃ q last, splitG n l = q ++ [last] ∧ jn q ++ last = n ++ l ∧ 47 ∉ last := by
  induction l with
  | nil => intro n hn; exact ⟨[], n, by simp [splitG], by simp [jn], hn⟩
  | cons c t ih =>
    intro n hn
    by_cases h : c = 47
    · subst h
      rw [splitG_hit]
      obtain ⟨q, last, h1, h2, h3⟩ := ih [] (by simp)
      exact ⟨n :: q, last, by rw [h1]; rfl, by
        have e : jn (n :: q) = n ++ [47] ++ jn q := by simp [jn]
        rw [e, List.append_assoc, h2]
        simp, h3⟩
    · rw [splitG_miss _ _ _ h]
      obtain ⟨q, last, h1, h2, h3⟩ := ih (n ++ [c]) (by simp [hn]; exact fun e => h e.symm)
      exact ⟨q, last, h1, by rw [h2]; simp, h3⟩
theorem jn_end (q : List (List UInt8)) : jn q = [] ∨ ∃ t, jn q = t ++ [47] := by
  rcases List.eq_nil_or_concat q with rfl | ⟨q0, x, rfl⟩
  · exact .inl rfl
  · rw [List.concat_eq_append, jn_snoc]
    exact .inr ⟨jn q0 ++ x, by simp⟩
theorem get_str (l : List UInt8) (i : Nat) (h : i < (str l).size) : (str l)[i]'h = l[i]'(by rw [str_size] at h; exact h) := rfl
theorem last_of (q : List (List UInt8)) (last : List UInt8) (h : 47 ∉ last) : Lib.lastIndexByte (str (jn q ++ last)) 47 = ((jn q).length : Int) - 1 := by
  have key := Lib.lastIdx_spec (str (jn q ++ last)) 47 (str (jn q ++ last)).size
  have hat : ∀ j : Nat, (str (jn q ++ last)).data[j]! = (jn q ++ last)[j]?.getD 0 := fun j => by
    show (jn q ++ last).toArray[j]! = _
    rw [List.getElem!_toArray, List.getElem!_eq_getElem?_getD]
    rfl
  have hz : (str (jn q ++ last)).size = (jn q).length + last.length := by rw [str_size, List.length_append]
  have h47 : ∀ c : UInt8, ((c.toNat : Nat) : Int) = 47 → c = 47 := fun c hc => by
    have := UInt8.toNat_inj (a := c) (b := 47)
    exact this.1 (by rw [show (47 : UInt8).toNat = 47 from rfl]; omega)
  have hno : ∀ j, (jn q).length ≤ j → j < (str (jn q ++ last)).size → (((str (jn q ++ last)).data[j]!).toNat : Int) ≠ 47 := fun j h1 h2 e => by
    have := h47 _ e
    rw [hat, List.getElem?_append_right h1, List.getElem?_eq_getElem (by omega)] at this
    exact h (this ▸ List.getElem_mem _)
  rw [Lib.lastIndexByte]
  rcases jn_end q with he | ⟨t, ht⟩
  · rcases key with ⟨h1, _⟩ | ⟨i, h1, _, h3, _⟩
    · rw [h1, he]; rfl
    · exact absurd h3 (hno i (by rw [he]; exact Nat.zero_le _) h1)
  · have hl : (jn q).length = t.length + 1 := by rw [ht]; simp
    have hc : (((str (jn q ++ last)).data[t.length]!).toNat : Int) = 47 := by
      rw [hat, List.getElem?_append_left (by omega), ht]
      simp
    rcases key with ⟨_, h2⟩ | ⟨i, h1, h2, h3, h4⟩
    · exact absurd hc (h2 _ (by omega))
    · have h5 : i < (jn q).length := by
        rcases Nat.lt_or_ge i (jn q).length with h | h
        · exact h
        · exact absurd h3 (hno i h h1)
      have h6 : t.length ≤ i := by
        rcases Nat.lt_or_ge i t.length with h | h
        · exact absurd hc (h4 _ h (by omega))
        · exact h
      rw [h2]
      omega
theorem dir_split (l : List UInt8) : ∃ q last, splitF l = q ++ [last] ∧ jn q = l.take (Lib.lastIndexByte (str l) 47 + 1).toNat := by
  obtain ⟨q, last, h1, h2, h3⟩ := split_parts l [] (by simp)
  refine ⟨q, last, h1, ?_⟩
  rw [List.nil_append] at h2
  rw [← h2, last_of q last h3, show ((jn q).length : Int) - 1 + 1 = (jn q).length by omega, Int.toNat_natCast]
  simp
end Go.Proofs.YtcoaecdgodfodaaSep
