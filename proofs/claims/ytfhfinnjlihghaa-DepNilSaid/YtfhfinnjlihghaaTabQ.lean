/- Own work: what is put into a list in order, and taken out: plain. -/
import Derived.Test.YtfhfinnjlihghaaTabP
namespace Go.Proofs.YtfhfinnjlihghaaSep
open Go.RowKit Go.Lib Go.Proofs

theorem lt_of_not (a b : List UInt8) (h : ltB b a = false) (hne : a ≠ b) : ltB a b = true := by
  rcases h2 : ltB a b with _ | _
  · exact absurd (ltB_tri a b h2 h) hne
  · rfl
theorem ins_sorted (K : List (List UInt8)) (x : List UInt8) (hs : sortedK K) (hx : hasK K x = false) : sortedK (K.take (posF K x) ++ x :: K.drop (posF K x)) := by
  have hx2 : x ∉ K := by
    rw [hasK_mem K x hs] at hx
    simpa using hx
  have hsp : K = K.take (posF K x) ++ K.drop (posF K x) := (List.take_append_drop _ _).symm
  have hs2 := hs
  rw [hsp] at hs2
  obtain ⟨p1, p2, p3⟩ := List.pairwise_append.1 hs2
  have hle := posF_le x K
  have hb : ∀ b ∈ K.drop (posF K x), ltB x b = true := by
    intro b hb
    obtain ⟨t, ht, rfl⟩ := List.getElem_of_mem hb
    rw [List.getElem_drop]
    have ht2 : posF K x + t < K.length := by rw [List.length_drop] at ht; omega
    exact lt_of_not _ _ (posF_above x K hs _ ht2 (by omega)) (fun e => hx2 (by rw [e]; exact List.getElem_mem _))
  have ha : ∀ a ∈ K.take (posF K x), ltB a x = true := by
    intro a ha
    obtain ⟨t, ht, rfl⟩ := List.getElem_of_mem ha
    rw [List.length_take] at ht
    rw [List.getElem_take]
    exact posF_below x K t (by omega) (by omega)
  refine List.pairwise_append.2 ⟨p1, List.pairwise_cons.2 ⟨hb, p2⟩, ?_⟩
  intro a h1 b h2
  rcases List.mem_cons.1 h2 with rfl | h2
  · exact ha a h1
  · exact p3 a h1 b h2
theorem del_sorted (K : List (List UInt8)) (i : Nat) (hs : sortedK K) : sortedK (K.take i ++ K.drop (i + 1)) := by
  have : (K.take i ++ K.drop (i + 1)).Sublist K := by
    rw [← List.eraseIdx_eq_take_drop_succ]
    exact List.eraseIdx_sublist _ _
  exact hs.sublist this
/-- What is put. -/
def putK (K : List (List UInt8)) (x : List UInt8) : List (List UInt8) := if hasK K x then K else K.take (posF K x) ++ x :: K.drop (posF K x)
def putV (K : List (List UInt8)) (V : List Value) (x : List UInt8) (u : Value) : List Value := if hasK K x then V.set (posF K x) u else V.take (posF K x) ++ u :: V.drop (posF K x)
def dropK (K : List (List UInt8)) (x : List UInt8) : List (List UInt8) := if hasK K x then K.take (posF K x) ++ K.drop (posF K x + 1) else K
def dropV (K : List (List UInt8)) (V : List Value) (x : List UInt8) : List Value := if hasK K x then V.take (posF K x) ++ V.drop (posF K x + 1) else V
theorem putK_sorted (K : List (List UInt8)) (x : List UInt8) (hs : sortedK K) : sortedK (putK K x) := by
  rw [putK]
  rcases h : hasK K x with _ | _
  · rw [if_neg (by simp)]; exact ins_sorted K x hs h
  · rw [if_pos rfl]; exact hs
theorem dropK_sorted (K : List (List UInt8)) (x : List UInt8) (hs : sortedK K) : sortedK (dropK K x) := by
  rw [dropK]
  split
  · exact del_sorted K _ hs
  · exact hs
theorem putV_len (K : List (List UInt8)) (V : List Value) (x : List UInt8) (u : Value) (h : V.length = K.length) : (putV K V x u).length = (putK K x).length := by
  have := posF_le x K
  rw [putV, putK]
  split
  · rw [List.length_set]; exact h
  · simp only [List.length_append, List.length_cons, List.length_take, List.length_drop]; omega
theorem putV_one (K : List (List UInt8)) (V : List Value) (x : List UInt8) (u : Value) (h : ∀ z ∈ V, z.oneCell' = true) (hu : u.oneCell' = true) : ∀ z ∈ putV K V x u, z.oneCell' = true := by
  intro z hz
  rw [putV] at hz
  split at hz
  · rcases List.mem_or_eq_of_mem_set hz with h1 | h1
    · exact h z h1
    · rw [h1]; exact hu
  · rcases List.mem_append.1 hz with h1 | h1
    · exact h z (List.mem_of_mem_take h1)
    · rcases List.mem_cons.1 h1 with h1 | h1
      · rw [h1]; exact hu
      · exact h z (List.mem_of_mem_drop h1)
theorem hasK_lt (K : List (List UInt8)) (x : List UInt8) (h : hasK K x = true) : posF K x < K.length := by
  rw [hasK, decide_eq_true_iff] at h
  exact (List.getElem?_eq_some_iff.1 h).1
end Go.Proofs.YtfhfinnjlihghaaSep
