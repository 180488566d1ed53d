/- Own work: what is put into a list in order, and taken out: plain. -/
import Derived.Test.YtllapldkcfhklaaDoorNTabP
namespace Go.Proofs.YtllapldkcfhklaaDoorSep
open Go.RowKit Go.Lib Go.Proofs

theorem ltI_of_not (a b : Int) (h : ltI b a = false) (hne : a ≠ b) : ltI a b = true := by
  rcases h2 : ltI a b with _ | _
  · exact absurd (ltI_tri a b h2 h) hne
  · rfl
theorem insI_sorted (K : List Int) (x : Int) (hs : sortedI K) (hx : hasI K x = false) : sortedI (K.take (posI K x) ++ x :: K.drop (posI K x)) := by
  have hx2 : x ∉ K := by
    rw [hasI_mem K x hs] at hx
    simpa using hx
  have hsp : K = K.take (posI K x) ++ K.drop (posI K x) := (List.take_append_drop _ _).symm
  have hs2 := hs
  rw [hsp] at hs2
  obtain ⟨p1, p2, p3⟩ := List.pairwise_append.1 hs2
  have hle := posI_le x K
  have hb : ∀ b ∈ K.drop (posI K x), ltI x b = true := by
    intro b hb
    obtain ⟨t, ht, rfl⟩ := List.getElem_of_mem hb
    rw [List.getElem_drop]
    have ht2 : posI K x + t < K.length := by rw [List.length_drop] at ht; omega
    exact ltI_of_not _ _ (posI_above x K hs _ ht2 (by omega)) (fun e => hx2 (by rw [e]; exact List.getElem_mem _))
  have ha : ∀ a ∈ K.take (posI K x), ltI a x = true := by
    intro a ha
    obtain ⟨t, ht, rfl⟩ := List.getElem_of_mem ha
    rw [List.length_take] at ht
    rw [List.getElem_take]
    exact posI_below x K t (by omega) (by omega)
  refine List.pairwise_append.2 ⟨p1, List.pairwise_cons.2 ⟨hb, p2⟩, ?_⟩
  intro a h1 b h2
  rcases List.mem_cons.1 h2 with rfl | h2
  · exact ha a h1
  · exact p3 a h1 b h2
theorem delI_sorted (K : List Int) (i : Nat) (hs : sortedI K) : sortedI (K.take i ++ K.drop (i + 1)) := by
  have : (K.take i ++ K.drop (i + 1)).Sublist K := by
    rw [← List.eraseIdx_eq_take_drop_succ]
    exact List.eraseIdx_sublist _ _
  exact hs.sublist this
/-- What is put. -/
def putI (K : List Int) (x : Int) : List Int := if hasI K x then K else K.take (posI K x) ++ x :: K.drop (posI K x)
def putW (K : List Int) (V : List Value) (x : Int) (u : Value) : List Value := if hasI K x then V.set (posI K x) u else V.take (posI K x) ++ u :: V.drop (posI K x)
def dropI (K : List Int) (x : Int) : List Int := if hasI K x then K.take (posI K x) ++ K.drop (posI K x + 1) else K
def dropW (K : List Int) (V : List Value) (x : Int) : List Value := if hasI K x then V.take (posI K x) ++ V.drop (posI K x + 1) else V
theorem putI_sorted (K : List Int) (x : Int) (hs : sortedI K) : sortedI (putI K x) := by
  rw [putI]
  rcases h : hasI K x with _ | _
  · rw [if_neg (by simp)]; exact insI_sorted K x hs h
  · rw [if_pos rfl]; exact hs
theorem dropI_sorted (K : List Int) (x : Int) (hs : sortedI K) : sortedI (dropI K x) := by
  rw [dropI]
  split
  · exact delI_sorted K _ hs
  · exact hs
theorem putW_len (K : List Int) (V : List Value) (x : Int) (u : Value) (h : V.length = K.length) : (putW K V x u).length = (putI K x).length := by
  have := posI_le x K
  rw [putW, putI]
  split
  · rw [List.length_set]; exact h
  · simp only [List.length_append, List.length_cons, List.length_take, List.length_drop]; omega
theorem putW_one (K : List Int) (V : List Value) (x : Int) (u : Value) (h : ∀ z ∈ V, z.oneCell' = true) (hu : u.oneCell' = true) : ∀ z ∈ putW K V x u, z.oneCell' = true := by
  intro z hz
  rw [putW] at hz
  split at hz
  · rcases List.mem_or_eq_of_mem_set hz with h1 | h1
    · exact h z h1
    · rw [h1]; exact hu
  · rcases List.mem_append.1 hz with h1 | h1
    · exact h z (List.mem_of_mem_take h1)
    · rcases List.mem_cons.1 h1 with h1 | h1
      · rw [h1]; exact hu
      · exact h z (List.mem_of_mem_drop h1)
theorem hasI_lt (K : List Int) (x : Int) (h : hasI K x = true) : posI K x < K.length := by
  rw [hasI, decide_eq_true_iff] at h
  exact (List.getElem?_eq_some_iff.1 h).1
end Go.Proofs.YtllapldkcfhklaaDoorSep
