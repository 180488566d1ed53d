/- Own work: numbers in order, tables by lists: plain. -/
import Derived.Test.YtllapldkcfhklaaDoorStr
namespace Go.Proofs.YtllapldkcfhklaaDoorSep
open Go.RowKit Go.Lib Go.Proofs

def ltI (a b : Int) : Bool := decide (a < b)
theorem ltI_irr (a : Int) : ltI a a = false := by simp [ltI]
theorem ltI_trans (a b c : Int) (h1 : ltI a b = true) (h2 : ltI b c = true) : ltI a c = true := by simp [ltI] at *; omega
theorem ltI_tri (a b : Int) (h1 : ltI a b = false) (h2 : ltI b a = false) : a = b := by simp [ltI] at *; omega
/-- Where a text stands in a list in order, or would. -/
def posI (K : List Int) (x : Int) : Nat := match K with
  | [] => 0
  | k :: K => if ltI k x then posI K x + 1 else 0
def sortedI (K : List Int) : Prop := K.Pairwise (fun a b => ltI a b = true)
theorem posI_le (x : Int) : ∀ K, posI K x ≤ K.length
  | [] => Nat.le_refl _
  | k :: K => by
    have := posI_le x K
    rw [posI, List.length_cons]
    split <;> omega
theorem posI_below (x : Int) : ∀ (K : List Int) (t : Nat) (h : t < K.length), t < posI K x → ltI K[t] x = true
  | [], t, h, _ => by simp at h
  | k :: K, t, h, ht => by
    rw [posI] at ht
    split at ht
    · rename_i hk
      cases t with
      | zero => exact hk
      | succ t => exact posI_below x K t (by simpa using h) (by omega)
    · omega
theorem posI_above (x : Int) : ∀ (K : List Int), sortedI K → ∀ (t : Nat) (h : t < K.length), posI K x ≤ t → ltI K[t] x = false
  | [], _, t, h, _ => by simp at h
  | k :: K, hs, t, h, ht => by
    have hs2 := List.pairwise_cons.1 hs
    rw [posI] at ht
    split at ht
    · cases t with
      | zero => omega
      | succ t => exact posI_above x K hs2.2 t (by simpa using h) (by omega)
    · rename_i hk
      have hk : ltI k x = false := by simpa using hk
      cases t with
      | zero => exact hk
      | succ t =>
        have ht2 : t < K.length := by simpa using h
        have h1 := hs2.1 (K[t]'ht2) (List.getElem_mem _)
        rcases hb : ltI (K[t]'ht2) x with _ | _
        · exact hb
        · have := ltI_trans _ _ _ h1 hb
          rw [hk] at this
          cases this
def hasI (K : List Int) (x : Int) : Bool := decide (K[posI K x]? = some x)
theorem hasI_mem (K : List Int) (x : Int) (hs : sortedI K) : hasI K x = decide (x ∈ K) := by
  unfold hasI
  rw [decide_eq_decide]
  constructor
  · exact fun h => List.mem_of_getElem? h
  · intro h
    obtain ⟨t, ht, hx⟩ := List.getElem_of_mem h
    have h1 : posI K x = t := by
      rcases Nat.lt_trichotomy (posI K x) t with h2 | h2 | h2
      · exfalso
        have hp : posI K x < K.length := by omega
        have h3 := List.pairwise_iff_getElem.1 hs (posI K x) t hp ht h2
        have h4 := posI_above x K hs (posI K x) hp (Nat.le_refl _)
        rw [hx] at h3
        rw [h3] at h4
        cases h4
      · exact h2
      · exfalso
        have h3 := posI_below x K t ht h2
        rw [hx, ltI_irr] at h3
        cases h3
    rw [h1, List.getElem?_eq_getElem ht, hx]
end Go.Proofs.YtllapldkcfhklaaDoorSep
