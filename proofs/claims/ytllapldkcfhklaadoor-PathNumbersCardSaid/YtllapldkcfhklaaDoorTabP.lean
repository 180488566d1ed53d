/- Own work: texts in order, tables by lists: plain. -/
import Derived.Test.YtllapldkcfhklaaDoorStr
namespace Go.Proofs.YtllapldkcfhklaaDoorSep
open Go.RowKit Go.Lib Go.Proofs

def ltB (a b : List UInt8) : Bool := Op.bytesLess a b
theorem ltB_irr : ∀ a : List UInt8, ltB a a = false
  | [] => rfl
  | a :: x => by
    have := ltB_irr x
    unfold ltB at this ⊢
    rw [Op.bytesLess, this]
    simp
theorem ltB_trans : ∀ a b c : List UInt8, ltB a b = true → ltB b c = true → ltB a c = true
  | _, [], _, h, _ => by unfold ltB Op.bytesLess at h; simp at h
  | _, _ :: _, [], _, h => by unfold ltB Op.bytesLess at h; simp at h
  | [], _ :: _, _ :: _, _, _ => rfl
  | a :: x, b :: y, c :: z, h1, h2 => by
    have ih := ltB_trans x y z
    unfold ltB at *
    rw [Op.bytesLess] at h1 h2 ⊢
    simp only [Bool.or_eq_true, decide_eq_true_eq, Bool.and_eq_true, beq_iff_eq] at h1 h2 ⊢
    rcases h1 with h1 | ⟨rfl, h1⟩
    · rcases h2 with h2 | ⟨rfl, _⟩
      · exact .inl (UInt8.lt_trans h1 h2)
      · exact .inl h1
    · rcases h2 with h2 | ⟨rfl, h2⟩
      · exact .inl h2
      · exact .inr ⟨rfl, ih h1 h2⟩
theorem ltB_tri : ∀ a b : List UInt8, ltB a b = false → ltB b a = false → a = b
  | [], [], _, _ => rfl
  | [], _ :: _, h, _ => by unfold ltB Op.bytesLess at h; simp at h
  | _ :: _, [], _, h => by unfold ltB Op.bytesLess at h; simp at h
  | a :: x, b :: y, h1, h2 => by
    have ih := ltB_tri x y
    unfold ltB at *
    rw [Op.bytesLess] at h1 h2
    simp only [Bool.or_eq_false_iff, decide_eq_false_iff_not, Bool.and_eq_false_iff] at h1 h2
    obtain ⟨h1, h3⟩ := h1
    obtain ⟨h2, h4⟩ := h2
    have hab : a = b := by
      have := UInt8.le_antisymm (UInt8.not_lt.1 h2) (UInt8.not_lt.1 h1)
      exact this
    subst hab
    simp at h3 h4
    rw [ih h3 h4]
/-- Where a text stands in a list in order, or would. -/
def posF (K : List (List UInt8)) (x : List UInt8) : Nat := match K with
  | [] => 0
  | k :: K => if ltB k x then posF K x + 1 else 0
def sortedK (K : List (List UInt8)) : Prop := K.Pairwise (fun a b => ltB a b = true)
theorem posF_le (x : List UInt8) : ∀ K, posF K x ≤ K.length
  | [] => Nat.le_refl _
  | k :: K => by
    have := posF_le x K
    rw [posF, List.length_cons]
    split <;> omega
theorem posF_below (x : List UInt8) : ∀ (K : List (List UInt8)) (t : Nat) (h : t < K.length), t < posF K x → ltB K[t] x = true
  | [], t, h, _ => by simp at h
  | k :: K, t, h, ht => by
    rw [posF] at ht
    split at ht
    · rename_i hk
      cases t with
      | zero => exact hk
      | succ t => exact posF_below x K t (by simpa using h) (by omega)
    · omega
theorem posF_above (x : List UInt8) : ∀ (K : List (List UInt8)), sortedK K → ∀ (t : Nat) (h : t < K.length), posF K x ≤ t → ltB K[t] x = false
  | [], _, t, h, _ => by simp at h
  | k :: K, hs, t, h, ht => by
    have hs2 := List.pairwise_cons.1 hs
    rw [posF] at ht
    split at ht
    · cases t with
      | zero => omega
      | succ t => exact posF_above x K hs2.2 t (by simpa using h) (by omega)
    · rename_i hk
      have hk : ltB k x = false := by simpa using hk
      cases t with
      | zero => exact hk
      | succ t =>
        have ht2 : t < K.length := by simpa using h
        have h1 := hs2.1 (K[t]'ht2) (List.getElem_mem _)
        rcases hb : ltB (K[t]'ht2) x with _ | _
        · exact hb
        · have := ltB_trans _ _ _ h1 hb
          rw [hk] at this
          cases this
def hasK (K : List (List UInt8)) (x : List UInt8) : Bool := decide (K[posF K x]? = some x)
theorem hasK_mem (K : List (List UInt8)) (x : List UInt8) (hs : sortedK K) : hasK K x = decide (x ∈ K) := by
  unfold hasK
  rw [decide_eq_decide]
  constructor
  · exact fun h => List.mem_of_getElem? h
  · intro h
    obtain ⟨t, ht, hx⟩ := List.getElem_of_mem h
    have h1 : posF K x = t := by
      rcases Nat.lt_trichotomy (posF K x) t with h2 | h2 | h2
      · exfalso
        have hp : posF K x < K.length := by omega
        have h3 := List.pairwise_iff_getElem.1 hs (posF K x) t hp ht h2
        have h4 := posF_above x K hs (posF K x) hp (Nat.le_refl _)
        rw [hx] at h3
        rw [h3] at h4
        cases h4
      · exact h2
      · exfalso
        have h3 := posF_below x K t ht h2
        rw [hx, ltB_irr] at h3
        cases h3
    rw [h1, List.getElem?_eq_getElem ht, hx]
end Go.Proofs.YtllapldkcfhklaaDoorSep
