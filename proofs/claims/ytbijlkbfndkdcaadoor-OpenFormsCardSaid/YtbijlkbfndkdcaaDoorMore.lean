/- Own work: more of rows that are owned: a shorter slice, the elements' cells. No program in it. -/
import Derived.Test.YtbijlkbfndkdcaaDoorLaw
namespace Go.Proofs.YtbijlkbfndkdcaaDoorSep
open Go.RowKit Go.Lib

section
variable {W0 w : World} {P R X : HP} {e sz n m : Nat} {v : Value} {cs : List Value}
/-- A slice that is owned and has elements: its block, its room. -/
theorem Own.at0 (H : Own W0 w (P * Row e sz v n cs)) (hn : 0 < n) : ∃ g c, v = .slice (some ⟨g, 0, none⟩) n c ∧ n ≤ c ∧ c ≤ maxLen := by
  rcases H.split with h | ⟨⟨h0, _, _⟩, _⟩
  · obtain ⟨_, h⟩ := h.row
    rcases h with ⟨_, h0⟩ | ⟨g, cap, cur, rfl, _, _, h1, h2, _⟩
    · omega
    · exact ⟨g, cap, rfl, h1, h2⟩
  · omega
theorem Own.cellR {g c : Nat} (H : Own W0 w (P * Row e 1 (.slice (some ⟨g, 0, none⟩) n c) n cs)) (j : Nat) (u : Value) (hj : cs[j]? = some u) : w.cell? ⟨g, j, none⟩ = some u := by
  have hn : 0 < n := by
    have := (H.sl (by decide)).1
    have := (List.getElem?_eq_some_iff.1 hj).1
    omega
  obtain ⟨_, A, c', hv, _, _, _, h⟩ := H.sl (by decide)
  injection hv with h1 h2 h3
  subst h1
  obtain ⟨ad, hA, hc⟩ := h hn
  injection hA with hA
  subst hA
  have := hc j u hj
  have hadd : (⟨g, 0, none⟩ : Addr).add j = ⟨g, j, none⟩ := by unfold Addr.add; split <;> simp_all
  rw [hadd] at this
  exact this
/-- A shorter slice of the same row. -/
theorem Own.shrink {A : Option Addr} {c : Nat} (H : Own W0 w (P * Row e 1 (.slice A n c) n cs)) (hm : m ≤ n) : Own W0 w (P * Row e 1 (.slice A m c) m (cs.take m)) := by
  rcases H.split with h | ⟨⟨h0, h1, g, off, h2⟩, h⟩
  · refine Own.ofB (h.turn ?_)
    rintro x ⟨hl, hx⟩
    have hlen : (cs.take m).length = m * 1 := by rw [List.length_take]; omega
    refine ⟨hlen, ?_⟩
    rcases hx with ⟨h1, h2, h3⟩ | ⟨g, cap, cur, h1, h2, h3, h4, h5, h6⟩
    · injection h1 with a b c2
      subst a c2
      have hm0 : m = 0 := by omega
      exact .inl ⟨by rw [hm0], hm0, h3⟩
    · injection h1 with a b c2
      subst a c2
      refine .inr ⟨g, c, cur, rfl, h2, by omega, h4, h5, ?_⟩
      rw [← h6, List.take_take]
      congr 1
      omega
  · have hm0 : m = 0 := by omega
    subst hm0
    injection h2 with a b c2
    subst a c2
    rw [h1]
    simp only [List.take_nil]
    exact h.zero _ _ _ _
end
end Go.Proofs.YtbijlkbfndkdcaaDoorSep
