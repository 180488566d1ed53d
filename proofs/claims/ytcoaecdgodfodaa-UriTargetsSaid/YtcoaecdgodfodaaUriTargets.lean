/- Own work: the law UriTargets, at all inputs. -/
import Derived.Test.YtcoaecdgodfodaaUriS
namespace Go.Proofs.YtcoaecdgodfodaaSep
open Go.RowKit Go.Lib Go.Proofs

set_option maxHeartbeats 1000000 in
theorem uriTargets_long (a s : ByteArray) (w : World) (h : 100 < a.size ∨ a.size ≤ 100 ∧ 200 < s.size) :
    Calls Try.prog 5 #[.string a, .string s] w fun e w' => e = .returned (.bool true) ∧ Below w.heap.size w w' := by
  have HH := Kp.mk (law_head (own_start w))
  rcases h with h | ⟨h1, h⟩
  case' inr =>
    have t1 : decide ((100 : Int) < (a.size : Int)) = false := decide_eq_false (by omega)
    have t1' : decide (100 < a.size) = false := decide_eq_false (by omega)
    have t2 : decide ((200 : Int) < (s.size : Int)) = true := decide_eq_true (by omega)
    have t2' : decide (200 < s.size) = true := decide_eq_true (by omega)
  case' inl =>
    have t1 : decide ((100 : Int) < (a.size : Int)) = true := decide_eq_true (by omega)
    have t1' : decide (100 < a.size) = true := decide_eq_true (by omega)
  all_goals
    go_enter Try.func5, Try.ntmps5
    go_wp2_with fail
    refine HH.out.mono ?_
    rintro e w1 ⟨rfl, H1⟩
    have H1 := Kp.mk H1
    clear HH
    go_wp2
    go_ret
    exact ⟨rfl, H1.out.old⟩
theorem uriTargets_walk (a : ByteArray) (_ : a.size ≤ 140737488351232) (s : ByteArray) (_ : s.size ≤ 140737488351232) (w : World) :
    Calls Try.prog 5 #[.string a, .string s] w fun e w' => e = .returned (.bool true) ∧ Below w.heap.size w w' := by
  by_cases h1 : a.size ≤ 100
  · by_cases h2 : s.size ≤ 200
    · have h := uriTargets_core a.data.toList s.data.toList w (by rw [data_length]; omega) (by rw [data_length]; omega)
      rw [str_of, str_of] at h
      exact h
    · exact uriTargets_long a s w (.inr ⟨h1, by omega⟩)
  · exact uriTargets_long a s w (.inl (by omega))
end Go.Proofs.YtcoaecdgodfodaaSep
