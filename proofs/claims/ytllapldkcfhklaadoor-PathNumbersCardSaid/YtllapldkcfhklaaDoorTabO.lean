/- Own work: a table over what is owned: its two rows and its struct. -/
import Derived.Test.YtllapldkcfhklaaDoorSearch
import Derived.Test.YtllapldkcfhklaaDoorCopy
import Derived.Test.YtllapldkcfhklaaDoorMore
import Derived.Test.YtllapldkcfhklaaDoorSV
namespace Go.Proofs.YtllapldkcfhklaaDoorSep
open Go.RowKit Go.Lib Go.Proofs

instance : Std.Associative (α := HP) (· * ·) := ⟨star_assoc⟩
instance : Std.Commutative (α := HP) (· * ·) := ⟨star_comm⟩
theorem set0_two (a b u : Value) (rest : List Value) : (a :: b :: rest).toArray.setIfInBounds 0 u = (u :: b :: rest).toArray := by simp
theorem set1_two (a b u : Value) (rest : List Value) : (a :: b :: rest).toArray.setIfInBounds 1 u = (a :: u :: rest).toArray := by simp
/-- A table whose struct lies at the head of block g; behind its two slices lies 'rest'. -/
def TabO (W0 w : World) (R : HP) (g T : Nat) (rest : List Value) (e : TypeId) (K : List (List UInt8)) (V : List Value) : Prop :=
  ∃ vk vv, Own W0 w (R * Row 9 1 vk K.length (SV K) * Row e 1 vv K.length V * Blk g (.cells (vk :: vv :: rest).toArray T))
section
variable {W0 w : World} {R A B C : HP}
theorem Own.tabK (H : Own W0 w (R * A * B * C)) : Own W0 w (R * B * A * C) := H.eq (by rw [star_right_comm R A B])
theorem Own.tabV (H : Own W0 w (R * A * B * C)) : Own W0 w (R * A * C * B) := H.rot
theorem Own.tabVback (H : Own W0 w (R * A * C * B)) : Own W0 w (R * A * B * C) := H.rot
end
theorem bin_empty {w : World} {A : Option Addr} {c : Nat} (x : List UInt8) :
    Calls Tryd.prog 51 #[.slice A 0 c, .string (str x)] w fun e w' => e = .returned (.tuple #[.int .i64 (posF [] x : Nat), .bool (hasK [] x)]) ∧ w' = w := by
  have h1 : posF [] x = 0 := rfl
  have h2 : hasK [] x = false := rfl
  rw [h1, h2]
  go_enter Tryd.func51, Tryd.ntmps51
  go_wp2
  go_loopg [7, 8] 0 (fun gk vi vj wr => vi = .int .i64 0 ∧ vj = .int .i64 0 ∧ wr = w)
  case atStart => exact ⟨rfl, rfl, rfl⟩
  case round =>
    obtain ⟨rfl, rfl, rfl⟩ := hrel
    go_wp2
    go_ret2
    exact ⟨rfl, rfl⟩
theorem bin_searchO {W0 w : World} {P : HP} {v : Value} {K : List (List UInt8)} {B : HP} (H : Own W0 w (P * Row 9 1 v K.length (SV K) * B)) (x : List UInt8) (hK : sortedK K) (hb : K.length ≤ 1000000) :
    Calls Tryd.prog 51 #[v, .string (str x)] w fun e w' => e = .returned (.tuple #[.int .i64 (posF K x : Nat), .bool (hasK K x)]) ∧ w' = w := by
  rcases Nat.eq_zero_or_pos K.length with h0 | h0
  · obtain rfl : K = [] := List.eq_nil_of_length_eq_zero h0
    obtain ⟨A, c, rfl, _⟩ := (H.rot.sl (by decide)).2
    exact bin_empty x
  · obtain ⟨g, c, rfl, _, _⟩ := H.rot.at0 h0
    exact bin_search x hK rfl hb (fun j h => H.rot.cellR j _ (by rw [SV, List.getElem?_map, List.getElem?_eq_getElem h]; rfl))
end Go.Proofs.YtllapldkcfhklaaDoorSep
