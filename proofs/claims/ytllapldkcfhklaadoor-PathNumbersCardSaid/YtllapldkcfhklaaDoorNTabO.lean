/- Own work: a table over what is owned: its two rows and its struct. -/
import Derived.Test.YtllapldkcfhklaaDoorNSearch
import Derived.Test.YtllapldkcfhklaaDoorTabO
import Derived.Test.YtllapldkcfhklaaDoorMore
namespace Go.Proofs.YtllapldkcfhklaaDoorSep
open Go.RowKit Go.Lib Go.Proofs

/-- Numbers as values. -/
def IV (l : List Int) : List Value := l.map fun x => .int .i64 x
theorem IV_one (a : List Int) : ∀ u ∈ IV a, u.oneCell' = true := by
  intro u hu
  simp only [IV, List.mem_map] at hu
  obtain ⟨b, _, rfl⟩ := hu
  rfl
theorem IV_length (a : List Int) : (IV a).length = a.length := by simp [IV]
/-- A table whose struct lies at the head of block g; behind its two slices lies 'rest'. -/
def TabI (W0 w : World) (R : HP) (g T : Nat) (rest : List Value) (e : TypeId) (K : List Int) (V : List Value) : Prop :=
  ∃ vk vv, Own W0 w (R * Row 3 1 vk K.length (IV K) * Row e 1 vv K.length V * Blk g (.cells (vk :: vv :: rest).toArray T))
theorem binI_empty {w : World} {A : Option Addr} {c : Nat} (x : Int) :
    Calls Tryd.prog 46 #[.slice A 0 c, .int .i64 x] w fun e w' => e = .returned (.tuple #[.int .i64 (posI [] x : Nat), .bool (hasI [] x)]) ∧ w' = w := by
  have h1 : posI [] x = 0 := rfl
  have h2 : hasI [] x = false := rfl
  rw [h1, h2]
  go_enter Tryd.func46, Tryd.ntmps46
  go_wp2
  go_loopg [7, 8] 0 (fun gk vi vj wr => vi = .int .i64 0 ∧ vj = .int .i64 0 ∧ wr = w)
  case atStart => exact ⟨rfl, rfl, rfl⟩
  case round =>
    obtain ⟨rfl, rfl, rfl⟩ := hrel
    go_wp2
    go_ret2
    exact ⟨rfl, rfl⟩
theorem binI_searchO {W0 w : World} {P : HP} {v : Value} {K : List Int} {B : HP} (H : Own W0 w (P * Row 3 1 v K.length (IV K) * B)) (x : Int) (hK : sortedI K) (hb : K.length ≤ 1000000) :
    Calls Tryd.prog 46 #[v, .int .i64 x] w fun e w' => e = .returned (.tuple #[.int .i64 (posI K x : Nat), .bool (hasI K x)]) ∧ w' = w := by
  rcases Nat.eq_zero_or_pos K.length with h0 | h0
  · obtain rfl : K = [] := List.eq_nil_of_length_eq_zero h0
    obtain ⟨A, c, rfl, _⟩ := (H.rot.sl (by decide)).2
    exact binI_empty x
  · obtain ⟨g, c, rfl, _, _⟩ := H.rot.at0 h0
    exact binI_search x hK rfl hb (fun j h => H.rot.cellR j _ (by rw [IV, List.getElem?_map, List.getElem?_eq_getElem h]; rfl))
end Go.Proofs.YtllapldkcfhklaaDoorSep
