/- Own work: OpenEnds at all inputs. -/
import Derived.Test.YtbijlkbfndkdcaaDoorOpEnds
import Derived.Test.YtbijlkbfndkdcaaDoorOpV
namespace Go.Proofs.YtbijlkbfndkdcaaDoorSep
open Go.RowKit Go.Lib Go.Proofs
set_option maxHeartbeats 1000000 in
theorem openEnds_long (w : World) (v : Value) (L : List Nm) (g0 : Sl w v 2 L.length (namesC L)) (hL : 30 < L.length) (a b : List UInt8) (al : Bool) (u : Value) (hU : Usual w (Old w) u) :
    Calls Tryd.prog 3 #[v, .string (str a), .string (str b), .bool al] w fun e w' => e = .returned (.bool true) ∧ Below w.heap.size w w' := by
  obtain ⟨_, A, c, rfl, _⟩ := g0
  have HH := Kp.mk (law_head hU (((own_start w).box (.cells #[.string (str a)] 9)).box (.cells #[.string (str b)] 9)))
  have h30 : (30 : Int) < (L.length : Int) := by omega
  clear hU
  go_enter Tryd.func3, Tryd.ntmps3
  go_wp2_with fail
  refine HH.out.mono ?_
  rintro e w1 ⟨rfl, H1⟩
  replace H1 := Kp.mk H1
  clear HH
  go_wp2
  go_ret
  exact ⟨rfl, H1.out.old⟩
theorem openEnds_walk (w : World) (v : Value) (L : List Nm) (g0 : Sl w v 2 L.length (namesC L)) (_ : ∀ o ∈ L, o.1.length = o.1.length) (a : ByteArray) (_ : a.size ≤ 140737488351232) (b : ByteArray) (_ : b.size ≤ 140737488351232) (al : Bool)
    (hu : ∃ u uI, (w.cell? ⟨1, 0, none⟩ = some u ∧ Sl w u 1 9 (SV usualT)) ∧ w.cell? ⟨0, 0, none⟩ = some uI ∧ Sl w uI 1 10 (SV implT)) :
    Calls Tryd.prog 3 #[v, .string a, .string b, .bool al] w fun e w' => e = .returned (.bool true) ∧ Below w.heap.size w w' := by
  obtain ⟨u, uI, h1, h2⟩ := hu
  rw [← str_of a, ← str_of b]
  by_cases hL : L.length ≤ 30
  · exact openEnds_core w v L g0 hL _ _ al u (Usual.of h1) uI (Implied.of h2)
  · exact openEnds_long w v L g0 (by omega) _ _ al u (Usual.of h1)
end Go.Proofs.YtbijlkbfndkdcaaDoorSep
