/- Own work: OpenForms at all inputs. -/
import Derived.Test.YtbijlkbfndkdcaaDoorOnC
namespace Go.Proofs.YtbijlkbfndkdcaaDoorSep
open Go.RowKit Go.Lib Go.Proofs
theorem openForms_walk (w : World) (v : Value) (L : List StM) (g0 : Sl w v 4 L.length (stepsC L)) (_ : ∀ o ∈ L, o.name.length = o.name.length) (hu : ∃ u, w.cell? ⟨1, 0, none⟩ = some u ∧ Sl w u 1 9 (SV usualT)) :
    Calls Tryd.prog 5 #[v] w fun e w' => e = .returned (.bool true) ∧ Below w.heap.size w w' := by
  obtain ⟨u, hu⟩ := hu
  exact openForms_core w v L g0 u (Usual.of hu)
end Go.Proofs.YtbijlkbfndkdcaaDoorSep
