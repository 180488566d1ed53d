/- Own work: OpenStacks at all inputs. -/
import Derived.Test.YtbijlkbfndkdcaaDoorOpK
import Derived.Test.YtbijlkbfndkdcaaDoorOpJ
import Derived.Test.YtbijlkbfndkdcaaDoorOpU
namespace Go.Proofs.YtbijlkbfndkdcaaDoorSep
open Go.RowKit Go.Lib Go.Proofs
theorem openStacks_walk (w : World) (v : Value) (zs : List Int) (_ : ∀ x ∈ zs, (Lit.int .i64 x).wf = true) (hz : zs.length * 8 ≤ 140737488351232) (g0 : Sl w v 1 zs.length (zs.map (Value.int .i64))) (hu : ∃ u, w.cell? ⟨1, 0, none⟩ = some u ∧ Sl w u 1 9 (SV usualT)) :
    Calls Tryd.prog 6 #[v] w fun e w' => e = .returned (.bool true) ∧ Below w.heap.size w w' := by
  obtain ⟨u, hu⟩ := hu
  exact openStacks_core w v zs g0 (by omega) u (Usual.of hu) ⟨fun F d A4 c4 sv l s wr kk n H hl hk => stack_Insert H hl kk n hk⟩
end Go.Proofs.YtbijlkbfndkdcaaDoorSep
