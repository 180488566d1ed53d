/- Own work: the law's own frame, its head, and FramePuts. -/
import Derived.Test.YtfpiaeodblbfjaaFrameB
namespace Go.Proofs.YtfpiaeodblbfjaaSep
open Go.RowKit Go.Lib Go.Proofs

set_option maxHeartbeats 800000 in
theorem framePuts_long (vb vl : Value) (b l : List UInt8) (w : World) (gb : Sl w vb 1 b.length (U b)) (gl : Sl w vl 1 l.length (U l)) (hlong : 100 < b.length ∨ 1000 < l.length) :
    Calls Try.prog 4 #[vb, vl] w fun e w' => e = .returned (.bool true) ∧ Below w.heap.size w w' := by
  have HH := Kp.mk (head5 (own_start w))
  obtain ⟨Ab, cb, rfl, jb⟩ := gb.2
  obtain ⟨Al, cl, rfl, jl⟩ := gl.2
  clear gb gl jb jl
  have hl2 : 100 < b.length ∨ (b.length ≤ 100 ∧ 1000 < l.length) := by omega
  clear hlong
  rcases hl2 with h1 | ⟨h1, h2⟩
  all_goals
    go_enter Try.func4, Try.ntmps4
    go_wp2_with fail
    refine HH.out.mono ?_
    rintro e w1 ⟨rfl, H1⟩
    go_wp2
    go_ret
    exact ⟨rfl, H1.old⟩
theorem framePuts_walk (w : World) (vb : Value) (b : List UInt8) (_ : b.length ≤ 140737488351232) (gb : Sl w vb 1 b.length (U b)) (vl : Value) (l : List UInt8) (_ : l.length ≤ 140737488351232) (gl : Sl w vl 1 l.length (U l)) :
    Calls Try.prog 4 #[vb, vl] w fun e w' => e = .returned (.bool true) ∧ Below w.heap.size w w' := by
  by_cases hb : b.length ≤ 100
  · by_cases hl : l.length ≤ 1000
    · exact framePuts_core vb vl b l w gb gl hb hl
    · exact framePuts_long vb vl b l w gb gl (by omega)
  · exact framePuts_long vb vl b l w gb gl (by omega)
end Go.Proofs.YtfpiaeodblbfjaaSep
