/- Own work: FrameAlls at every argument. -/
import Derived.Test.YtfpiaeodblbfjaaFrameAlls
namespace Go.Proofs.YtfpiaeodblbfjaaSep
open Go.RowKit Go.Lib Go.Proofs Go.Shelf
attribute [local go_sem] Oper.semAt_some

set_option maxHeartbeats 1000000 in
set_option maxRecDepth 100000 in
theorem frameAlls_long (w : World) (v0 : Value) (vs : List Value) (ds : List (List UInt8)) (g : Rows2 w v0 vs ds) (a s : Int) (hn : 10 < ds.length) :
    Calls Try.prog 8 #[v0, .int .i64 a, .int .i64 s] w fun e w' => e = .returned (.bool true) ∧ Below w.heap.size w w' := by
  obtain ⟨A0, cc, rfl, l0, _⟩ := g.sl.2
  clear g
  have HS := own_start w
  have H0 := ((((HS.alloc (.cells #[.slice A0 ds.length cc] 48)).alloc (.cells #[.int .i64 a] 3)).alloc (.cells #[.int .i64 s] 3)).alloc (.cells #[.bool false] 4))
  simp only [World.size_alloc] at H0
  have HH := Kp.mk (head5 H0)
  clear HS H0
  refine (callsIn_wide (n := 9)).1 ?_
  refine callsIn_of_wp_marks Try.func8 rfl trivial ?_ rfl
  simp only [Try.ntmps8, List.size_toArray, List.length_cons, List.length_nil, Nat.reduceAdd, Nat.reduceSub, Array.replicate_succ, Array.replicate_zero, List.push_toArray, List.append_toArray, List.nil_append, List.cons_append]
  gi_wp2
  refine ⟨trivial, (callsIn_wide.2 HH.out).mono ?_⟩
  rintro e w1 ⟨rfl, H1⟩
  obtain ⟨b, hb⟩ : ∃ b, Kp (w.heap.size = b) := ⟨_, ⟨rfl⟩⟩
  rw [hb.out] at H1 ⊢
  have c0 : w1.cell? ⟨b, 0, none⟩ = some (.slice A0 ds.length cc) := cell_blk (H1.focB b).blk rfl
  have r3 := cell_blk (j := 0) (v := .bool false) (H1.focB (b + 1 + 1 + 1)).blk rfl
  have z3 : w1.frozen? ⟨b + 1 + 1 + 1, 0, none⟩ = false := frz_blk (H1.focB (b + 1 + 1 + 1)).blk
  have H5 : Own w (w1.setCell ⟨b + 1 + 1 + 1, 0, none⟩ (.bool true)) (_ * Blk (b + 1 + 1 + 1) (.cells #[.bool true] 4)) := (H1.focB (b + 1 + 1 + 1)).set 0 (.bool true)
  have r5 := cell_blk (j := 0) (v := .bool true) H5.blk rfl
  have H5 := Kp.mk H5
  have t1 : decide ((10 : Int) < (ds.length : Int)) = true := decide_eq_true (by omega)
  have t1b : decide (10 < ds.length) = true := decide_eq_true (by omega)
  clear HH H1 hn
  gi_wp2
  refine ⟨.bool true, ?_, rfl, H5.out.oldF⟩
  rw [results_cell1 rfl]
  go_simp
theorem frameAlls_walk (w : World) (v0 : Value) (vs : List Value) (ds : List (List UInt8)) (g : Rows2 w v0 vs ds) (a : Int) (_ : (Lit.int .i64 a).wf = true) (s : Int) (_ : (Lit.int .i64 s).wf = true) :
    Calls Try.prog 8 #[v0, .int .i64 a, .int .i64 s] w fun e w' => e = .returned (.bool true) ∧ Below w.heap.size w w' := by
  by_cases hn : ds.length ≤ 10
  · exact frameAlls_core w v0 vs ds g a s hn
  · exact frameAlls_long w v0 vs ds g a s (by omega)
end Go.Proofs.YtfpiaeodblbfjaaSep
