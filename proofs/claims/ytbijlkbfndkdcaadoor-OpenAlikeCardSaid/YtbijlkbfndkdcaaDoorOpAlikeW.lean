/- Own work: OpenAlike at all inputs. -/
import Derived.Test.YtbijlkbfndkdcaaDoorOpAlike
namespace Go.Proofs.YtbijlkbfndkdcaaDoorSep
open Go.RowKit Go.Lib Go.Proofs
set_option maxHeartbeats 1000000 in
theorem openAlike_long (nm v ot : List UInt8) (w : World) (hb : ¬ (nm.length ≤ 20 ∧ v.length ≤ 20 ∧ ot.length ≤ 20)) (u : Value) (hU : Usual w (Old w) u) :
    Calls Tryd.prog 4 #[.string (str nm), .string (str v), .string (str ot)] w fun e w' => e = .returned (.bool true) ∧ Below w.heap.size w w' := by
  have z1 : (str nm).size = nm.length := str_size nm
  have z2 : (str v).size = v.length := str_size v
  have z3 : (str ot).size = ot.length := str_size ot
  have H0 := (own_start w).alloc (.cells #[.string (str nm)] 9)
  have HH := Kp.mk (law_head hU.more H0)
  have hc : 20 < nm.length ∨ (nm.length ≤ 20 ∧ 20 < v.length) ∨ (nm.length ≤ 20 ∧ v.length ≤ 20 ∧ 20 < ot.length) := by omega
  clear H0 hU hb
  rcases hc with h | ⟨ha, h⟩ | ⟨ha, hb, h⟩
  case' inl =>
    have t1 : decide ((20 : Int) < ((str nm).size : Int)) = true := decide_eq_true (by omega)
    have t1' : 20 < (str nm).size := by omega
  case' inr.inl =>
    have t1 : decide ((20 : Int) < ((str nm).size : Int)) = false := decide_eq_false (by omega)
    have t1' : ¬ 20 < (str nm).size := by omega
    have t2 : decide ((20 : Int) < ((str v).size : Int)) = true := decide_eq_true (by omega)
    have t2' : 20 < (str v).size := by omega
  case' inr.inr =>
    have t1 : decide ((20 : Int) < ((str nm).size : Int)) = false := decide_eq_false (by omega)
    have t1' : ¬ 20 < (str nm).size := by omega
    have t2 : decide ((20 : Int) < ((str v).size : Int)) = false := decide_eq_false (by omega)
    have t2' : ¬ 20 < (str v).size := by omega
    have t3 : decide ((20 : Int) < ((str ot).size : Int)) = true := decide_eq_true (by omega)
    have t3' : 20 < (str ot).size := by omega
  all_goals
    clear z1 z2 z3 h
    go_enter Tryd.func4, Tryd.ntmps4
    go_wp2_with fail
    refine HH.out.mono ?_
    rintro e w1 ⟨rfl, H1⟩
    have kn : w1.cell? ⟨w.heap.size, 0, none⟩ = some (.string (str nm)) := cell_blk H1.blk rfl
    replace H1 := Kp.mk H1
    clear HH
    go_wp2
    go_ret
    exact ⟨rfl, H1.out.drop.old⟩
theorem openAlike_walk (a : ByteArray) (_ : a.size ≤ 140737488351232) (b : ByteArray) (_ : b.size ≤ 140737488351232) (c : ByteArray) (_ : c.size ≤ 140737488351232) (w : World)
    (hu : ∃ u, w.cell? ⟨1, 0, none⟩ = some u ∧ Sl w u 1 9 (SV usualT)) :
    Calls Tryd.prog 4 #[.string a, .string b, .string c] w fun e w' => e = .returned (.bool true) ∧ Below w.heap.size w w' := by
  obtain ⟨u, h1⟩ := hu
  rw [← str_of a, ← str_of b, ← str_of c]
  by_cases hL : a.data.toList.length ≤ 20 ∧ b.data.toList.length ≤ 20 ∧ c.data.toList.length ≤ 20
  · exact openAlike_core _ _ _ w hL.1 hL.2.1 hL.2.2 u (Usual.of h1)
  · exact openAlike_long _ _ _ w hL u (Usual.of h1)
end Go.Proofs.YtbijlkbfndkdcaaDoorSep
