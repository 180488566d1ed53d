/- Own work: Remove, Insert of a stack, by walks. -/
import Derived.Test.YtbijlkbfndkdcaaDoorOpH
import Derived.Test.YtbijlkbfndkdcaaDoorInsint
import Derived.Test.YtbijlkbfndkdcaaDoorDelint
namespace Go.Proofs.YtbijlkbfndkdcaaDoorSep
open Go.RowKit Go.Lib Go.Proofs
section
variable {W0 w : World} {R : HP} {s d : Nat} {v : Value} {l : List Nat}
theorem IV_cut (l : List Nat) (k : Nat) : (IV l).take k ++ (IV l).drop (k + 1) = IV (l.take k ++ l.drop (k + 1)) := by simp [IV, List.map_take, List.map_drop]
theorem IV_put (l : List Nat) (k n : Nat) : (IV l).take k ++ Value.int .i64 (n : Int) :: (IV l).drop k = IV (l.take k ++ n :: l.drop k) := by simp [IV, List.map_take, List.map_drop]
def StkEnd (W0 : World) (R : HP) (s d : Nat) (l : List Nat) (e : Ending) (w' : World) : Prop := e = .returned (.tuple #[]) ∧ ∃ v', Own W0 w' (R * Row 3 1 v' l.length (IV l) * Blk s (stO d v'))
set_option maxHeartbeats 1000000 in
theorem stack_Remove (H : Own W0 w (R * Row 3 1 v l.length (IV l) * Blk s (stO d v))) (hl : l.length ≤ 100000) (n : Nat) :
    Calls Tryd.prog 25 #[.pointer (some ⟨s, 0, none⟩), .int .i64 n] w (StkEnd W0 R s d (l.erase n)) := by
  have HA := Kp.mk (stack_At H hl n)
  obtain ⟨_, A, c, rfl, _⟩ := H.drop.sl (by decide)
  have k1 := cell_blk (j := 1) (v := .slice A l.length c) H.blk rfl
  replace H := Kp.mk H
  go_enter Tryd.func25, Tryd.ntmps25
  go_wp2_with fail
  refine HA.out.mono ?_
  rintro e w1 ⟨r, rfl, hr, rfl⟩
  clear HA
  rcases hr with ⟨k, rfl, hk, hk2⟩ | ⟨rfl, hn⟩
  · have he := Kp.mk (erase_at hk hk2)
    have hlt := (List.getElem?_eq_some_iff.1 hk).1
    have HD := Kp.mk (del_int H.out.rot (by omega) (IV_one l) hlt)
    clear hk hk2
    go_wp2_with fail
    refine HD.out.mono ?_
    rintro e w2 ⟨v2, rfl, H2⟩
    clear HD
    obtain ⟨_, A2, c2, hv2, _⟩ := H2.sl (by decide)
    subst hv2
    have f2 := frz_blk (j := 1) (H2.focB s).blk
    have k2 := cell_blk (j := 1) (v := .slice A l.length c) (H2.focB s).blk rfl
    have H3 := (H2.focB s).set 1 (.slice A2 (l.length - 1) c2)
    have hlen : (l.erase n).length = l.length - 1 := by rw [he.out, List.length_append, List.length_take, List.length_drop]; omega
    rw [IV_cut, ← he.out] at H3
    replace H3 := Kp.mk H3
    clear H2 H
    go_wp2
    go_end0
    refine ⟨rfl, .slice A2 (l.length - 1) c2, ?_⟩
    rw [hlen]
    exact H3.out
  · have he := Kp.mk (List.erase_of_not_mem hn)
    clear hn
    go_wp2
    go_end0
    refine ⟨rfl, .slice A l.length c, ?_⟩
    rw [he.out]
    exact H.out
end
end Go.Proofs.YtbijlkbfndkdcaaDoorSep
