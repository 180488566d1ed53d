/- Own work: Insert of a stack, by a walk. -/
import Derived.Test.YtbijlkbfndkdcaaDoorOpI
namespace Go.Proofs.YtbijlkbfndkdcaaDoorSep
open Go.RowKit Go.Lib Go.Proofs
section
variable {W0 w : World} {R : HP} {s d : Nat} {v : Value} {l : List Nat}
set_option maxHeartbeats 4000000 in
theorem stack_Insert (H : Own W0 w (R * Row 3 1 v l.length (IV l) * Blk s (stO d v))) (hl : l.length ≤ 100000) (k n : Nat) (hk : k ≤ l.length) :
    Calls Tryd.prog 26 #[.pointer (some ⟨s, 0, none⟩), .int .i64 k, .int .i64 n] w (StkEnd W0 R s d (l.take k ++ n :: l.drop k)) := by
  obtain ⟨_, A, c, rfl, _⟩ := H.drop.sl (by decide)
  have k1 := cell_blk (j := 1) (v := .slice A l.length c) H.blk rfl
  have f1 := frz_blk (j := 1) H.blk
  have k1b := cell_blk (j := 1) (v := .slice A l.length c) ((H.alloc (.cells #[.int .i64 (n : Int)] 3)).focB s).blk rfl
  have HI := ins_int (x := .int .i64 (n : Int)) (i := k) (H.rot.alloc (.cells #[.int .i64 (n : Int)] 3)).drew (by omega) rfl (IV_one l) hk
  unfold InsEnd at HI
  replace HI := Kp.mk HI
  replace H := Kp.mk H
  go_enter Tryd.func26, Tryd.ntmps26
  have hlen := Kp.mk (show (l.take k ++ n :: l.drop k).length = l.length + 1 by rw [List.length_append, List.length_cons, List.length_take, List.length_drop]; omega)
  have hfin : Kp (∀ (w9 : World) (A9 : Option Addr) (c9 : Nat), Own W0 w9 (R * Row 3 1 (.slice A9 (l.length + 1) c9) (l.length + 1) (IV (l.take k ++ n :: l.drop k)) * Blk s (stO d (.slice A9 (l.length + 1) c9))) → Own W0 w9 (R * Row 3 1 (.slice A9 (l.length + 1) c9) (l.take k ++ n :: l.drop k).length (IV (l.take k ++ n :: l.drop k)) * Blk s (stO d (.slice A9 (l.length + 1) c9)))) := ⟨fun w9 A9 c9 h => by rw [hlen.out]; exact h⟩
  have h1 : ¬ (l.length < k) := by omega
  have h1' : ¬ ((l.length : Int) < (k : Int)) := by omega
  rcases Nat.eq_zero_or_pos k with h0 | h0
  case' inl => subst h0
  case' inr => have h2 : (0 : Int) < (k : Int) := by omega
  all_goals
    go_wp2
    go_region_law (go_simp; (go_at_call 36; refine HI.out.mono ?_; rintro e w2 ⟨v2, rfl, H2⟩; obtain ⟨_, A2, c2, hv2, _⟩ := H2.sl (by decide); subst hv2; have f2 := frz_blk (j := 1) (H2.focB s).blk; have k2 := cell_blk (j := 1) (v := .slice A l.length c) (H2.focB s).blk rfl))
    all_goals
      have H3 := (H2.focB s).set 1 (.slice A2 (l.length + 1) c2)
      rw [IV_put] at H3
      replace H3 := Kp.mk H3
      clear H2
      go_wp2
      go_end0
      refine ⟨rfl, .slice A2 (l.length + 1) c2, ?_⟩
      exact hfin.out _ _ _ H3.out
end
end Go.Proofs.YtbijlkbfndkdcaaDoorSep
