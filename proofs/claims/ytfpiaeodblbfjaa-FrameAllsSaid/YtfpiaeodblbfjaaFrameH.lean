/- Own work: the law's own frame, and its head. -/
import Derived.Test.YtfpiaeodblbfjaaFrameA
namespace Go.Proofs.YtfpiaeodblbfjaaSep
open Go.RowKit Go.Lib Go.Proofs

set_option maxHeartbeats 800000 in
theorem law_of {W0 w : World} {R : HP} {vd : Value} (H : Own W0 w R) (l : List UInt8) (hd : Held W0 R vd 1 l.length (U l)) (hl : l.length ≤ 2097152) :
    Calls Try.prog 16 #[vd] w fun e w' => ∃ v', e = .returned v' ∧ Own W0 w' (R * Row 5 1 v' (frameF l).length (U (frameF l))) ∧ w.heap.size ≤ w'.heap.size := by
  have hp := putN_len64 (n := l.length) (by omega)
  have HD := Kp.mk hd
  have hS := hd.sl H
  have hs := sumF_lt l
  have HQ := Kp.mk (law_sum l hS (by omega))
  obtain ⟨A, c, rfl, j1, j2⟩ := hS.2
  have hcv : IntKind.u64.wrap (l.length : Int) = (l.length : Int) := by rw [IntKind.wrap_u64]; omega
  have HP := Kp.mk (num_Put0 H l.length (by omega) (by omega))
  have HF := Kp.mk (four_code (sumF l) hs)
  clear hd hS j1 j2
  go_enter Try.func16, Try.ntmps16
  go_wp2_with fail
  refine HQ.out.mono ?_
  rintro e _ ⟨rfl, rfl⟩
  go_wp2_with fail
  refine HP.out.mono ?_
  rintro e w1 ⟨v1, rfl, H1, hz1⟩
  rw [Int.toNat_natCast] at H1
  go_wp2_with (at_builtin; go_must (refine own_append (v := v1) (vx := .slice (some ⟨w1.heap.size, 0, none⟩) 4 4) (H1.box _) rfl (.tmp 11) (.tmp 26) 24 (.int .u8 0) 1 4 (U (four8 (sumF l))) rfl Try.underlying24 info_u8 rfl (by decide) rfl rfl ?c1 (U_one _) ?c2 ?c3 ?_))
  case c1 => rw [HF.out]; exact sl_box w1 #[_, _, _, _] _ 1 4 rfl (by decide)
  case c2 => unfold maxLen; omega
  case c3 => omega
  intro v2 w2 H2 hz2 _
  have hS2 := Kp.mk (HD.out.sl H2.drop)
  go_wp2_with (at_builtin; go_must (refine own_append (v := v2) (vx := .slice A l.length c) H2 rfl (.tmp 28) (.tmp 29) 24 (.int .u8 0) 1 l.length (U l) rfl Try.underlying24 info_u8 rfl (by decide) rfl rfl hS2.out (U_one _) ?c4 ?c5 ?_))
  case c4 => unfold maxLen; omega
  case c5 => omega
  intro v3 w3 H3 hz3 _
  go_wp2
  go_ret
  refine ⟨v3, rfl, ?_, by omega⟩
  rw [len_frameF, frameF, U_append, U_append, List.append_assoc]
  exact H3
theorem head5_a : ((str (frameF [])).toList == [0, 197, 157, 28, 129]) = true := by
  have h : sumF [] = 2166136261 := by unfold sumF sum0; rw [List.foldl_nil]
  rw [frameF, h, show ([] : List UInt8).length = 0 from rfl, putN_small (by decide)]; decide +kernel
set_option maxHeartbeats 800000 in
theorem head5 {W0 w : World} {R : HP} (H : Own W0 w R) : Calls Try.prog 14 #[] w fun e w' => e = .returned (.bool true) ∧ Own W0 w' R := by
  have ha := head5_a
  have HQ := Kp.mk (frame_Put (H.nil 5 1) [] held_nil (by decide) (by decide))
  go_enter Try.func14, Try.ntmps14
  go_wp2_with fail
  refine HQ.out.mono ?_
  rintro e w1 ⟨v1, rfl, H1, hz1⟩
  rw [Nat.zero_add, List.nil_append] at H1
  have hc1 := H1.run_str Try.underlying24 Try.underlying5 Try.underlying9
  go_wp2
  go_ret
  exact ⟨rfl, H1.drop⟩
end Go.Proofs.YtfpiaeodblbfjaaSep
