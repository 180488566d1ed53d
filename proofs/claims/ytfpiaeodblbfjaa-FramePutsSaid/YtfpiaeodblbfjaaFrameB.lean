/- Own work: the law's own frame, its head, and FramePuts. -/
import Derived.Test.YtfpiaeodblbfjaaFrameA
namespace Go.Proofs.YtfpiaeodblbfjaaSep
open Go.RowKit Go.Lib Go.Proofs

set_option maxHeartbeats 800000 in
theorem law_of {W0 w : World} {R : HP} {vd : Value} (H : Own W0 w R) (l : List UInt8) (hd : Held W0 R vd 1 l.length (U l)) (hl : l.length ≤ 2097152) :
    Calls Try.prog 16 #[vd] w fun e w' => ∃ v', e = .returned v' ∧ Own W0 w' (R * Row 5 1 v' (frameF l).length (U (frameF l))) ∧ w.heap.size ≤ w'.heap.size := by
  have hp := putN_len64 (n := l.length) (by omega)
  have HD := Kp.mk hd
  have hS := hd.sl H
  have hs := sumF_lt l
  have HQ := Kp.mk (law_sum l hS (by omega))
  obtain ⟨A, c, rfl, j1, j2⟩ := hS.2
  have hcv : IntKind.u64.wrap (l.length : Int) = (l.length : Int) := by rw [IntKind.wrap_u64]; omega
  have HP := Kp.mk (num_Put0 H l.length (by omega) (by omega))
  have HF := Kp.mk (four_code (sumF l) hs)
  clear hd hS j1 j2
  go_enter Try.func16, Try.ntmps16
  go_wp2_with fail
  refine HQ.out.mono ?_
  rintro e _ ⟨rfl, rfl⟩
  go_wp2_with fail
  refine HP.out.mono ?_
  rintro e w1 ⟨v1, rfl, H1, hz1⟩
  rw [Int.toNat_natCast] at H1
  go_wp2_with (at_builtin; go_must (refine own_append (v := v1) (vx := .slice (some ⟨w1.heap.size, 0, none⟩) 4 4) (H1.box _) rfl (.tmp 11) (.tmp 26) 24 (.int .u8 0) 1 4 (U (four8 (sumF l))) rfl Try.underlying24 info_u8 rfl (by decide) rfl rfl ?c1 (U_one _) ?c2 ?c3 ?_))
  case c1 => rw [HF.out]; exact sl_box w1 #[_, _, _, _] _ 1 4 rfl (by decide)
  case c2 => unfold maxLen; omega
  case c3 => omega
  intro v2 w2 H2 hz2 _
  have hS2 := Kp.mk (HD.out.sl H2.drop)
  go_wp2_with (at_builtin; go_must (refine own_append (v := v2) (vx := .slice A l.length c) H2 rfl (.tmp 28) (.tmp 29) 24 (.int .u8 0) 1 l.length (U l) rfl Try.underlying24 info_u8 rfl (by decide) rfl rfl hS2.out (U_one _) ?c4 ?c5 ?_))
  case c4 => unfold maxLen; omega
  case c5 => omega
  intro v3 w3 H3 hz3 _
  go_wp2
  go_ret
  refine ⟨v3, rfl, ?_, by omega⟩
  rw [len_frameF, frameF, U_append, U_append, List.append_assoc]
  exact H3
theorem head5_a : ((str (frameF [])).toList == [0, 197, 157, 28, 129]) = true := by
  have h : sumF [] = 2166136261 := by unfold sumF sum0; rw [List.foldl_nil]
  rw [frameF, h, show ([] : List UInt8).length = 0 from rfl, putN_small (by decide)]; decide +kernel
set_option maxHeartbeats 800000 in
theorem head5 {W0 w : World} {R : HP} (H : Own W0 w R) : Calls Try.prog 14 #[] w fun e w' => e = .returned (.bool true) ∧ Own W0 w' R := by
  have ha := head5_a
  have HQ := Kp.mk (frame_Put (H.nil 5 1) [] held_nil (by decide) (by decide))
  go_enter Try.func14, Try.ntmps14
  go_wp2_with fail
  refine HQ.out.mono ?_
  rintro e w1 ⟨v1, rfl, H1, hz1⟩
  rw [Nat.zero_add, List.nil_append] at H1
  have hc1 := H1.run_str Try.underlying24 Try.underlying5 Try.underlying9
  go_wp2
  go_ret
  exact ⟨rfl, H1.drop⟩
set_option maxHeartbeats 40000000 in
theorem framePuts_core (vb vl : Value) (b l : List UInt8) (w : World) (gb : Sl w vb 1 b.length (U b)) (gl : Sl w vl 1 l.length (U l)) (hb : b.length ≤ 100) (hl : l.length ≤ 1000) :
    Calls Try.prog 4 #[vb, vl] w fun e w' => e = .returned (.bool true) ∧ Below w.heap.size w w' := by
  have hp := putN_len64 (n := l.length) (by omega)
  have HH := Kp.mk (head5 (own_start w))
  have h1 : decide ((100 : Int) < (b.length : Int)) = false := decide_eq_false (by omega)
  have h1b : decide (100 < b.length) = false := decide_eq_false (by omega)
  have h2 : decide ((1000 : Int) < (l.length : Int)) = false := decide_eq_false (by omega)
  have h2b : decide (1000 < l.length) = false := decide_eq_false (by omega)
  have GB := Kp.mk gb
  have GL := Kp.mk gl
  have hF1 : b.length + (frameF l).length ≤ 100000000 := by rw [len_frameF]; omega
  obtain ⟨Ab, cb, rfl, jb1, jb2⟩ := gb.2
  obtain ⟨Al, cl, rfl, jl1, jl2⟩ := gl.2
  clear gb gl jb1 jb2 jl1 jl2
  go_enter Try.func4, Try.ntmps4
  go_wp2_with fail
  refine HH.out.mono ?_
  rintro e w1 ⟨rfl, H1⟩
  go_wp2_with (at_builtin; go_must (refine own_append (v := .slice (some ⟨w1.heap.size, 0, none⟩) 0 0) (vx := .slice Ab b.length cb) ((H1.box (.cells #[] 5)).zero 5 1 w1.heap.size 0) rfl (.tmp 18) (.tmp 19) 24 (.int .u8 0) 1 b.length (U b) rfl Try.underlying24 info_u8 rfl (by decide) rfl rfl (GB.out.heldF.sl (H1.box _)) (U_one _) ?c2 ?c3 ?_))
  case c2 => unfold maxLen; omega
  case c3 => omega
  intro v2 w2 H2 hz2 _
  go_wp2_with fail
  refine (frame_Put H2 l GL.out.held (by omega) (by omega)).mono ?_
  rintro e w3 ⟨v3, rfl, H3, hz3⟩
  go_wp2
  rw [← U_append] at H3
  have H4 := H3.drew
  have C4 := H4.run_str Try.underlying24 Try.underlying5 Try.underlying9
  have C5 := fun o => ((H3.box o).drew.focR v3).run_str (P := Try.prog) Try.underlying24 Try.underlying5 Try.underlying9
  clear HH H1 H2 H4 hz2 hz3
  have hwr : IntKind.u64.wrap (sumF l : Int) = (sumF l : Int) := by have := sumF_lt l; rw [IntKind.wrap_u64]; omega
  go_region_law (first | (first | (have HX := (H3.box (.cells #[] 5)).drew; have SX := GB.out.now HX inferInstance; refine step_own_append_zero (vx := .slice Ab b.length cb) HX ?_ (.tmp 30) (.tmp 31) 24 (.int .u8 0) 1 _ 0 b.length (U b) rfl Try.underlying24 info_u8 rfl (by decide) rfl rfl SX (U_one _) ?_ ?_ ?_; (go_simp); (unfold maxLen; omega); omega; (intro va wa Ha hza; have Ca := (Ha.focR v3).run_str Try.underlying24 Try.underlying5 Try.underlying9)) | (have HX := Ho.box (.cells #[] 5); have SX := GB.out.now HX inferInstance; refine step_own_append_zero (vx := .slice Ab b.length cb) HX ?_ (.tmp 30) (.tmp 31) 24 (.int .u8 0) 1 _ 0 b.length (U b) rfl Try.underlying24 info_u8 rfl (by decide) rfl rfl SX (U_one _) ?_ ?_ ?_; (go_simp); (unfold maxLen; omega); omega; (intro va wa Ha hza; have Ca := (Ha.focR v3).run_str Try.underlying24 Try.underlying5 Try.underlying9)) | (have HX := Ho; have SX := GB.out.now HX inferInstance; refine step_own_append_zero (vx := .slice Ab b.length cb) HX ?_ (.tmp 30) (.tmp 31) 24 (.int .u8 0) 1 _ 0 b.length (U b) rfl Try.underlying24 info_u8 rfl (by decide) rfl rfl SX (U_one _) ?_ ?_ ?_; (go_simp); (unfold maxLen; omega); omega; (intro va wa Ha hza; have Ca := (Ha.focR v3).run_str Try.underlying24 Try.underlying5 Try.underlying9))) | (first | (have HX := Ho; have SX := HX.slR vo (by decide); refine step_own_append (v := va) (vx := vo) HX ?_ (.tmp 32) (.tmp 34) 24 (.int .u8 0) 1 (frameF l).length (U (frameF l)) rfl Try.underlying24 info_u8 rfl (by decide) rfl rfl SX (U_one _) ?_ ?_ ?_; (go_simp); (unfold maxLen; omega); omega; (intro vb wb Hb hzb _; rw [← U_append] at Hb; have Cb := (Hb.focR v3).run_str Try.underlying24 Try.underlying5 Try.underlying9; have Cc := Hb.run_str Try.underlying24 Try.underlying5 Try.underlying9)) | (have HX := Ha; have SX := HX.slR vo (by decide); refine step_own_append (v := va) (vx := vo) HX ?_ (.tmp 32) (.tmp 34) 24 (.int .u8 0) 1 (frameF l).length (U (frameF l)) rfl Try.underlying24 info_u8 rfl (by decide) rfl rfl SX (U_one _) ?_ ?_ ?_; (go_simp); (unfold maxLen; omega); omega; (intro vb wb Hb hzb _; rw [← U_append] at Hb; have Cb := (Hb.focR v3).run_str Try.underlying24 Try.underlying5 Try.underlying9; have Cc := Hb.run_str Try.underlying24 Try.underlying5 Try.underlying9))) | (go_simp; first | (go_at_call 16; (first | (have HX := (H3.box (.cells #[] 5)).drew; refine (law_of HX l GL.out.heldF (by omega)).mono ?_; rintro e wo ⟨vo, rfl, Ho, hzo⟩; have Co := (Ho.focR v3).run_str Try.underlying24 Try.underlying5 Try.underlying9) | (have HX := H3.drew; refine (law_of HX l GL.out.heldF (by omega)).mono ?_; rintro e wo ⟨vo, rfl, Ho, hzo⟩; have Co := (Ho.focR v3).run_str Try.underlying24 Try.underlying5 Try.underlying9) | (have HX := Ha; refine (law_of HX l GL.out.heldF (by omega)).mono ?_; rintro e wo ⟨vo, rfl, Ho, hzo⟩; have Co := (Ho.focR v3).run_str Try.underlying24 Try.underlying5 Try.underlying9))) | (go_at_call 17; refine (frame_Sum l (GL.out.now Hb inferInstance) (by omega)).mono ?_; rintro e _ ⟨rfl, rfl⟩) | (go_at_call 18; refine (law_sum l (GL.out.now Hb inferInstance) (by omega)).mono ?_; rintro e _ ⟨rfl, rfl⟩)))
  all_goals (go_wp2; go_ret; exact ⟨rfl, Own.oldF Hb⟩)
end Go.Proofs.YtfpiaeodblbfjaaSep
