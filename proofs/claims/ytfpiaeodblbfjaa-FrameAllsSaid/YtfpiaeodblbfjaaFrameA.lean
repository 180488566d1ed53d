/- Own work: frame.Sum, four, Put, and the law's own sum and frame, by walks. -/
import Derived.Test.YtfpiaeodblbfjaaNumA
namespace Go.Proofs.YtfpiaeodblbfjaaSep
open Go.RowKit Go.Lib Go.Proofs

set_option maxHeartbeats 400000 in
theorem frame_Sum {w : World} {v : Value} (l : List UInt8) (h : Sl w v 1 l.length (U l)) (hl : l.length ≤ 9223372036854775807) :
    Calls Try.prog 17 #[v] w fun e w' => e = .returned (.int .u32 (sumF l)) ∧ w = w' := by
  have hat := Kp.mk fun k => h.byte k
  obtain ⟨A, c, rfl, j1, j2⟩ := h.2
  clear h j1 j2
  go_enter Try.func17, Try.ntmps17
  go_wp2
  go_loop [3, 8] (fun s i => ∃ k : Nat, k ≤ l.length ∧ i = .int .i64 k ∧ s = .int .u32 (sumF (l.take k))) (fun _ i => l.length - (intOf i).toNat)
  case atStart => exact ⟨0, Nat.zero_le _, rfl, congrArg (Value.int .u32) (by rw [List.take_zero, sumF_nil])⟩
  case round =>
    obtain ⟨k, hk, rfl, rfl⟩ := hrel
    by_cases hlt : k < l.length
    · obtain ⟨A', c', b, he, hc, hb, hb2⟩ := hat.out k hlt
      injection he with e1 _ _
      subst e1
      have hs := Kp.mk (sum_next l k hlt)
      have hcd := Kp.mk (sum_code (sumF (l.take k)) b (sumF_lt _))
      have hlo := sumF_lt (l.take k)
      go_wp2
      go_round
      case rel => exact ⟨k + 1, by omega, by go_num, congrArg (Value.int .u32) (by rw [hs.out, hb.out]; exact hcd.out)⟩
      case measure => simp [intOf]; omega
    · obtain rfl : k = l.length := by omega
      rw [List.take_length]
      go_wp2
      go_ret
      exact ⟨rfl, rfl⟩
set_option maxHeartbeats 400000 in
theorem law_sum {w : World} {v : Value} (l : List UInt8) (h : Sl w v 1 l.length (U l)) (hl : l.length ≤ 9223372036854775807) :
    Calls Try.prog 18 #[v] w fun e w' => e = .returned (.int .u64 (sumF l)) ∧ w = w' := by
  have hat := Kp.mk fun k => h.byte k
  obtain ⟨A, c, rfl, j1, j2⟩ := h.2
  clear h j1 j2
  go_enter Try.func18, Try.ntmps18
  go_wp2
  go_loop [3, 9] (fun s i => ∃ k : Nat, k ≤ l.length ∧ i = .int .i64 k ∧ s = .int .u64 (sumF (l.take k))) (fun _ i => l.length - (intOf i).toNat)
  case atStart => exact ⟨0, Nat.zero_le _, rfl, congrArg (Value.int .u64) (by rw [List.take_zero, sumF_nil])⟩
  case round =>
    obtain ⟨k, hk, rfl, rfl⟩ := hrel
    by_cases hlt : k < l.length
    · obtain ⟨A', c', b, he, hc, hb, hb2⟩ := hat.out k hlt
      injection he with e1 _ _
      subst e1
      have hs := Kp.mk (sum_next l k hlt)
      have hcd := Kp.mk (sum_law (sumF (l.take k)) b (sumF_lt _))
      have hlo := sumF_lt (l.take k)
      go_wp2
      go_round
      case rel => exact ⟨k + 1, by omega, by go_num, congrArg (Value.int .u64) (by rw [hs.out, hb.out]; exact hcd.out)⟩
      case measure => simp [intOf]; omega
    · obtain rfl : k = l.length := by omega
      rw [List.take_length]
      go_wp2
      go_ret
      exact ⟨rfl, rfl⟩
set_option maxHeartbeats 400000 in
theorem frame_four {W0 w : World} {R : HP} {v : Value} {n : Nat} {cs : List Value} (H : Own W0 w (R * Row 5 1 v n cs)) (s : Nat) (hs : s < 4294967296) (hb : n + 20 ≤ 140737488355328) :
    Calls Try.prog 29 #[v, .int .u32 s] w (PutEnd W0 R n cs (four8 s) w) := by
  go_enter Try.func29, Try.ntmps29
  go_wp2_with (at_builtin; go_must (refine own_append (v := v) (vx := .slice (some ⟨w.heap.size, 0, none⟩) 4 4) (H.box _) rfl (.tmp 5) (.tmp 17) 24 (.int .u8 0) 1 4 (U (four8 s)) rfl Try.underlying24 info_u8 rfl (by decide) rfl rfl ?c1 (U_one _) ?c2 ?c3 ?_))
  case c1 => rw [four_code s hs]; exact sl_box w #[_, _, _, _] _ 1 4 rfl (by decide)
  case c2 => unfold maxLen; omega
  case c3 => omega
  intro v2 w2 H2 hz2 _
  go_wp2
  go_ret
  exact ⟨v2, rfl, H2, by omega⟩
theorem len_frameF (l : List UInt8) : (frameF l).length = (putN l.length).length + 4 + l.length := by simp [frameF, four8]; omega
set_option maxHeartbeats 800000 in
theorem frame_Put {W0 w : World} {R : HP} {v vd : Value} {n : Nat} {cs : List Value} (H : Own W0 w (R * Row 5 1 v n cs)) (l : List UInt8) (hd : Held W0 R vd 1 l.length (U l)) (hl : l.length ≤ 2097152) (hb : n ≤ 100000000) :
    Calls Try.prog 15 #[v, vd] w fun e w' => ∃ v', e = .returned (.tuple #[v', .int .i64 0]) ∧ Own W0 w' (R * Row 5 1 v' (n + (frameF l).length) (cs ++ U (frameF l))) ∧ w.heap.size ≤ w'.heap.size := by
  have hp := putN_len64 (n := l.length) (by omega)
  have HD := Kp.mk hd
  have hS := hd.sl H.drop
  obtain ⟨A, c, rfl, j1, j2⟩ := hS.2
  have ht : decide ((2097152 : Int) < (l.length : Int)) = false := decide_eq_false (by omega)
  have htb : decide (2097152 < l.length) = false := decide_eq_false (by omega)
  have hcv : IntKind.u64.wrap (l.length : Int) = (l.length : Int) := by rw [IntKind.wrap_u64]; omega
  have HP := Kp.mk (num_Put H l.length (by omega) (by omega))
  clear hd hS j1 j2
  go_enter Try.func15, Try.ntmps15
  go_wp2_with fail
  refine HP.out.mono ?_
  rintro e w1 ⟨v1, rfl, H1, hz1⟩
  go_wp2_with fail
  refine (frame_Sum l (HD.out.sl H1.drop) (by omega)).mono ?_
  rintro e _ ⟨rfl, rfl⟩
  go_wp2_with fail
  refine (frame_four H1 (sumF l) (sumF_lt l) (by omega)).mono ?_
  rintro e w2 ⟨v2, rfl, H2, hz2⟩
  have hS2 := Kp.mk (HD.out.sl H2.drop)
  go_wp2_with (at_builtin; go_must (refine own_append (v := v2) (vx := .slice A l.length c) H2 rfl (.tmp 18) (.tmp 19) 24 (.int .u8 0) 1 l.length (U l) rfl Try.underlying24 info_u8 rfl (by decide) rfl rfl hS2.out (U_one _) ?c2 ?c3 ?_))
  case c2 => unfold maxLen; simp [four8]; omega
  case c3 => simp [four8]; omega
  intro v3 w3 H3 hz3 _
  go_wp2
  go_ret2
  refine ⟨v3, rfl, ?_, by omega⟩
  have e : n + (frameF l).length = n + (putN l.length).length + (four8 (sumF l)).length + l.length := by rw [len_frameF]; simp [four8]; omega
  rw [e, frameF, U_append, U_append, List.append_assoc]
  exact H3
end Go.Proofs.YtfpiaeodblbfjaaSep
