/- Own work: num.Put, num.Text by walks of their text, over what is owned. -/
import Derived.Test.YtfpiaeodblbfjaaProg
import Derived.Test.YtfpiaeodblbfjaaBytes
namespace Go.Proofs.YtfpiaeodblbfjaaSep
open Go.RowKit Go.Lib Go.Proofs

theorem info_u8 : (Try.prog.info? 5).map (fun i => (i.zero, i.size, i.bytes)) = some (some (.int .u8 0), 1, 1) := by kernel_rfl
def PutEnd (W0 : World) (R : HP) (n : Nat) (cs : List Value) (l : List UInt8) (w : World) (e : Ending) (w' : World) : Prop :=
  ∃ v', e = .returned v' ∧ Own W0 w' (R * Row 5 1 v' (n + l.length) (cs ++ U l)) ∧ w.heap.size ≤ w'.heap.size
theorem putN_ne (y : Nat) : 0 < (putN y).length := by
  by_cases h : y < 128
  · rw [putN_small h]; simp
  · rw [putN_big h]; simp
theorem b_u8 (y : Nat) : ((y : Int) % 256) = ((last8 y).toNat : Int) := by
  unfold last8
  rw [UInt8.toNat_ofNat']; omega
set_option maxHeartbeats 800000 in
theorem num_Put {W0 w : World} {R : HP} {v : Value} {n : Nat} {cs : List Value} (H : Own W0 w (R * Row 5 1 v n cs)) (x : Nat) (hx : x < 18446744073709551616) (hb : n + 20 ≤ 140737488355328) :
    Calls Try.prog 12 #[v, .int .u64 x] w (PutEnd W0 R n cs (putN x) w) := by
  go_enter Try.func12, Try.ntmps12
  go_wp2
  go_loopg [0, 1] (putN x).length (fun kq v0 v1 wr => ∃ (y : Nat) (pre : List UInt8), v1 = .int .u64 y ∧ y < 18446744073709551616 ∧ kq = (putN y).length ∧ Kp (pre ++ putN y = putN x) ∧ Own W0 wr (R * Row 5 1 v0 (n + pre.length) (cs ++ U pre)) ∧ w.heap.size ≤ wr.heap.size)
  case atStart => exact ⟨x, [], rfl, hx, rfl, ⟨by simp⟩, by simpa [U] using H, Nat.le_refl _⟩
  case round =>
    obtain ⟨y, pre, rfl, hy, hk, HE, HO, hz⟩ := hrel
    have hlen : pre.length + (putN y).length ≤ 10 := by
      have := putN_len64 hx
      rw [← HE.out, List.length_append] at this
      exact this
    have hpos := putN_ne y
    by_cases h : y < 128
    · have ht : decide ((128 : Int) ≤ (y : Int)) = false := by simp; omega
      have HP := Kp.mk (putN_small h)
      clear hk h
      go_wp2_with (at_builtin; go_must (refine own_append (v := u0) (vx := .slice (some ⟨wr.heap.size, 0, none⟩) 1 1) (HO.box _) rfl (.tmp 15) (.tmp 18) 24 (.int .u8 0) 1 1 (U [last8 y]) rfl Try.underlying24 info_u8 rfl (by decide) rfl rfl ?c1 (U_one _) ?c2 ?c3 ?_))
      case c1 => rw [b_u8 y]; exact sl_box wr #[_] _ 1 1 rfl (by decide)
      case c2 => unfold maxLen; omega
      case c3 => omega
      intro v2 w2 H2 hz2 _
      go_wp2
      go_ret
      refine ⟨v2, rfl, ?_, by omega⟩
      rw [← HE.out, HP.out, U_append, List.length_append]
      exact H2
    · have ht : decide ((128 : Int) ≤ (y : Int)) = true := by simp; omega
      have HP := Kp.mk (putN_big h)
      have hk2 : (putN y).length = (putN (y / 128)).length + 1 := by rw [putN_big h]; simp
      have hq : ((y : Int) / 128) = ((y / 128 : Nat) : Int) := by omega
      have HQ := Kp.mk hq
      clear h hq
      go_wp2_with (at_builtin; go_must (refine own_append (v := u0) (vx := .slice (some ⟨wr.heap.size, 0, none⟩) 1 1) (HO.box _) rfl (.tmp 7) (.tmp 11) 24 (.int .u8 0) 1 1 (U [more8 y]) rfl Try.underlying24 info_u8 rfl (by decide) rfl rfl ?d1 (U_one _) ?d2 ?d3 ?_))
      case d1 => rw [num_u8_or y]; exact sl_box wr #[_] _ 1 1 rfl (by decide)
      case d2 => unfold maxLen; omega
      case d3 => omega
      intro v2 w2 H2 hz2 _
      go_wp2
      go_roundg (putN (y / 128)).length
      case measure => omega
      case rel =>
        refine ⟨y / 128, pre ++ [more8 y], ?_, by omega, rfl, ⟨by rw [← HE.out, HP.out]; simp⟩, ?_, by omega⟩
        · rw [← HQ.out]
        · rw [U_append, List.length_append]
          exact H2
/-- The same at a number as the walk writes it, from nothing. -/
theorem num_Put0 {W0 w : World} {R : HP} (H : Own W0 w R) (x : Int) (h0 : 0 ≤ x) (hx : x < 18446744073709551616) :
    Calls Try.prog 12 #[.slice none 0 0, .int .u64 x] w fun e w' => ∃ v', e = .returned v' ∧ Own W0 w' (R * Row 5 1 v' (putN x.toNat).length (U (putN x.toNat))) ∧ w.heap.size ≤ w'.heap.size := by
  obtain ⟨n, rfl⟩ := Int.eq_ofNat_of_zero_le h0
  refine (num_Put (H.nil _ 1) n (by omega) (by decide)).mono ?_
  rintro e w' ⟨v', rfl, h, hz⟩
  refine ⟨v', rfl, ?_, hz⟩
  rw [Nat.zero_add, List.nil_append] at h
  exact h
set_option maxHeartbeats 800000 in
theorem num_Text {W0 w : World} {R : HP} {v : Value} {n : Nat} {cs : List Value} (H : Own W0 w (R * Row 5 1 v n cs)) (s : ByteArray) (hb : n + s.size + 40 ≤ 140737488355328) :
    Calls Try.prog 13 #[v, .string s] w (PutEnd W0 R n cs (putN s.size ++ s.data.toList) w) := by
  have hl := putN_len64 (n := s.size) (by omega)
  have HQ := Kp.mk (num_Put H s.size (by omega) (by omega))
  go_enter Try.func13, Try.ntmps13
  go_wp2_with fail
  refine HQ.out.mono ?_
  rintro e w1 ⟨v1, rfl, H1, hz1⟩
  go_wp2_with (at_builtin; go_must (refine own_append_str (v := v1) H1 rfl (.tmp 9) (.tmp 10) 24 9 s rfl Try.underlying24 Try.underlying9 info_u8 rfl rfl (by omega) ?_))
  intro v2 w2 H2 hz2 _
  go_wp2
  go_ret
  refine ⟨v2, rfl, ?_, by omega⟩
  rw [U_append, List.length_append, ← Nat.add_assoc, data_length]
  exact H2
theorem num_Text0 {W0 w : World} {R : HP} (H : Own W0 w R) (s : ByteArray) (hb : s.size + 40 ≤ 140737488355328) :
    Calls Try.prog 13 #[.slice none 0 0, .string s] w fun e w' => ∃ v', e = .returned v' ∧ Own W0 w' (R * Row 5 1 v' (putN s.size ++ s.data.toList).length (U (putN s.size ++ s.data.toList))) ∧ w.heap.size ≤ w'.heap.size := by
  refine (num_Text (H.nil _ 1) s (by omega)).mono ?_
  rintro e w' ⟨v', rfl, h, hz⟩
  refine ⟨v', rfl, ?_, hz⟩
  rw [Nat.zero_add, List.nil_append] at h
  exact h
end Go.Proofs.YtfpiaeodblbfjaaSep
