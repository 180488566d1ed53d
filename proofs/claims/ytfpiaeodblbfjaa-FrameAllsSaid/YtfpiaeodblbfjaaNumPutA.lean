/- Own work: the law's own put. -/
import Derived.Test.YtfpiaeodblbfjaaNumA
namespace Go.Proofs.YtfpiaeodblbfjaaSep
open Go.RowKit Go.Lib Go.Proofs

theorem b_more (y : Nat) : ((y : Int) % 128 + 128) % 256 = ((more8 y).toNat : Int) := by
  unfold more8
  rw [UInt8.toNat_ofNat']; omega
theorem b_more2 (y : Nat) : 128 + (y : Int) % 128 = ((more8 y).toNat : Int) := by
  unfold more8
  rw [UInt8.toNat_ofNat']; omega
set_option maxHeartbeats 800000 in
theorem law_put {W0 w : World} {R : HP} (H : Own W0 w R) (x : Nat) (hx : x < 18446744073709551616) :
    Calls Try.prog 24 #[.int .u64 x] w (PutEnd W0 R 0 [] (putN x) w) := by
  go_enter Try.func24, Try.ntmps24
  go_wp2
  go_loopg [3, 0] (putN x).length (fun kq v0 v1 wr => ∃ (y : Nat) (pre : List UInt8), v1 = .int .u64 y ∧ y < 18446744073709551616 ∧ kq = (putN y).length ∧ Kp (pre ++ putN y = putN x) ∧ Own W0 wr (R * Row 5 1 v0 pre.length (U pre)) ∧ w.heap.size ≤ wr.heap.size)
  case atStart => exact ⟨x, [], rfl, hx, rfl, ⟨by simp⟩, by simpa [U] using (H.box (.cells #[] 5)).zero 5 1 w.heap.size 0, by simp⟩
  case round =>
    obtain ⟨y, pre, rfl, hy, hk, HE, HO, hz⟩ := hrel
    have hlen : pre.length + (putN y).length ≤ 10 := by
      have := putN_len64 hx
      rw [← HE.out, List.length_append] at this
      exact this
    have hpos := putN_ne y
    by_cases h : y < 128
    · have ht : decide ((127 : Int) < (y : Int)) = false := by simp; omega
      have HP := Kp.mk (putN_small h)
      clear hk h
      go_wp2_with (at_builtin; go_must (refine own_append (v := u3) (vx := .slice (some ⟨wr.heap.size, 0, none⟩) 1 1) (HO.box _) rfl (.tmp 16) (.tmp 19) 24 (.int .u8 0) 1 1 (U [last8 y]) rfl Try.underlying24 info_u8 rfl (by decide) rfl rfl ?c1 (U_one _) ?c2 ?c3 ?_))
      case c1 => rw [b_u8 y]; exact sl_box wr #[_] _ 1 1 rfl (by decide)
      case c2 => unfold maxLen; omega
      case c3 => omega
      intro v2 w2 H2 hz2 _
      go_wp2
      go_ret
      refine ⟨v2, rfl, ?_, by omega⟩
      rw [← HE.out, HP.out, U_append, List.length_append, Nat.zero_add, List.nil_append]
      exact H2
    · have ht : decide ((127 : Int) < (y : Int)) = true := by simp; omega
      have HP := Kp.mk (putN_big h)
      have hk2 : (putN y).length = (putN (y / 128)).length + 1 := by rw [putN_big h]; simp
      have HQ := Kp.mk (show ((y : Int) / 128) = ((y / 128 : Nat) : Int) by omega)
      clear h
      go_wp2_with (at_builtin; go_must (refine own_append (v := u3) (vx := .slice (some ⟨wr.heap.size, 0, none⟩) 1 1) (HO.box _) rfl (.tmp 7) (.tmp 12) 24 (.int .u8 0) 1 1 (U [more8 y]) rfl Try.underlying24 info_u8 rfl (by decide) rfl rfl ?d1 (U_one _) ?d2 ?d3 ?_))
      case d1 => first | (rw [b_more2 y]; exact sl_box wr #[_] _ 1 1 rfl (by decide)) | (rw [b_more y]; exact sl_box wr #[_] _ 1 1 rfl (by decide))
      case d2 => unfold maxLen; omega
      case d3 => omega
      intro v2 w2 H2 hz2 _
      go_wp2
      go_roundg (putN (y / 128)).length
      case measure => omega
      case rel =>
        refine ⟨y / 128, pre ++ [more8 y], ?_, by omega, rfl, ⟨by rw [← HE.out, HP.out]; simp⟩, ?_, by omega⟩
        · first | exact congrArg (Value.int .u64) HQ.out | rfl
        · rw [U_append, List.length_append]
          exact H2
end Go.Proofs.YtfpiaeodblbfjaaSep
