/- Own work: what was put is read again. -/
import Derived.Test.YtfpiaeodblbfjaaReaderC
import Derived.Test.YtfpiaeodblbfjaaNumPutA
namespace Go.Proofs.YtfpiaeodblbfjaaSep
open Go.RowKit Go.Lib Go.Proofs

theorem numGo_putN (most : Nat) (t : List UInt8) : ∀ (y i n : Nat), i ≤ 9 → y * 128 ^ i < 18446744073709551616 → (0 < i → 0 < y) → n + y * 128 ^ i ≤ most → numGo most i n (putN y ++ t) = (n + y * 128 ^ i, t, 0) := by
  intro y
  induction y using Nat.strongRecOn with
  | _ y ih =>
  intro i n hi hy h0 hm
  have h9 : i = 9 → y < 2 := by
    intro h
    subst h
    have h3 : (128 : Nat) ^ 9 = 9223372036854775808 := by decide +kernel
    rw [h3] at hy
    omega
  by_cases h : y < 128
  · rw [putN_small h, List.singleton_append, numGo]
    have hl : (last8 y).toNat = y := by unfold last8; rw [UInt8.toNat_ofNat']; omega
    rw [hl, if_neg (by omega), if_pos h, Nat.mod_eq_of_lt h, if_neg (by omega)]
  · rw [putN_big h, List.cons_append, numGo]
    have hl : (more8 y).toNat = y % 128 + 128 := by unfold more8; rw [UInt8.toNat_ofNat']; omega
    have hs : y / 128 * 128 ^ (i + 1) + y % 128 * 128 ^ i = y * 128 ^ i := by
      rw [Nat.pow_succ, Nat.mul_comm (128 ^ i) 128, ← Nat.mul_assoc, ← Nat.add_mul, Nat.mul_comm (y / 128) 128, Nat.div_add_mod]
    rw [hl, if_neg (by omega), if_neg (by omega), show (y % 128 + 128) % 128 = y % 128 by omega, ih (y / 128) (by omega) (i + 1) _ (by omega) (by omega) (by omega) (by omega)]
    congr 1
    omega
theorem numGo_put (most : Nat) (t : List UInt8) (y : Nat) (hy : y < 18446744073709551616) (hm : y ≤ most) : numGo most 0 0 (putN y ++ t) = (y, t, 0) := by
  have := numGo_putN most t y 0 0 (by omega) (by simpa using hy) (by omega) (by simpa using hm)
  simpa using this
theorem textOf_put (s t : List UInt8) (hs : s.length < 18446744073709551616) : textOf (numGo s.length 0 0 (putN s.length ++ s ++ t)) = (s, t, 0) := by
  rw [List.append_assoc, numGo_put _ _ _ hs (Nat.le_refl _)]
  simp [textOf]
end Go.Proofs.YtfpiaeodblbfjaaSep
