/- Own work: where a byte first stands, by a walk. -/
import Derived.Test.YtcoaecdgodfodaaStr
import Derived.Test.YtcoaecdgodfodaaProg
namespace Go.Proofs.YtcoaecdgodfodaaSep
open Go.RowKit Go.Lib Go.Proofs

set_option maxHeartbeats 1000000 in
theorem law_at (s : ByteArray) (hs : s.size < 4611686018427387904) (c : UInt8) (w : World) :
    Calls Try.prog 16 #[.string s, .int .u8 (c.toNat : Int)] w fun e w' => e = .returned (.int .i64 (atF c s.data.toList)) ∧ w' = w := by
  go_enter Try.func16, Try.ntmps16
  go_wp2
  go_loopg [5] s.size (fun g i wr => ∃ k : Nat, k ≤ s.size ∧ i = .int .i64 k ∧ Kp (g + k = s.size) ∧ Kp (atF c s.data.toList = atGo c k (s.data.toList.drop k)) ∧ wr = w)
  case atStart => exact ⟨0, Nat.zero_le _, rfl, ⟨by omega⟩, ⟨rfl⟩, rfl⟩
  case round =>
    obtain ⟨k, hk, rfl, hg, ha, rfl⟩ := hrel
    by_cases hlt : k < s.size
    · have hb := byte_eq s[k] c
      by_cases he : s[k] = c
      · rw [decide_eq_true he] at hb
        rw [atGo_hit c s k hlt he] at ha
        clear he
        go_wp2
        go_ret
        exact ⟨by rw [ha.out]; rfl, rfl⟩
      · rw [decide_eq_false he] at hb
        rw [atGo_miss c s k hlt he] at ha
        clear he
        go_wp2
        go_roundg (s.size - (k + 1))
        case measure => have := hg.out; omega
        case rel => exact ⟨k + 1, by omega, by go_num, ⟨by have := hg.out; omega⟩, ha, rfl⟩
    · obtain rfl : k = s.size := by omega
      rw [s_end, atGo] at ha
      go_wp2
      go_ret
      exact ⟨by rw [ha.out]; rfl, rfl⟩
end Go.Proofs.YtcoaecdgodfodaaSep
