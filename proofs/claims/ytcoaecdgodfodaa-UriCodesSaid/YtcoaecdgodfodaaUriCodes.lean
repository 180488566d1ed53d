/- Own work: the law UriCodes, at all inputs. -/
import Derived.Test.YtcoaecdgodfodaaUriCodesA
namespace Go.Proofs.YtcoaecdgodfodaaSep
open Go.RowKit Go.Lib Go.Proofs

set_option maxHeartbeats 1000000 in
theorem uriCodes_long (s : ByteArray) (b : Bool) (x : UInt8) (w : World) (h : 200 < s.size) :
    Calls Try.prog 7 #[.string s, .bool b, .int .u8 (x.toNat : Int)] w fun e w' => e = .returned (.bool true) ∧ Below w.heap.size w w' := by
  have HH := Kp.mk (law_head (own_start w))
  have t1 : decide ((200 : Int) < (s.size : Int)) = true := decide_eq_true (by omega)
  have t1' : decide (200 < s.size) = true := decide_eq_true (by omega)
  go_enter Try.func7, Try.ntmps7
  go_wp2_with fail
  refine HH.out.mono ?_
  rintro e w1 ⟨rfl, H1⟩
  have H1 := Kp.mk H1
  clear HH
  go_wp2
  go_ret
  exact ⟨rfl, H1.out.old⟩
theorem u8_of (c : Int) (hc : (Lit.int .u8 c).wf = true) : ∃ x : UInt8, c = (x.toNat : Int) := by
  have h2 : 0 ≤ c ∧ c ≤ 255 := by simp [Lit.wf, IntKind.min, IntKind.max, IntKind.signed, IntKind.bits] at hc; omega
  exact ⟨UInt8.ofNat c.toNat, by rw [UInt8.toNat_ofNat']; omega⟩
theorem uriCodes_walk (s : ByteArray) (_ : s.size ≤ 140737488351232) (b : Bool) (c : Int) (hc : (Lit.int .u8 c).wf = true) (w : World) :
    Calls Try.prog 7 #[.string s, .bool b, .int .u8 c] w fun e w' => e = .returned (.bool true) ∧ Below w.heap.size w w' := by
  obtain ⟨x, rfl⟩ := u8_of c hc
  by_cases h1 : s.size ≤ 200
  · have h := uriCodes_core s.data.toList b x w (by rw [data_length]; omega)
    rw [str_of] at h
    exact h
  · exact uriCodes_long s b x w (by omega)
end Go.Proofs.YtcoaecdgodfodaaSep
