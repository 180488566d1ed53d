/- Own work: signs written as numbers, read: plain, and the digits by a walk. -/
import Derived.Test.YtcoaecdgodfodaaDoorUriA
namespace Go.Proofs.YtcoaecdgodfodaaDoorSep
open Go.RowKit Go.Lib Go.Proofs

def hexF (c : UInt8) : Int :=
  if digitB c then (c.toNat : Int) - 48 else if 97 ≤ c.toNat ∧ c.toNat ≤ 102 then (c.toNat : Int) - 97 + 10 else if 65 ≤ c.toNat ∧ c.toNat ≤ 70 then (c.toNat : Int) - 65 + 10 else -1
theorem hexF_fit (c : UInt8) : -1 ≤ hexF c ∧ hexF c ≤ 15 := by
  have := c.toNat_lt
  rw [hexF]
  by_cases h : digitB c = true
  · rw [if_pos h]
    simp [digitB] at h
    omega
  · rw [if_neg h]
    split
    · omega
    · split <;> omega
def decodeF : List UInt8 → Option (List UInt8)
  | [] => some []
  | c :: t => if c = 37 then (if 2 ≤ t.length then (if 0 ≤ hexF (t.getD 0 0) ∧ 0 ≤ hexF (t.getD 1 0) then (decodeF (t.drop 2)).map (UInt8.ofNat (hexF (t.getD 0 0) * 16 + hexF (t.getD 1 0)).toNat :: ·) else none) else none) else (decodeF t).map (c :: ·)
termination_by l => l.length
decreasing_by
  · simp only [List.length_drop, List.length_cons]; omega
  · simp only [List.length_cons]; omega
set_option maxHeartbeats 1000000 in
theorem text_Hex (c : UInt8) (w : World) : Calls Tryd.prog 24 #[.int .i32 (c.toNat : Int)] w fun e w' => e = .returned (.int .i64 (hexF c)) ∧ w' = w := by
  have HD := Kp.mk (text_Digit c w)
  have hc := c.toNat_lt
  obtain ⟨h, hh⟩ : ∃ h, Kp (hexF c = h) := ⟨_, ⟨rfl⟩⟩
  rw [hh.out]
  have hd : ∀ b, digitB c = b → (if b then (c.toNat : Int) - 48 else if 97 ≤ c.toNat ∧ c.toNat ≤ 102 then (c.toNat : Int) - 97 + 10 else if 65 ≤ c.toNat ∧ c.toNat ≤ 70 then (c.toNat : Int) - 65 + 10 else -1) = h := fun b hb => by rw [← hh.out, hexF, hb]
  rcases hb : digitB c with _ | _
  all_goals
    have hx := Kp.mk (hd _ hb)
    rw [hb] at HD
    have hb2 := Kp.mk hb
    clear hd hb
    go_enter Tryd.func24, Tryd.ntmps24
    go_wp2_with fail
    refine HD.out.mono ?_
    rintro e w1 ⟨rfl, rfl⟩
    clear HD
    go_wp2
    all_goals go_ret
    all_goals
      refine ⟨?_, rfl⟩
      show Ending.returned (Value.int .i64 _) = _
      refine congrArg (fun z => Ending.returned (Value.int .i64 z)) ?_
      rw [← hx.out]
      simp only [Bool.false_eq_true, if_false, if_true]
      try (repeat' split) <;> omega
end Go.Proofs.YtcoaecdgodfodaaDoorSep
