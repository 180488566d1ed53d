/- Own work: letters, digits, schemes, by walks. -/
import Derived.Test.YtcoaecdgodfodaaDoorStr
import Derived.Test.YtcoaecdgodfodaaDoorProg
import Derived.Deep.QuietTactic
import Derived.BigQuiet
namespace Go.Proofs.YtcoaecdgodfodaaDoorSep
open Go.RowKit Go.Lib Go.Proofs

theorem text_Letter (c : UInt8) (w : World) : Calls Tryd.prog 35 #[.int .i32 (c.toNat : Int)] w fun e w' => e = .returned (.bool (letterB c)) ∧ w' = w := by
  unfold letterB
  go_enter Tryd.func35, Tryd.ntmps35
  go_wp2
  all_goals go_ret
  all_goals
    refine ⟨?_, rfl⟩
    show Ending.returned (Value.bool _) = _
    refine congrArg (fun b => Ending.returned (Value.bool b)) ?_
    rw [Bool.eq_iff_iff]
    simp
    try omega
theorem text_Digit (c : UInt8) (w : World) : Calls Tryd.prog 36 #[.int .i32 (c.toNat : Int)] w fun e w' => e = .returned (.bool (digitB c)) ∧ w' = w := by
  unfold digitB
  go_enter Tryd.func36, Tryd.ntmps36
  go_wp2
  all_goals go_ret
  all_goals
    refine ⟨?_, rfl⟩
    show Ending.returned (Value.bool _) = _
    refine congrArg (fun b => Ending.returned (Value.bool b)) ?_
    rw [Bool.eq_iff_iff]
    simp
    try omega
theorem w32 (c : UInt8) : wrap32 ((c.toNat : Nat) : Int) = (c.toNat : Int) := by
  have := c.toNat_lt
  unfold wrap32
  omega
def SchemeEnd (s : ByteArray) (w : World) (e : Ending) (w' : World) : Prop :=
  ∃ a b, e = .returned (.tuple #[.string a, .string b, .bool (schemeF s.data.toList).isSome]) ∧ (∀ r, schemeF s.data.toList = some r → a = str r.1 ∧ b = str r.2) ∧ ∃ n, w' = w.drewN n
set_option maxHeartbeats 1000000 in
theorem uri_scheme (s : ByteArray) (hs : s.size < 4611686018427387904) (w : World) : Calls Tryd.prog 19 #[.string s] w (SchemeEnd s w) := by
  go_enter Tryd.func19, Tryd.ntmps19
  go_wp2
  go_loopg [9] s.size (fun g i wr => ∃ k : Nat, k ≤ s.size ∧ i = .int .i64 k ∧ Kp (g + k = s.size) ∧ Kp (schemeF s.data.toList = schemeAt s.data.toList k) ∧ wr = w)
  case atStart => exact ⟨0, Nat.zero_le _, rfl, ⟨by omega⟩, ⟨rfl⟩, rfl⟩
  case round =>
    obtain ⟨k, hk, rfl, hg, ha, rfl⟩ := hrel
    by_cases hlt : k < s.size
    · obtain ⟨c, hc⟩ : ∃ c, s[k] = c := ⟨_, rfl⟩
      have hcw := w32 c
      have e58 := byte_eq c 58
      have e43 := byte_eq c 43
      have e45 := byte_eq c 45
      have e46 := byte_eq c 46
      have hL := Kp.mk (text_Letter c wr)
      have hD := Kp.mk (text_Digit c wr)
      simp only [show ((58 : UInt8).toNat : Int) = 58 from rfl, show ((43 : UInt8).toNat : Int) = 43 from rfl, show ((45 : UInt8).toNat : Int) = 45 from rfl, show ((46 : UInt8).toNat : Int) = 46 from rfl] at e58 e43 e45 e46
      by_cases h58 : c = 58
      · rw [decide_eq_true h58] at e58
        have hh := schemeAt_hit s k hlt (hc.trans h58)
        rw [hh] at ha
        clear hh
        go_wp2
        go_quiet (fail)
        go_wp2
        go_ret3
        refine ⟨s.extract 0 k, s.extract (k + 1) s.size, ?_, ?_, nq, rfl⟩
        · show Ending.returned (.tuple #[.string (s.extract 0 k), .string (s.extract (k + 1) s.size), .bool (decide (0 < k))]) = _
          rw [ha.out]
          by_cases h0 : k = 0
          · subst h0; rfl
          · rw [if_neg h0, decide_eq_true (by omega : 0 < k)]; rfl
        · intro r hr
          rw [ha.out] at hr
          by_cases h0 : k = 0
          · rw [if_pos h0] at hr; cases hr
          · rw [if_neg h0] at hr
            injection hr with hr
            subst hr
            exact ⟨ext_take _ _, ext_drop _ _⟩
      · rw [decide_eq_false h58] at e58
        have hn : ¬ s[k] = 58 := by rw [hc]; exact h58
        have hgo : letterB c = true ∨ 0 < k ∧ contB c = true → Kp (schemeF s.data.toList = schemeAt s.data.toList (k + 1)) := fun h => ⟨ha.out.trans (schemeAt_go s k hlt hn (by rw [hc]; exact h))⟩
        have hst : letterB c = false → (k = 0 ∨ contB c = false) → Kp (schemeF s.data.toList = none) := fun h1 h2 => ⟨ha.out.trans (schemeAt_stop s k hlt hn (by rw [hc]; exact h1) (by rw [hc]; exact h2))⟩
        have hco : contB c = (letterB c || digitB c || decide (c = 43) || decide (c = 45) || decide (c = 46)) := rfl
        obtain ⟨bl, hbl⟩ : ∃ b, letterB c = b := ⟨_, rfl⟩
        obtain ⟨bd, hbd⟩ : ∃ b, digitB c = b := ⟨_, rfl⟩
        rw [hbl] at hL hgo hst hco
        rw [hbd] at hD hco
        clear hn ha h58 hbl hbd
        have hgo := Kp.mk hgo
        have hst := Kp.mk hst
        have hco := Kp.mk hco
        cases bl with
        | true =>
          have hG := hgo.out (by simp)
          clear hgo hst hco
          go_wp2_with fail
          refine hL.out.mono ?_
          rintro e w2 ⟨rfl, rfl⟩
          clear hL hD
          go_wp2
          go_roundg (s.size - (k + 1))
          case measure => have := hg.out; omega
          case rel => exact ⟨k + 1, by omega, by go_num, ⟨by have := hg.out; omega⟩, hG, rfl⟩
        | false =>
          by_cases h0 : k = 0
          · have hk0 : ((k : Int) == 0) = true := by simp; omega
            have hG := hst.out (by simp) (.inl h0)
            clear h0
            clear hgo hst hco
            go_wp2_with fail
            refine hL.out.mono ?_
            rintro e w2 ⟨rfl, rfl⟩
            clear hL hD
            go_wp2
            go_ret3
            refine ⟨⟨#[]⟩, s, ?_, ?_, 0, rfl⟩
            · rw [hG.out]; rfl
            · intro r hr; rw [hG.out] at hr; cases hr
          · have hk0 : ((k : Int) == 0) = false := by simp; omega
            have h0 : Kp (0 < k) := ⟨by omega⟩
            cases bd with
            | true =>
              have hG := hgo.out (.inr ⟨h0.out, by rw [hco.out]; simp⟩)
              clear hgo hst hco
              go_wp2_with fail
              refine hL.out.mono ?_
              rintro e w2 ⟨rfl, rfl⟩
              go_wp2_with fail
              refine hD.out.mono ?_
              rintro e w2 ⟨rfl, rfl⟩
              clear hL hD
              go_wp2
              go_roundg (s.size - (k + 1))
              case measure => have := hg.out; omega
              case rel => exact ⟨k + 1, by omega, by go_num, ⟨by have := hg.out; omega⟩, hG, rfl⟩
            | false =>
              by_cases h43 : c = 43
              · rw [decide_eq_true h43] at e43
                have hG := hgo.out (.inr ⟨h0.out, by rw [hco.out, decide_eq_true h43]; simp⟩)
                clear hgo hst hco
                clear h43
                go_wp2_with fail
                refine hL.out.mono ?_
                rintro e w2 ⟨rfl, rfl⟩
                go_wp2_with fail
                refine hD.out.mono ?_
                rintro e w2 ⟨rfl, rfl⟩
                clear hL hD
                go_wp2
                go_roundg (s.size - (k + 1))
                case measure => have := hg.out; omega
                case rel => exact ⟨k + 1, by omega, by go_num, ⟨by have := hg.out; omega⟩, hG, rfl⟩
              rw [decide_eq_false h43] at e43
              by_cases h45 : c = 45
              · rw [decide_eq_true h45] at e45
                have hG := hgo.out (.inr ⟨h0.out, by rw [hco.out, decide_eq_true h45]; simp⟩)
                clear hgo hst hco
                clear h45
                go_wp2_with fail
                refine hL.out.mono ?_
                rintro e w2 ⟨rfl, rfl⟩
                go_wp2_with fail
                refine hD.out.mono ?_
                rintro e w2 ⟨rfl, rfl⟩
                clear hL hD
                go_wp2
                go_roundg (s.size - (k + 1))
                case measure => have := hg.out; omega
                case rel => exact ⟨k + 1, by omega, by go_num, ⟨by have := hg.out; omega⟩, hG, rfl⟩
              rw [decide_eq_false h45] at e45
              by_cases h46 : c = 46
              · rw [decide_eq_true h46] at e46
                have hG := hgo.out (.inr ⟨h0.out, by rw [hco.out, decide_eq_true h46]; simp⟩)
                clear hgo hst hco
                clear h46
                go_wp2_with fail
                refine hL.out.mono ?_
                rintro e w2 ⟨rfl, rfl⟩
                go_wp2_with fail
                refine hD.out.mono ?_
                rintro e w2 ⟨rfl, rfl⟩
                clear hL hD
                go_wp2
                go_roundg (s.size - (k + 1))
                case measure => have := hg.out; omega
                case rel => exact ⟨k + 1, by omega, by go_num, ⟨by have := hg.out; omega⟩, hG, rfl⟩
              rw [decide_eq_false h46] at e46
              have hG := hst.out (by simp) (.inr (by rw [hco.out, decide_eq_false h43, decide_eq_false h45, decide_eq_false h46]; simp))
              clear hgo hst hco
              clear h43 h45 h46
              go_wp2_with fail
              refine hL.out.mono ?_
              rintro e w2 ⟨rfl, rfl⟩
              go_wp2_with fail
              refine hD.out.mono ?_
              rintro e w2 ⟨rfl, rfl⟩
              clear hL hD
              go_wp2
              go_ret3
              refine ⟨⟨#[]⟩, s, ?_, ?_, 0, rfl⟩
              · rw [hG.out]; rfl
              · intro r hr; rw [hG.out] at hr; cases hr
    · obtain rfl : k = s.size := by omega
      rw [schemeAt_end] at ha
      go_wp2
      go_ret3
      refine ⟨⟨#[]⟩, s, ?_, ?_, 0, rfl⟩
      · rw [ha.out]; rfl
      · intro r hr; rw [ha.out] at hr; cases hr
end Go.Proofs.YtcoaecdgodfodaaDoorSep
