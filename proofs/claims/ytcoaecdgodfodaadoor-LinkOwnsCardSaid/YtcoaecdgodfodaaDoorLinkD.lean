/- Own work: link.Own at every two texts; the head of its laws, by a walk. -/
import Derived.Test.YtcoaecdgodfodaaDoorLinkB
import Derived.Test.YtcoaecdgodfodaaDoorLinkC
namespace Go.Proofs.YtcoaecdgodfodaaDoorSep
open Go.RowKit Go.Lib Go.Proofs Go.Shelf
theorem link_Own {W0 w : World} {R : HP} {m : Int} (hm : MaxL W0 R m) (H : Own W0 w R) (l v : List UInt8) (hl : l.length ≤ 1000) (hv : v.length ≤ 3000) :
    Calls Tryd.prog 13 #[.string (str l), .string (str v)] w (OwnEnd W0 R (ownF l v)) := by
  rcases ho : ((parseF v).hs || (parseF v).ha) with _ | _
  · by_cases h2 : (targetF l (parseF v)).2.2 = 0 ∧ rightF (targetF l (parseF v)).1 = true
    · obtain ⟨⟨f, p, te⟩, ht⟩ : ∃ t, targetF l (parseF v) = t := ⟨_, rfl⟩
      rw [ht] at h2
      obtain ⟨h3, h4⟩ := h2
      dsimp only at h3 h4
      subst h3
      exact own_in hm H l v hl hv ho f p ht h4
    · exact own_bad hm H l v hl hv ho h2
  · exact own_out H l v hv ho
set_option maxHeartbeats 1000000 in
theorem link_head {W0 w : World} {R : HP} {m : Int} (hm : MaxL W0 R m) (H : Own W0 w R) :
    Calls Tryd.prog 12 #[] w fun e w' => e = .returned (.bool true) ∧ Own W0 w' R := by
  have HS := link_Own hm H aX vX (by decide) (by decide)
  rw [head18] at HS
  have HS2 : Calls Tryd.prog 13 #[.string ⟨#[97, 47, 98, 46, 104, 116, 109, 108]⟩, .string ⟨#[99, 46, 104, 116, 109, 108, 63, 120, 35, 112, 37, 50, 48, 113]⟩] w fun e w' => e = .returned (.tuple #[.string ⟨#[47, 97, 47, 99, 46, 104, 116, 109, 108, 63, 120, 35, 112, 37, 50, 48, 113]⟩, .agg #[.string ⟨#[97, 47, 99, 46, 104, 116, 109, 108]⟩, .string ⟨#[112, 32, 113]⟩], .bool true, .int .i64 0]) ∧ Own W0 w' R := HS
  clear HS
  replace HS2 := Kp.mk HS2
  have hge : ∀ w, (Go.binOp .eql 35 (.agg #[.string ⟨#[97, 47, 99, 46, 104, 116, 109, 108]⟩, .string ⟨#[112, 32, 113]⟩]) (.agg #[.string ⟨#[97, 47, 99, 46, 104, 116, 109, 108]⟩, .string ⟨#[112, 32, 113]⟩])).run Tryd.prog w = .ok (.bool true) w := fun w => (goal_eql acX pqX acX pqX w).trans (congrArg (fun b => Result.ok (Value.bool b) w) (by simp))
  go_enter Tryd.func12, Tryd.ntmps12
  go_wp2_with fail
  refine HS2.out.mono ?_
  rintro e w1 ⟨rfl, H1⟩
  have H2 := Kp.mk (H1.box (.cells #[.string ⟨#[97, 47, 99, 46, 104, 116, 109, 108]⟩, .string ⟨#[112, 32, 113]⟩] 35))
  clear HS2 H1
  go_wp2
  go_ret
  exact ⟨rfl, H2.out⟩
end Go.Proofs.YtcoaecdgodfodaaDoorSep
