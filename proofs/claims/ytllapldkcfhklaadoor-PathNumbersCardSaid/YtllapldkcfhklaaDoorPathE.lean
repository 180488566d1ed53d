/- Own work: the head of the path's laws. -/
import Derived.Test.YtllapldkcfhklaaDoorPathD
namespace Go.Proofs.YtllapldkcfhklaaDoorSep
open Go.RowKit Go.Lib Go.Proofs Go.Shelf
set_option maxHeartbeats 4000000 in
theorem path_head {W0 w : World} {R : HP} {m : Int} (hm : MaxL W0 R m) (H : Own W0 w R) :
    Calls Tryd.prog 8 #[] w fun e w' => e = .returned (.bool true) ∧ Own W0 w' R := by
  have H1 : ∀ w, Own W0 w R → Calls Tryd.prog 10 #[.string ⟨#[97, 47, 95, 98, 46, 104, 116, 109, 108]⟩] w fun e w' => e = .returned (.bool true) ∧ Own W0 w' R :=
    fun w H => path_Right hm H [97, 47, 95, 98, 46, 104, 116, 109, 108] (by decide)
  have H2 : ∀ w, Own W0 w R → Calls Tryd.prog 12 #[.string ⟨#[97, 47, 95, 98, 46, 104, 116, 109, 108]⟩] w fun e w' => e = .returned (.bool true) ∧ Own W0 w' R :=
    fun w H => path_Hidden hm H [97, 47, 95, 98, 46, 104, 116, 109, 108] (by decide)
  have H3 : ∀ w, Own W0 w R → Calls Tryd.prog 13 #[.string ⟨#[97, 47, 95, 98, 46, 104, 116, 109, 108]⟩] w fun e w' => e = .returned (.bool false) ∧ Own W0 w' R :=
    fun w H => path_Page hm H [97, 47, 95, 98, 46, 104, 116, 109, 108] (by decide)
  have H4 : ∀ w, Own W0 w R → Calls Tryd.prog 14 #[.string ⟨#[97, 47, 98]⟩] w fun e w' => e = .returned (.string ⟨#[97, 47]⟩) ∧ Own W0 w' R :=
    fun w H => path_Dir H [97, 47, 98] (by decide)
  clear hm
  replace H := Kp.mk H
  replace H1 := Kp.mk H1
  replace H2 := Kp.mk H2
  replace H3 := Kp.mk H3
  replace H4 := Kp.mk H4
  go_enter Tryd.func8, Tryd.ntmps8
  go_wp2_with fail
  refine (H1.out _ H.out).mono ?_
  rintro e w1 ⟨rfl, J1⟩
  replace J1 := Kp.mk J1
  go_wp2_with fail
  refine (H2.out _ J1.out).mono ?_
  rintro e w2 ⟨rfl, J2⟩
  replace J2 := Kp.mk J2
  go_wp2_with fail
  refine (H3.out _ J2.out).mono ?_
  rintro e w3 ⟨rfl, J3⟩
  replace J3 := Kp.mk J3
  go_wp2_with fail
  refine (H4.out _ J3.out).mono ?_
  rintro e w4 ⟨rfl, J4⟩
  replace J4 := Kp.mk J4
  go_wp2
  go_ret
  exact ⟨rfl, J4.out⟩
end Go.Proofs.YtllapldkcfhklaaDoorSep
