/- Own work: a nil reader. -/
import Derived.Test.YtfpiaeodblbfjaaReaderA
import Derived.Test.YtfpiaeodblbfjaaNumApart
namespace Go.Proofs.YtfpiaeodblbfjaaSep
open Go.RowKit Go.Lib Go.Proofs

theorem nil_Num (w : World) (n : Int) : Calls Try.prog 21 #[.pointer none, .int .u64 n] w fun e w' => e = .returned (.int .u64 0) ∧ w = w' := by
  go_enter Try.func21, Try.ntmps21
  go_wp2
  go_ret
  exact ⟨rfl, rfl⟩
theorem nil_Text (w : World) (n : Int) : Calls Try.prog 20 #[.pointer none, .int .i64 n] w fun e w' => e = .returned (.string { data := #[] }) ∧ w = w' := by
  have HQ := Kp.mk (nil_Num w)
  rcases (show n ≤ 0 ∨ 0 < n by omega) with h | h
  all_goals
    go_enter Try.func20, Try.ntmps20
    go_wp2_with fail
    refine (HQ.out _).mono ?_
    rintro e w1 ⟨rfl, rfl⟩
    go_wp2
    go_ret
    exact ⟨rfl, rfl⟩
theorem nil_Err (w : World) : Calls Try.prog 22 #[.pointer none] w fun e w' => e = .returned (.int .i64 1) ∧ w = w' := by
  go_enter Try.func22, Try.ntmps22
  go_wp2
  go_ret
  exact ⟨rfl, rfl⟩
theorem nil_End (w : World) : Calls Try.prog 25 #[.pointer none] w fun e w' => e = .returned (.int .i64 1) ∧ w = w' := by
  go_enter Try.func25, Try.ntmps25
  go_wp2
  go_ret
  exact ⟨rfl, rfl⟩
theorem nil_Left (w : World) : Calls Try.prog 23 #[.pointer none] w fun e w' => e = .returned (.int .i64 0) ∧ w = w' := by
  go_enter Try.func23, Try.ntmps23
  go_wp2
  go_ret
  exact ⟨rfl, rfl⟩
theorem numNil_walk (a : Int) (_ : (Lit.int .i64 a).wf = true) (w : World) :
    Calls Try.prog 7 #[.int .i64 a] w fun e w' => e = .returned (.bool true) ∧ Below w.heap.size w w' := by
  have HH := Kp.mk (head3 (own_start w))
  go_enter Try.func7, Try.ntmps7
  go_wp2_with fail
  refine HH.out.mono ?_
  rintro e w1 ⟨rfl, H1⟩
  have H1 := Kp.mk H1
  go_wp2_with fail
  refine (nil_Num w1 _).mono ?_
  rintro e w2 ⟨rfl, rfl⟩
  go_wp2_with fail
  refine (nil_Text w1 _).mono ?_
  rintro e w2 ⟨rfl, rfl⟩
  go_wp2_with fail
  refine (nil_Err w1).mono ?_
  rintro e w2 ⟨rfl, rfl⟩
  go_wp2_with fail
  refine (nil_End w1).mono ?_
  rintro e w2 ⟨rfl, rfl⟩
  go_wp2_with fail
  refine (nil_Left w1).mono ?_
  rintro e w2 ⟨rfl, rfl⟩
  go_wp2_with fail
  refine (num_Read (l := []) H1.out held_nil (by decide)).mono ?_
  rintro e w2 ⟨p, rfl, H2, hz2⟩
  have HE := Kp.mk (rdr_End H2)
  have H2 := Kp.mk H2
  go_wp2_with fail
  refine HE.out.mono ?_
  rintro e w3 ⟨rfl, rfl⟩
  have he : endE [] 0 = 0 := rfl
  go_wp2
  go_ret
  exact ⟨rfl, H2.out.drop.old⟩
end Go.Proofs.YtfpiaeodblbfjaaSep
