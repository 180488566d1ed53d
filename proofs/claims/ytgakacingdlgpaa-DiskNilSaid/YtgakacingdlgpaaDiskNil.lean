/- Own work: the law DiskNil, at all inputs. -/
import Derived.Test.YtgakacingdlgpaaDiskJ
namespace Go.Proofs.YtgakacingdlgpaaSep
open Go.RowKit Go.Lib Go.Proofs Go.Shelf

theorem nil_Fuse (w : World) (n : Int) : Calls Try.prog 20 #[.pointer none, .int .i64 n] w fun e w' => e = .returned (.tuple #[]) ∧ w' = w := by
  go_enter Try.func20, Try.ntmps20
  go_wp2
  go_end0
  exact ⟨rfl, rfl⟩
set_option maxRecDepth 100000 in
theorem nil_Crash (w : World) (n : Int) : Calls Try.prog 15 #[.pointer none, .int .i64 n, .int .i64 n] w fun e w' => e = .returned (.tuple #[]) ∧ w' = w := by
  go_enter Try.func15, Try.ntmps15
  go_wp2
  exact bodyPost_ret (results_none rfl _ _ _) rfl ⟨rfl, rfl⟩
theorem nil_Names (w : World) : Calls Try.prog 18 #[.pointer none] w fun e w' => e = .returned (.slice none 0 0) ∧ w' = w := by
  go_enter Try.func18, Try.ntmps18
  go_wp2
  go_ret
  exact ⟨rfl, rfl⟩
theorem nil_Used (w : World) : Calls Try.prog 19 #[.pointer none] w fun e w' => e = .returned (.int .i64 0) ∧ w' = w := by
  go_enter Try.func19, Try.ntmps19
  go_wp2
  go_ret
  exact ⟨rfl, rfl⟩
theorem nil_Free (w : World) : Calls Try.prog 21 #[.pointer none] w fun e w' => e = .returned (.int .i64 0) ∧ w' = w := by
  go_enter Try.func21, Try.ntmps21
  go_wp2
  go_ret
  exact ⟨rfl, rfl⟩
theorem nil_Steps (w : World) : Calls Try.prog 22 #[.pointer none] w fun e w' => e = .returned (.int .i64 0) ∧ w' = w := by
  go_enter Try.func22, Try.ntmps22
  go_wp2
  go_ret
  exact ⟨rfl, rfl⟩
theorem nil_Down (w : World) : Calls Try.prog 23 #[.pointer none] w fun e w' => e = .returned (.bool false) ∧ w' = w := by
  go_enter Try.func23, Try.ntmps23
  go_wp2
  go_ret
  exact ⟨rfl, rfl⟩
theorem nil_ask (w : World) (v : Value) : Calls Try.prog 24 #[.pointer none, v] w fun e w' => e = .returned (.int .i64 1) ∧ w' = w := by
  go_enter Try.func24, Try.ntmps24
  go_wp2
  go_ret
  exact ⟨rfl, rfl⟩
theorem nil_Write {W0 w : World} {R : HP} (H : Own W0 w R) (s : ByteArray) : Calls Try.prog 10 #[.pointer none, .string s, .slice none 0 0] w fun e w' => e = .returned (.int .i64 1) ∧ Own W0 w' R := by
  have H2 := Kp.mk (H.box (.cells #[.string s] 9))
  have HA := Kp.mk (fun (wx : World) (v : Value) => nil_ask wx v)
  clear H
  go_enter Try.func10, Try.ntmps10
  go_wp2_with fail
  refine (HA.out _ _).mono ?_
  rintro e w2 ⟨rfl, rfl⟩
  go_wp2
  go_ret
  exact ⟨rfl, H2.out⟩
theorem nil_Move {W0 w : World} {R : HP} (H : Own W0 w R) (s t : ByteArray) : Calls Try.prog 14 #[.pointer none, .string s, .string t] w fun e w' => e = .returned (.int .i64 1) ∧ Own W0 w' R := by
  have H2 := Kp.mk (H.box (.cells #[.string s, .string t] 9))
  have HA := Kp.mk (fun (wx : World) (v : Value) => nil_ask wx v)
  clear H
  go_enter Try.func14, Try.ntmps14
  go_wp2_with fail
  refine (HA.out _ _).mono ?_
  rintro e w2 ⟨rfl, rfl⟩
  go_wp2
  go_ret
  exact ⟨rfl, H2.out⟩
theorem nil_DropD {W0 w : World} {R : HP} (H : Own W0 w R) (s : ByteArray) : Calls Try.prog 17 #[.pointer none, .string s] w fun e w' => e = .returned (.int .i64 1) ∧ Own W0 w' R := by
  have H2 := Kp.mk (H.box (.cells #[.string s] 9))
  have HA := Kp.mk (fun (wx : World) (v : Value) => nil_ask wx v)
  clear H
  go_enter Try.func17, Try.ntmps17
  go_wp2_with fail
  refine (HA.out _ _).mono ?_
  rintro e w2 ⟨rfl, rfl⟩
  go_wp2
  go_ret
  exact ⟨rfl, H2.out⟩
theorem nil_Read {W0 w : World} {R : HP} (H : Own W0 w R) (s : ByteArray) : Calls Try.prog 16 #[.pointer none, .string s] w fun e w' => e = .returned (.tuple #[.slice none 0 0, .int .i64 1]) ∧ Own W0 w' R := by
  have H2 := Kp.mk (H.box (.cells #[.string s] 9))
  have HA := Kp.mk (fun (wx : World) (v : Value) => nil_ask wx v)
  clear H
  go_enter Try.func16, Try.ntmps16
  go_wp2_with fail
  refine (HA.out _ _).mono ?_
  rintro e w2 ⟨rfl, rfl⟩
  go_wp2
  go_ret2
  exact ⟨rfl, H2.out⟩
theorem nil_Sync (w : World) : Calls Try.prog 13 #[.pointer none] w fun e w' => e = .returned (.int .i64 1) ∧ w' = w := by
  have HA := Kp.mk (fun (wx : World) (v : Value) => nil_ask wx v)
  go_enter Try.func13, Try.ntmps13
  go_wp2_with fail
  refine (HA.out _ _).mono ?_
  rintro e w2 ⟨rfl, rfl⟩
  go_wp2
  go_ret
  exact ⟨rfl, rfl⟩
set_option maxHeartbeats 8000000 in
theorem diskNil_walk (n : Int) (_ : (Lit.int .i64 n).wf = true) (w : World) :
    Calls Try.prog 7 #[.int .i64 n] w fun e w' => e = .returned (.bool true) ∧ Below w.heap.size w w' := by
  have HH := Kp.mk (disk_head (own_start w))
  go_enter Try.func7, Try.ntmps7
  go_wp2_with fail
  refine HH.out.mono ?_
  rintro e w1 ⟨rfl, H1⟩
  clear HH
  have HX := Kp.mk (nil_Fuse w1 n)
  go_wp2_with fail
  refine HX.out.mono ?_
  rintro e y1 ⟨rfl, rfl⟩
  clear HX
  have HX := Kp.mk (nil_Crash y1 n)
  go_wp2_with fail
  refine HX.out.mono ?_
  rintro e y2 ⟨rfl, rfl⟩
  clear HX
  have HX := Kp.mk (nil_Read H1 { data := #[97] })
  clear H1
  go_wp2_with fail
  refine HX.out.mono ?_
  rintro e y3 ⟨rfl, H1⟩
  clear HX
  have HX := Kp.mk (nil_Write H1 { data := #[97] })
  clear H1
  go_wp2_with fail
  refine HX.out.mono ?_
  rintro e y4 ⟨rfl, H1⟩
  clear HX
  have HX := Kp.mk (nil_Move H1 { data := #[97] } { data := #[98] })
  clear H1
  go_wp2_with fail
  refine HX.out.mono ?_
  rintro e y5 ⟨rfl, H1⟩
  clear HX
  have HX := Kp.mk (nil_DropD H1 { data := #[97] })
  clear H1
  go_wp2_with fail
  refine HX.out.mono ?_
  rintro e y6 ⟨rfl, H1⟩
  clear HX
  have HX := Kp.mk (nil_Sync y6)
  go_wp2_with fail
  refine HX.out.mono ?_
  rintro e y7 ⟨rfl, rfl⟩
  clear HX
  have HX := Kp.mk (nil_Names y7)
  go_wp2_with fail
  refine HX.out.mono ?_
  rintro e y8 ⟨rfl, rfl⟩
  clear HX
  have HX := Kp.mk (nil_Used y8)
  go_wp2_with fail
  refine HX.out.mono ?_
  rintro e y9 ⟨rfl, rfl⟩
  clear HX
  have HX := Kp.mk (nil_Free y9)
  go_wp2_with fail
  refine HX.out.mono ?_
  rintro e y10 ⟨rfl, rfl⟩
  clear HX
  have HX := Kp.mk (nil_Steps y10)
  go_wp2_with fail
  refine HX.out.mono ?_
  rintro e y11 ⟨rfl, rfl⟩
  clear HX
  have HX := Kp.mk (nil_Down y11)
  go_wp2_with fail
  refine HX.out.mono ?_
  rintro e y12 ⟨rfl, rfl⟩
  clear HX
  replace H1 := Kp.mk H1
  go_wp2
  go_ret
  exact ⟨rfl, H1.out.old⟩
end Go.Proofs.YtgakacingdlgpaaSep
