/- Own work: the disk laws' head (the document's example). -/
import Derived.Test.YtgakacingdlgpaaDiskI
import Derived.Lib.SlBytesConst
namespace Go.Proofs.YtgakacingdlgpaaSep
open Go.RowKit Go.Lib Go.Proofs Go.Shelf

def hd0 : Dk := ⟨100, [], [], 0⟩
def hd1 : Dk := ⟨100, [], [⟨0, [97], [], [120, 121]⟩], 1⟩
def hd2 : Dk := ⟨100, [([97], [120, 121])], [], 2⟩
def hd3 : Dk := ⟨100, [([97], [120, 121])], [⟨0, [97], [], [122, 119]⟩], 3⟩
def hd4 : Dk := ⟨100, [([97], [120, 121])], [⟨0, [97], [], [122, 119]⟩, ⟨1, [97], [98], []⟩], 4⟩
def hd5 : Dk := ⟨100, [([97], [120, 121, 122])], [], 4⟩
theorem hd_1 : hd0.wr [97] [120, 121] = hd1 ∧ wrE hd0 [97] [120, 121] = 0 := ⟨rfl, rfl⟩
theorem hd_2 : hd1.sync = hd2 := rfl
theorem hd_3 : hd2.wr [97] [122, 119] = hd3 ∧ wrE hd2 [97] [122, 119] = 0 := ⟨rfl, rfl⟩
theorem hd_4 : hd3.mv [97] [98] = hd4 ∧ mvE hd3 [97] [98] = 0 := ⟨rfl, rfl⟩
theorem hd_5 : hd4.crash 0 1 = hd5 := rfl
theorem hd_6 : drE hd5 [97] = 0 ∧ rdC hd5 [97] = [120, 121, 122] := ⟨rfl, rfl⟩
theorem held_two {W0 : World} {R : HP} {g B : Nat} {s : Dk} (x y : UInt8) : Held W0 (R * Blk B (.cells #[.int .u8 x.toNat, .int .u8 y.toNat] 5 (2, 3)) * DskH g s) (.slice (some ⟨B, 0, none⟩) 2 2) 1 [x, y].length (U [x, y]) := by
  intro w H
  have hb := H.rot.blk
  refine ⟨rfl, some ⟨B, 0, none⟩, 2, rfl, Nat.le_refl _, by decide, (fun h => by cases h), fun _ => ⟨_, rfl, fun j u hj => ?_⟩⟩
  rw [show (⟨B, 0, none⟩ : Addr).add j = ⟨B, j, none⟩ by simp [Addr.add_lit], cell_of_row w B j _ _ _ hb]
  have : (U [x, y])[j]? = some u := hj
  rw [← this]
  match j with
  | 0 => rfl
  | 1 => rfl
  | j + 2 => simp [U]
set_option maxHeartbeats 4000000 in
theorem disk_head {W0 w : World} {R : HP} (H : Own W0 w R) : Calls Try.prog 8 #[] w fun e w' => e = .returned (.bool true) ∧ Own W0 w' R := by
  have hN := Kp.mk (disk_New H 100 (by decide) (by decide))
  clear H
  go_enter Try.func8, Try.ntmps8
  go_wp2_with fail
  refine hN.out.mono ?_
  rintro e w1 ⟨g, rfl, H1⟩
  clear hN
  change Own W0 w1 (R * DskH g hd0) at H1
  have hW := disk_Write (n := [97]) ((H1.alloc (.cells #[.int .u8 120, .int .u8 121] 5 (2, 3))).rot) (held_two 120 121) (by decide) (by decide) (by decide)
  rw [hd_1.1, hd_1.2] at hW
  have hW := Kp.mk hW
  clear H1
  have hcv1 := run_convert_bytes_const (P := Try.prog) w1 28 5 #[.int .u8 120, .int .u8 121] 2 2 Try.underlying28 Try.underlying5
  go_wp2_with fail
  refine hW.out.mono ?_
  rintro e w2 ⟨rfl, H2⟩
  clear hW
  have hS := disk_Sync H2.rot.drop (by decide)
  rw [hd_2] at hS
  have hS := Kp.mk hS
  clear H2
  go_wp2_with fail
  refine hS.out.mono ?_
  rintro e w3 ⟨rfl, H3⟩
  clear hS
  have hW := disk_Write (n := [97]) ((H3.alloc (.cells #[.int .u8 122, .int .u8 119] 5 (2, 3))).rot) (held_two 122 119) (by decide) (by decide) (by decide)
  rw [hd_3.1, hd_3.2] at hW
  have hW := Kp.mk hW
  clear H3
  have hcv3 := run_convert_bytes_const (P := Try.prog) w3 28 5 #[.int .u8 122, .int .u8 119] 2 2 Try.underlying28 Try.underlying5
  go_wp2_with fail
  refine hW.out.mono ?_
  rintro e w4 ⟨rfl, H4⟩
  clear hW
  have hM := disk_Move (n := [97]) (t := [98]) H4.rot.drop (by decide) (by decide)
  rw [hd_4.1, hd_4.2] at hM
  have hM := Kp.mk hM
  clear H4
  go_wp2_with fail
  refine hM.out.mono ?_
  rintro e w5 ⟨rfl, H5⟩
  clear hM
  have hC := disk_Crash H5 0 1 (by decide)
  rw [hd_5] at hC
  have hC := Kp.mk hC
  clear H5
  go_wp2_with fail
  refine hC.out.mono ?_
  rintro e w6 ⟨rfl, H6⟩
  clear hC
  have hR := disk_Read (n := [97]) H6
  rw [hd_6.1, hd_6.2] at hR
  have hR := Kp.mk hR
  clear H6
  go_wp2_with fail
  refine hR.out.mono ?_
  rintro e w7 ⟨v, rfl, H7⟩
  clear hR
  obtain ⟨_, A, c, hv, _⟩ := H7.sl (by decide)
  subst hv
  have hcv : (convert 28 9 (.slice A 3 c)).run Try.prog w7 = .ok (.string { data := #[120, 121, 122] }) w7 := run_str (P := Try.prog) (l := [120, 121, 122]) Try.underlying28 Try.underlying5 Try.underlying9 (H7.sl (by decide))
  have H8 := Kp.mk H7.drop.drop
  clear H7
  go_wp2
  go_ret
  exact ⟨rfl, H8.out⟩
end Go.Proofs.YtgakacingdlgpaaSep
