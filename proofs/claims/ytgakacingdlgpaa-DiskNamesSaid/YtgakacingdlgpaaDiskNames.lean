/- Own work: the law DiskNames, at all inputs. -/
import Derived.Test.YtgakacingdlgpaaDiskJ
import Derived.Test.YtgakacingdlgpaaStr
namespace Go.Proofs.YtgakacingdlgpaaSep
open Go.RowKit Go.Lib Go.Proofs Go.Shelf

theorem wr_nil (l : List UInt8) : wrE ⟨10, [], [], 0⟩ l [] = if namedF l then 0 else 1 := by
  cases h : namedF l <;> simp [wrE, h, Dk.now, nowF, tot]
set_option maxHeartbeats 4000000 in
theorem diskNames_core (l : List UInt8) (w : World) :
    Calls Try.prog 3 #[.string (str l)] w fun e w' => e = .returned (.bool true) ∧ Below w.heap.size w w' := by
  have hsz : (str l).size = l.length := str_size l
  have HH := Kp.mk (disk_head (own_start w))
  by_cases hl : 200 < l.length
  · have t1 : decide ((200 : Int) < ((str l).size : Int)) = true := decide_eq_true (by omega)
    have t1' : decide (200 < (str l).size) = true := decide_eq_true (by omega)
    clear hsz hl
    go_enter Try.func3, Try.ntmps3
    go_wp2_with fail
    refine HH.out.mono ?_
    rintro e w1 ⟨rfl, H1⟩
    replace H1 := Kp.mk H1
    clear HH
    go_wp2
    go_ret
    exact ⟨rfl, H1.out.old⟩
  · have t1 : decide ((200 : Int) < ((str l).size : Int)) = false := decide_eq_false (by omega)
    have t1' : decide (200 < (str l).size) = false := decide_eq_false (by omega)
    clear hsz hl
    have hA := fun (w1 : World) (h : Own w w1 (Old w)) => disk_Named h l
    have hB := fun (w1 : World) (h : Own w w1 (Old w)) => law_named h l
    have hC := wr_nil l
    generalize namedF l = q at hA hB hC
    rcases q with _ | _
    all_goals
      replace hA := Kp.mk hA
      replace hB := Kp.mk hB
      go_enter Try.func3, Try.ntmps3
      go_wp2_with fail
      refine HH.out.mono ?_
      rintro e w1 ⟨rfl, H1⟩
      clear HH
      have hN := Kp.mk (disk_New H1 10 (by decide) (by decide))
      clear H1
      go_wp2_with fail
      refine hN.out.mono ?_
      rintro e w2 ⟨g, rfl, H2⟩
      clear hN
      have hW := disk_Write (n := l) (b := []) H2 held_nil (Nat.zero_le _) (Nat.zero_le _) (Nat.zero_le _)
      rw [hC] at hW
      have hW := Kp.mk hW
      clear H2 hC
      go_wp2_with fail
      refine hW.out.mono ?_
      rintro e w3 ⟨rfl, H3⟩
      clear hW
      have hX := Kp.mk (hA.out _ H3.drop)
      clear H3 hA
      go_wp2_with fail
      refine hX.out.mono ?_
      rintro e w4 ⟨rfl, H4⟩
      clear hX
      have hX := Kp.mk (hB.out _ H4)
      clear H4
      go_wp2_with fail
      refine hX.out.mono ?_
      rintro e w5 ⟨rfl, H5⟩
      clear hX
      have hX := Kp.mk (hB.out _ H5)
      clear H5
      go_wp2_with fail
      refine hX.out.mono ?_
      rintro e w6 ⟨rfl, H6⟩
      clear hX
      have hX := Kp.mk (hB.out _ H6)
      clear H6
      go_wp2_with fail
      refine hX.out.mono ?_
      rintro e w7 ⟨rfl, H7⟩
      clear hX
      replace H7 := Kp.mk H7
      go_wp2
      go_ret
      exact ⟨rfl, H7.out.old⟩
theorem diskNames_walk (a : ByteArray) (_ : a.size ≤ 140737488351232) (w : World) :
    Calls Try.prog 3 #[.string a] w fun e w' => e = .returned (.bool true) ∧ Below w.heap.size w w' := by
  have h := diskNames_core a.data.toList w
  rwa [str_of] at h
end Go.Proofs.YtgakacingdlgpaaSep
