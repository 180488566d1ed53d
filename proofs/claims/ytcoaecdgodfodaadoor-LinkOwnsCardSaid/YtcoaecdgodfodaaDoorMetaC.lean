/- Own work: the head of meta's laws; what the law calls blank. -/
import Derived.Test.YtcoaecdgodfodaaDoorMetaB
namespace Go.Proofs.YtcoaecdgodfodaaDoorSep
open Go.RowKit Go.Lib Go.Proofs Go.Shelf
def rX : List UInt8 := [46, 46, 47, 95, 120, 46, 104, 116, 109, 108]
def fX : List UInt8 := [97, 47, 98, 46, 104, 116, 109, 108]
def gX : List UInt8 := [95, 120, 46, 104, 116, 109, 108]
theorem head16_r : parseF (trimF rX) = ⟨[], [], rX, [], [], false, false, false, false⟩ := by
  rw [show trimF rX = rX by decide +kernel]
  rw [parseF, show cutAt 35 rX = (rX, [], false) by decide +kernel]
  simp only
  rw [show cutAt 63 rX = (rX, [], false) by decide +kernel]
  simp only
  rw [parse2, show schemeF rX = none by decide +kernel]
  simp only
  rw [parse3, if_neg (by decide +kernel)]
theorem decode_all : ∀ l : List UInt8, (37 : UInt8) ∉ l → decodeF l = some l
  | [], _ => by rw [decodeF]
  | c :: t, h => by
    rw [decode_plain c t (fun e => h (by rw [e]; exact List.mem_cons_self ..)), decode_all t (fun e => h (List.mem_cons_of_mem _ e))]
    rfl
theorem head16 : srcF fX (parseF (trimF rX)) = some gX := by
  rw [head16_r, srcF, if_pos (by decide +kernel), namesF, show (resolveF (baseR fX) ⟨[], [], rX, [], [], false, false, false, false⟩).path = 47 :: gX by decide +kernel, trim_hit, decode_all gX (by decide +kernel)]
  show pickF gX = some gX
  rw [pickF, if_pos (by decide +kernel)]
set_option maxHeartbeats 1000000 in
theorem meta_head {W0 w : World} {R : HP} {m : Int} (hm : MaxL W0 R m) (H : Own W0 w R) :
    Calls Tryd.prog 5 #[] w fun e w' => e = .returned (.bool true) ∧ Own W0 w' R := by
  have HS := meta_Source hm H fX rX (by decide) (by decide)
  rw [head16] at HS
  have HS2 : Calls Tryd.prog 6 #[.string ⟨#[97, 47, 98, 46, 104, 116, 109, 108]⟩, .string ⟨#[46, 46, 47, 95, 120, 46, 104, 116, 109, 108]⟩] w fun e w' => e = .returned (.tuple #[.string ⟨#[95, 120, 46, 104, 116, 109, 108]⟩, .int .i64 0]) ∧ Own W0 w' R := HS
  clear HS
  replace HS2 := Kp.mk HS2
  go_enter Tryd.func5, Tryd.ntmps5
  go_wp2_with fail
  refine HS2.out.mono ?_
  rintro e w1 ⟨rfl, H1⟩
  replace H1 := Kp.mk H1
  go_wp2
  go_ret
  exact ⟨rfl, H1.out⟩
theorem law_blank (c : UInt8) (w : World) : Calls Tryd.prog 7 #[.int .u8 (c.toNat : Int)] w fun e w' => e = .returned (.bool (blankB c)) ∧ w' = w := by
  rw [blankB]
  generalize c.toNat = x
  rcases blank_cases x with h | h | h | h | h | h
  all_goals
    first
      | have e : blankN x = true := by simp [blankN, h]
      | have e : blankN x = false := by simp [blankN, h]
  all_goals
    rw [e]
    try have p1 : ((x : Int) == 9) = true := by rw [beq_iff_eq]; omega
    try have p1 : ((x : Int) == 9) = false := by rw [beq_eq_false_iff_ne]; omega
    try have p2 : ((x : Int) == 10) = true := by rw [beq_iff_eq]; omega
    try have p2 : ((x : Int) == 10) = false := by rw [beq_eq_false_iff_ne]; omega
    try have p3 : ((x : Int) == 12) = true := by rw [beq_iff_eq]; omega
    try have p3 : ((x : Int) == 12) = false := by rw [beq_eq_false_iff_ne]; omega
    try have p4 : ((x : Int) == 13) = true := by rw [beq_iff_eq]; omega
    try have p4 : ((x : Int) == 13) = false := by rw [beq_eq_false_iff_ne]; omega
    try have p5 : ((x : Int) == 32) = true := by rw [beq_iff_eq]; omega
    try have p5 : ((x : Int) == 32) = false := by rw [beq_eq_false_iff_ne]; omega
    clear h e
    go_enter Tryd.func7, Tryd.ntmps7
    go_wp2
    go_ret
    exact ⟨rfl, rfl⟩
end Go.Proofs.YtcoaecdgodfodaaDoorSep
