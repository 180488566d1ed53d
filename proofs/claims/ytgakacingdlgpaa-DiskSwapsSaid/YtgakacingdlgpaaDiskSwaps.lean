/- Own work: the law DiskSwaps, at all inputs. -/
import Derived.Test.YtgakacingdlgpaaDiskJ
import Derived.Test.YtgakacingdlgpaaStr
namespace Go.Proofs.YtgakacingdlgpaaSep
open Go.RowKit Go.Lib Go.Proofs Go.Shelf

def sw0 : Dk := ⟨1048576, [], [], 0⟩
def nN : List UInt8 := [110, 111, 119]
def nS : List UInt8 := [115, 111, 111, 110]
def sw1 (a : List UInt8) : Dk := ⟨1048576, [], [⟨0, nN, [], a⟩], 1⟩
def sw2 (a : List UInt8) : Dk := ⟨1048576, [(nN, a)], [], 2⟩
def sw3 (a b : List UInt8) : Dk := ⟨1048576, [(nN, a)], [⟨0, nS, [], b⟩], 3⟩
def sw4 (a b : List UInt8) : Dk := ⟨1048576, [(nN, a), (nS, b)], [], 4⟩
def sw5 (a b : List UInt8) : Dk := ⟨1048576, [(nN, a), (nS, b)], [⟨1, nS, nN, []⟩], 5⟩
theorem sw_1 (a : List UInt8) (h : a.length ≤ 300) : sw0.wr nN a = sw1 a ∧ wrE sw0 nN a = 0 := by
  have h1 : tot sw0.now + a.length ≤ sw0.room := by
    show 0 + a.length ≤ 1048576
    omega
  constructor
  · unfold Dk.wr wrOk
    rw [decide_eq_true h1]
    rfl
  · unfold wrE
    rw [if_pos h1]
    rfl
theorem sw_2 (a : List UInt8) : (sw1 a).sync = sw2 a := by
  show (⟨1048576, (sw1 a).now, [], 2⟩ : Dk) = _
  rw [show (sw1 a).now = [(nN, a)] from by show [(nN, [] ++ a)] = _; rw [List.nil_append]]
  rfl
theorem sw_3 (a b : List UInt8) (ha : a.length ≤ 300) (h : b.length ≤ 300) : (sw2 a).wr nS b = sw3 a b ∧ wrE (sw2 a) nS b = 0 := by
  have h1 : tot (sw2 a).now + b.length ≤ (sw2 a).room := by
    show tot [(nN, a)] + b.length ≤ 1048576
    simp only [tot, List.map_cons, List.map_nil, List.sum_cons, List.sum_nil]
    omega
  constructor
  · unfold Dk.wr wrOk
    rw [decide_eq_true h1]
    rfl
  · unfold wrE
    rw [if_pos h1]
    rfl
theorem sw_4 (a b : List UInt8) : (sw3 a b).sync = sw4 a b := by
  show (⟨1048576, (sw3 a b).now, [], 4⟩ : Dk) = _
  rw [show (sw3 a b).now = [(nN, a), (nS, b)] from by show [(nN, a), (nS, [] ++ b)] = _; rw [List.nil_append]]
  rfl
theorem sw_5 (a b : List UInt8) : (sw4 a b).mv nS nN = sw5 a b ∧ mvE (sw4 a b) nS nN = 0 := ⟨rfl, rfl⟩
theorem sw_k (k : Int) : clampK k 1 = if 0 < k then 1 else 0 := by
  unfold clampK
  split <;> omega
theorem sw_hit (a b : List UInt8) (k t : Int) (h : 0 < k) : drE ((sw5 a b).crash k t) nN = 0 ∧ rdC ((sw5 a b).crash k t) nN = b ∧ drE ((sw5 a b).crash k t) nS = 4 := by
  have hc : crashF (sw5 a b) k t = [(nN, b)] := by
    unfold crashF
    rw [show (sw5 a b).wait.length = 1 from rfl, sw_k, if_pos h]
    rfl
  unfold Dk.crash
  rw [hc]
  exact ⟨rfl, rfl, rfl⟩
theorem sw_miss (a b : List UInt8) (k t : Int) (h : ¬ 0 < k) : drE ((sw5 a b).crash k t) nN = 0 ∧ rdC ((sw5 a b).crash k t) nN = a ∧ drE ((sw5 a b).crash k t) nS = 0 := by
  have hc : crashF (sw5 a b) k t = [(nN, a), (nS, b)] := by
    unfold crashF
    rw [show (sw5 a b).wait.length = 1 from rfl, sw_k, if_neg h]
    show (if 0 < t ∧ (1 : Nat) = 0 then _ else _) = _
    rw [if_neg (fun h => by cases h.2)]
    rfl
  unfold Dk.crash
  rw [hc]
  exact ⟨rfl, rfl, rfl⟩
theorem str_beq_self (s : ByteArray) : (s.toList == s.toList) = true := by simp
set_option maxHeartbeats 8000000 in
theorem diskSwaps_core (w : World) (va : Value) (a : List UInt8) (ga : Sl w va 1 a.length (U a)) (vb : Value) (b : List UInt8) (gb : Sl w vb 1 b.length (U b)) (k t : Int) (ha : a.length ≤ 300) (hb : b.length ≤ 300) :
    Calls Try.prog 4 #[va, vb, .int .i64 k, .int .i64 t] w fun e w' => e = .returned (.bool true) ∧ Below w.heap.size w w' := by
  have HH := Kp.mk (disk_head (own_start w))
  have ha' : (a.length : Int) ≤ 300 := by omega
  have hb' : (b.length : Int) ≤ 300 := by omega
  have hGa : Kp (Held w (Old w) va 1 a.length (U a)) := ⟨ga.held⟩
  have hGb : Kp (Held w (Old w) vb 1 b.length (U b)) := ⟨gb.held⟩
  obtain ⟨_, Aa, ca, rfl, _⟩ := ga
  obtain ⟨_, Ab, cb, rfl, _⟩ := gb
  have t1 : decide ((300 : Int) < (a.length : Int)) = false := decide_eq_false (by omega)
  have t1' : decide (300 < a.length) = false := decide_eq_false (by omega)
  have t2 : decide ((300 : Int) < (b.length : Int)) = false := decide_eq_false (by omega)
  have t2' : decide (300 < b.length) = false := decide_eq_false (by omega)
  go_enter Try.func4, Try.ntmps4
  go_wp2_with fail
  refine HH.out.mono ?_
  rintro e w1 ⟨rfl, H1⟩
  clear HH
  have hN := Kp.mk (disk_New H1 1048576 (by decide) (by decide))
  clear H1
  go_wp2_with fail
  refine hN.out.mono ?_
  rintro e w2 ⟨g, rfl, H2⟩
  clear hN
  change Own w w2 (Old w * DskH g sw0) at H2
  have hW := disk_Write (n := nN) (b := a) H2 hGa.out.more (by omega) (by decide) (by decide)
  rw [(sw_1 a ha).1, (sw_1 a ha).2] at hW
  have hW := Kp.mk hW
  clear H2
  go_wp2_with fail
  refine hW.out.mono ?_
  rintro e w3 ⟨rfl, H3⟩
  clear hW
  have hS := disk_Sync H3 (Nat.le_of_ble_eq_true rfl)
  rw [sw_2] at hS
  have hS := Kp.mk hS
  clear H3
  go_wp2_with fail
  refine hS.out.mono ?_
  rintro e w4 ⟨rfl, H4⟩
  clear hS
  have hW := disk_Write (n := nS) (b := b) H4 hGb.out.more (by omega) (Nat.le_of_ble_eq_true rfl) (Nat.le_of_ble_eq_true rfl)
  rw [(sw_3 a b ha hb).1, (sw_3 a b ha hb).2] at hW
  have hW := Kp.mk hW
  clear H4
  go_wp2_with fail
  refine hW.out.mono ?_
  rintro e w5 ⟨rfl, H5⟩
  clear hW
  have hS := disk_Sync H5 (Nat.le_of_ble_eq_true rfl)
  rw [sw_4] at hS
  have hS := Kp.mk hS
  clear H5
  go_wp2_with fail
  refine hS.out.mono ?_
  rintro e w6 ⟨rfl, H6⟩
  clear hS
  have hM := disk_Move (n := nS) (t := nN) H6 (Nat.le_of_ble_eq_true rfl) (Nat.le_of_ble_eq_true rfl)
  rw [(sw_5 a b).1, (sw_5 a b).2] at hM
  have hM := Kp.mk hM
  clear H6
  go_wp2_with fail
  refine hM.out.mono ?_
  rintro e w7 ⟨rfl, H7⟩
  clear hM
  have hC := Kp.mk (disk_Crash H7 k t (Nat.le_of_ble_eq_true rfl))
  clear H7
  go_wp2_with fail
  refine hC.out.mono ?_
  rintro e w8 ⟨rfl, H8⟩
  clear hC
  have hR := disk_Read (n := nN) H8
  have hkp : Kp (0 < k ∧ drE ((sw5 a b).crash k t) nN = 0 ∧ rdC ((sw5 a b).crash k t) nN = b ∧ drE ((sw5 a b).crash k t) nS = 4 ∨ ¬ 0 < k ∧ drE ((sw5 a b).crash k t) nN = 0 ∧ rdC ((sw5 a b).crash k t) nN = a ∧ drE ((sw5 a b).crash k t) nS = 0) := ⟨by
    by_cases h : 0 < k
    · exact .inl ⟨h, sw_hit a b k t h⟩
    · exact .inr ⟨h, sw_miss a b k t h⟩⟩
  generalize (sw5 a b).crash k t = s at hR hkp
  replace hR := Kp.mk hR
  clear H8 ha hb
  go_wp2_with fail
  refine hR.out.mono ?_
  rintro e w9 ⟨v, rfl, H9⟩
  clear hR
  obtain ⟨_, A, c, hv, _⟩ := H9.sl (by decide)
  subst hv
  have hR := Kp.mk (disk_Read (n := nS) H9.rot)
  clear H9
  go_wp2_with fail
  refine hR.out.mono ?_
  rintro e w10 ⟨v2, rfl, H10⟩
  clear hR
  obtain ⟨_, A2, c2, hv2, _⟩ := H10.sl (by decide)
  subst hv2
  have hcv := run_str (P := Try.prog) Try.underlying28 Try.underlying5 Try.underlying9 (H10.drop.drop.sl (by decide))
  have hca := run_str (P := Try.prog) Try.underlying28 Try.underlying5 Try.underlying9 (hGa.out.sl H10.drop.drop.drop)
  have hcb := run_str (P := Try.prog) Try.underlying28 Try.underlying5 Try.underlying9 (hGb.out.sl H10.drop.drop.drop)
  have H11 := Kp.mk H10.drop.drop.drop
  clear H10
  rcases hkp.out with ⟨h1, h2, h3, h4⟩ | ⟨h1, h2, h3, h4⟩
  case' inl =>
    have t3 : decide ((0 : Int) < k) = true := decide_eq_true h1
  case' inr =>
    have t3 : decide ((0 : Int) < k) = false := decide_eq_false (by omega)
  all_goals
    rw [h3] at hcv
    rw [h2, h3, h4]
    clear h1 h2 h3 h4 hkp
    go_wp2
    go_ret
    exact ⟨by simp, H11.out.old⟩
set_option maxHeartbeats 2000000 in
theorem diskSwaps_long (w : World) (va : Value) (a : List UInt8) (ga : Sl w va 1 a.length (U a)) (vb : Value) (b : List UInt8) (gb : Sl w vb 1 b.length (U b)) (k t : Int) (h : 300 < a.length ∨ a.length ≤ 300 ∧ 300 < b.length) :
    Calls Try.prog 4 #[va, vb, .int .i64 k, .int .i64 t] w fun e w' => e = .returned (.bool true) ∧ Below w.heap.size w w' := by
  have HH := Kp.mk (disk_head (own_start w))
  obtain ⟨_, Aa, ca, rfl, _⟩ := ga
  obtain ⟨_, Ab, cb, rfl, _⟩ := gb
  rcases h with h | ⟨h, h2⟩
  case' inl =>
    have t1 : decide ((300 : Int) < (a.length : Int)) = true := decide_eq_true (by omega)
    have t1' : decide (300 < a.length) = true := decide_eq_true (by omega)
  case' inr =>
    have t1 : decide ((300 : Int) < (a.length : Int)) = false := decide_eq_false (by omega)
    have t1' : decide (300 < a.length) = false := decide_eq_false (by omega)
    have t2 : decide ((300 : Int) < (b.length : Int)) = true := decide_eq_true (by omega)
    have t2' : decide (300 < b.length) = true := decide_eq_true (by omega)
  all_goals
    go_enter Try.func4, Try.ntmps4
    go_wp2_with fail
    refine HH.out.mono ?_
    rintro e w1 ⟨rfl, H1⟩
    replace H1 := Kp.mk H1
    clear HH
    go_wp2
    go_ret
    exact ⟨rfl, H1.out.old⟩
theorem diskSwaps_walk (w : World) (va : Value) (a : List UInt8) (_ : a.length ≤ 140737488351232) (ga : Sl w va 1 a.length (U a)) (vb : Value) (b : List UInt8) (_ : b.length ≤ 140737488351232) (gb : Sl w vb 1 b.length (U b)) (k : Int) (_ : (Lit.int .i64 k).wf = true) (t : Int) (_ : (Lit.int .i64 t).wf = true) :
    Calls Try.prog 4 #[va, vb, .int .i64 k, .int .i64 t] w fun e w' => e = .returned (.bool true) ∧ Below w.heap.size w w' := by
  by_cases ha : a.length ≤ 300
  · by_cases hb : b.length ≤ 300
    · exact diskSwaps_core w va a ga vb b gb k t ha hb
    · exact diskSwaps_long w va a ga vb b gb k t (.inr ⟨ha, by omega⟩)
  · exact diskSwaps_long w va a ga vb b gb k t (.inl (by omega))
end Go.Proofs.YtgakacingdlgpaaSep
