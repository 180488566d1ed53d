/- Own work: path.Right by a walk. -/
import Derived.Test.YtcoaecdgodfodaaDoorPathC
namespace Go.Proofs.YtcoaecdgodfodaaDoorSep
open Go.RowKit Go.Lib Go.Proofs Go.Shelf

theorem splitF_each (l p : List UInt8) (h : p ∈ splitF l) : p.length ≤ l.length := by
  have := partsGo_each l [] p h
  simpa using this
theorem not_any (L : List (List UInt8)) : (!L.any fun p => !partF p) = L.all partF := by
  rw [List.not_any_eq_all_not]
  simp
set_option maxHeartbeats 4000000 in
theorem path_Right {W0 w : World} {R : HP} {m : Int} (hm : MaxL W0 R m) (H : Own W0 w R) (l : List UInt8) (hl : l.length ≤ 100000) :
    Calls Tryd.prog 11 #[.string (str l)] w fun e w' => e = .returned (.bool (rightF l)) ∧ Own W0 w' R := by
  have hsz : (str l).size = l.length := str_size l
  have H := Kp.mk H
  by_cases h0 : l.length = 0
  · have hn : rightF l = false := by rw [rightF, decide_eq_false (by omega)]; rfl
    rw [hn]
    have t1 : (((str l).size : Int) == 0) = true := by rw [beq_iff_eq]; omega
    have t1' : (str l).size = 0 := by omega
    clear hn
    rw [h0] at hsz
    clear h0
    go_enter Tryd.func11, Tryd.ntmps11
    go_wp2
    go_ret
    exact ⟨rfl, H.out⟩
  have t1 : (((str l).size : Int) == 0) = false := by rw [beq_eq_false_iff_ne]; omega
  have t1' : ¬ (str l).size = 0 := by omega
  by_cases h8 : 200 < l.length
  · have hn : rightF l = false := by rw [rightF, decide_eq_false (by omega)]; rfl
    rw [hn]
    have t2 : decide ((200 : Int) < ((str l).size : Int)) = true := decide_eq_true (by omega)
    have t2' : 200 < (str l).size := by omega
    clear hn h0 hsz h8
    go_enter Tryd.func11, Tryd.ntmps11
    go_wp2
    go_ret
    exact ⟨rfl, H.out⟩
  have t2 : decide ((200 : Int) < ((str l).size : Int)) = false := decide_eq_false (by omega)
  have t2' : ¬ 200 < (str l).size := by omega
  have hlen : l.length ≤ 200 := by omega
  have hn : rightF l = (decide ((splitF l).length ≤ 16) && (splitF l).all partF) := by
    rw [rightF, show decide (1 ≤ l.length ∧ l.length ≤ 200) = true from decide_eq_true ⟨by omega, by omega⟩, Bool.true_and]
  rw [hn]
  have he := fun p h => Nat.le_trans (splitF_each l p h) (Nat.le_trans hlen (by decide : 200 ≤ 1000))
  have hN : (splitF l).length ≤ 100000 := by have := partsGo_len l []; change (partsGo [] l).length ≤ _; omega
  have hna := not_any (splitF l)
  have HS := path_Split hm H.out l hl
  obtain ⟨L, hLe⟩ : ∃ L, splitF l = L := ⟨_, rfl⟩
  rw [hLe] at HS hna hN he ⊢
  replace HS := Kp.mk HS
  replace he := Kp.mk he
  clear hn h0 hsz h8 hLe hm
  by_cases h16 : 16 < L.length
  · have g1 : decide ((L.length : Int) ≤ 16) = false := decide_eq_false (by omega)
    have g1' : ¬ L.length ≤ 16 := by omega
    have g2 : decide (L.length ≤ 16) = false := decide_eq_false (by omega)
    rw [g2]
    clear hna
    go_enter Tryd.func11, Tryd.ntmps11
    go_wp2_with fail
    refine HS.out.mono ?_
    rintro e w1 ⟨v, rfl, H1⟩
    obtain ⟨_, A, c, rfl, _⟩ := H1.sl (by decide)
    replace H1 := Kp.mk H1
    go_wp2
    go_ret
    exact ⟨rfl, H1.out.drop⟩
  · have g1 : decide ((L.length : Int) ≤ 16) = true := decide_eq_true (by omega)
    have g1' : L.length ≤ 16 := by omega
    have g2 : decide (L.length ≤ 16) = true := decide_eq_true (by omega)
    rw [g2, ← hna]
    have hC := fun w v (H1 : Own W0 w (R * Row 9 1 v L.length (SV L))) => path_ContainsFunc L hN he.out H1
    obtain ⟨q, hq⟩ : ∃ q, L.any (fun p => !partF p) = q := ⟨_, rfl⟩
    rw [hq] at hC ⊢
    replace hC := Kp.mk hC
    clear hq hna
    go_enter Tryd.func11, Tryd.ntmps11
    go_wp2_with fail
    refine HS.out.mono ?_
    rintro e w1 ⟨v, rfl, H1⟩
    obtain ⟨_, A, c, rfl, _⟩ := H1.sl (by decide)
    replace H1 := Kp.mk H1
    go_wp2_with fail
    refine (hC.out _ _ H1.out).mono ?_
    rintro e w1 ⟨rfl, H2⟩
    replace H2 := Kp.mk H2
    go_wp2
    go_ret
    exact ⟨rfl, H2.out.drop⟩
theorem maxL_of {w : World} {m : Int} (hm : w.cell? ⟨0, 0, none⟩ = some (.int .i64 m)) : MaxL w (Old w) m := fun w1 H => by
  have hb := H.old
  have hlt : 0 < w.heap.size := by
    rcases Nat.eq_zero_or_pos w.heap.size with h | h
    · simp [World.cell?, Array.getElem?_eq_none (by omega : w.heap.size ≤ 0)] at hm
    · exact h
  rw [hb.cell (p := ⟨0, 0, none⟩) hlt]
  exact hm
end Go.Proofs.YtcoaecdgodfodaaDoorSep
