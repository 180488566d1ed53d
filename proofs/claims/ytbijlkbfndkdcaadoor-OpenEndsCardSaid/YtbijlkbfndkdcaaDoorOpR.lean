/- Own work: what the law OpenEnds asks of a name; a stack that was made. -/
import Derived.Test.YtbijlkbfndkdcaaDoorOpN
namespace Go.Proofs.YtbijlkbfndkdcaaDoorSep
open Go.RowKit Go.Lib Go.Proofs
set_option maxHeartbeats 1000000 in
theorem law_list {w : World} {v : Value} (L : List (List UInt8)) (hL : L.length ≤ 100000) (x : List UInt8) (H : Sl w v 1 L.length (SV L)) :
    Calls Tryd.prog 12 #[.string (str x), v] w fun e w' => e = .returned (.bool (hasB L x)) ∧ w' = w := by
  obtain ⟨_, A, c, rfl, _⟩ := id H
  replace H := Kp.mk H
  go_enter Tryd.func12, Tryd.ntmps12
  go_wp2
  go_loopg [9] L.length (fun gk v wr => ∃ pos : Nat, v = .int .i64 pos ∧ pos ≤ L.length ∧ Kp (gk + pos = L.length) ∧ Kp (x ∉ L.take pos) ∧ wr = w)
  case atStart => exact ⟨0, rfl, Nat.zero_le _, ⟨by omega⟩, ⟨by simp⟩, rfl⟩
  case round =>
    obtain ⟨pos, rfl, hpos, hgk, hany, rfl⟩ := hrel
    by_cases hlt : pos < L.length
    · obtain ⟨p, hpp⟩ : ∃ p, L[pos] = p := ⟨_, rfl⟩
      obtain ⟨Ak, ck, hk1, hk2⟩ := H.out.at_ pos hlt
      injection hk1 with q1 q2 q3
      subst q1 q3
      rw [SV_get L pos hlt p hpp] at hk2
      have hcut := hasL_cut hlt hany.out
      have hmem : p ∈ L := hpp ▸ List.getElem_mem hlt
      rw [hpp] at hcut
      have he := str_beq p x
      by_cases hq : x = p
      · rw [decide_eq_true hq.symm] at he
        have hin := Kp.mk (show hasB L x = true from hasB_yes (by rw [hq]; exact hmem))
        clear hcut hmem hpp hq
        go_wp2
        go_ret
        exact ⟨by rw [hin.out]; rfl, rfl⟩
      · rw [decide_eq_false (fun h => hq h.symm)] at he
        replace hcut := Kp.mk (hcut hq)
        clear hmem hpp hq
        go_wp2
        go_roundg (L.length - (pos + 1))
        case rel => exact ⟨pos + 1, by go_num, by omega, ⟨by omega⟩, hcut, rfl⟩
        case measure => have := hgk.out; omega
    · obtain rfl : pos = L.length := by omega
      rw [List.take_length] at hany
      have hin := Kp.mk (hasB_no hany.out)
      clear hany
      go_wp2
      go_ret
      exact ⟨by rw [hin.out]; rfl, rfl⟩
theorem isF_eq (a b : List UInt8) (x : Nm) : isF a b x = (decide (spF x.2 = 0) && (decide (x.1 = a) || decide (x.1 = b))) := by
  rw [isF, hasB]
  congr 1
  simp
theorem law_made2 {W0 w : World} {R : HP} {v : Value} {L : List Nm} (HL : Held W0 R v 2 L.length (namesC L)) (hL : L.length ≤ 100) (H : Own W0 w R) :
    Calls Tryd.prog 9 #[v] w fun e w' => ∃ s d A c v', e = .returned (.pointer (some ⟨s, 0, none⟩)) ∧ Own W0 w' (EndH R s d L A c v' L.length) := by
  refine (law_made HL hL H).mono ?_
  rintro e w1 ⟨s, d, X, rfl, ⟨A, c, A2, c2, rfl⟩, H1⟩
  refine ⟨s, d, A, c, .slice A2 L.length c2, rfl, ?_⟩
  unfold EndH
  rw [List.take_of_length_le (by rw [(madeF_len L).2]; exact Nat.le_refl _)]
  exact H1
set_option maxHeartbeats 1000000 in
theorem law_is {W0 w : World} {R : HP} {ga gb : Nat} (a b : List UInt8) (H : Own W0 w (R * Blk ga (.cells #[.string (str a)] 9) * Blk gb (.cells #[.string (str b)] 9))) (x : Nm) :
    Calls Tryd.prog 8 #[.agg #[.string (str x.1), .int .i64 x.2], .pointer (some ⟨ga, 0, none⟩), .pointer (some ⟨gb, 0, none⟩)] w fun e w' => e = .returned (.bool (isF a b x)) ∧ Own W0 w' (R * Blk ga (.cells #[.string (str a)] 9) * Blk gb (.cells #[.string (str b)] 9)) := by
  obtain ⟨n, sp⟩ := x
  rw [isF_eq]
  dsimp only
  have HB := H.box (.cells #[.string (str n), .int .i64 sp] 25)
  have ka := cell_blk (j := 0) (v := .string (str a)) (HB.focB ga).blk rfl
  have kb := cell_blk (j := 0) (v := .string (str b)) HB.blk rfl
  have ea := str_beq n a
  have eb := str_beq n b
  replace HB := Kp.mk HB
  clear H
  by_cases h0 : spF sp = 0
  · have q1 : ((bits .and .i64 sp 3).tmod 3 == 0) = true := by have : (bits .and .i64 sp 3).tmod 3 = 0 := h0; rw [this]; rfl
    rw [decide_eq_true h0]
    by_cases h1 : n = a
    · rw [decide_eq_true h1] at ea ⊢
      clear h0 h1
      go_enter Tryd.func8, Tryd.ntmps8
      go_wp2
      go_ret
      exact ⟨rfl, HB.out⟩
    · rw [decide_eq_false h1] at ea ⊢
      obtain ⟨q, hq⟩ : ∃ q, decide (n = b) = q := ⟨_, rfl⟩
      rw [hq] at eb ⊢
      clear h0 h1 hq
      go_enter Tryd.func8, Tryd.ntmps8
      go_wp2
      go_ret
      exact ⟨by cases q <;> rfl, HB.out⟩
  · have q1 : ((bits .and .i64 sp 3).tmod 3 == 0) = false := by rw [beq_eq_false_iff_ne]; exact h0
    rw [decide_eq_false h0]
    clear h0
    go_enter Tryd.func8, Tryd.ntmps8
    go_wp2
    go_ret
    exact ⟨rfl, HB.out⟩
end Go.Proofs.YtbijlkbfndkdcaaDoorSep
