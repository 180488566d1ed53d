/- Own work: slices.Delete of one element out of a row that is owned, by a walk. -/
import Derived.Test.YtbijlkbfndkdcaaDoorCopyA
import Derived.Test.YtbijlkbfndkdcaaDoorProg
import Derived.Lib.SliceRun
import Derived.ArgAppend
namespace Go.Proofs.YtbijlkbfndkdcaaDoorSep
open Go.RowKit Go.Lib Go.Proofs

theorem info_del_int : (Tryd.prog.info? 3).map (fun i => (i.zero, i.size, i.bytes)) = some (some (.int .i64 0), 1, 8) := by kernel_rfl
set_option maxHeartbeats 4000000 in
theorem del_int {W0 w : World} {R : HP} {v : Value} {cs : List Value} {n i : Nat} (H : Own W0 w (R * Row 3 1 v n cs)) (hn : n ≤ 1000000) (hcs : ∀ u ∈ cs, u.oneCell' = true) (hi : i < n) :
    Calls Tryd.prog 35 #[v, .int .i64 i, .int .i64 ((i : Int) + 1)] w fun e w' => ∃ v', e = .returned v' ∧ Own W0 w' (R * Row 3 1 v' (n - 1) (cs.take i ++ cs.drop (i + 1))) := by
  obtain ⟨g, cap, cur, rfl, H1, h2, h3, h4, h5, hlen⟩ := H.open1 (by omega)
  obtain ⟨i0, hi0, hzz⟩ := Option.map_eq_some_iff.1 info_del_int
  simp only [Prod.mk.injEq] at hzz
  obtain ⟨hz0, hz1, hz2⟩ := hzz
  have hdl : (cs.drop (i + 1)).length = n - (i + 1) := by rw [List.length_drop, hlen]
  have HD := H1.drew
  have hcell : ∀ j u, cs[j]? = some u → w.drew.cell? ⟨g, j, none⟩ = some u := fun j u hj => by
    rw [cell_of_row w.drew g j cur _ (0, 0) HD.blk]
    have hjn : j < n := by rw [← hlen]; exact (List.getElem?_eq_some_iff.1 hj).1
    rw [← h5, List.getElem?_take, if_pos hjn] at hj
    simpa using hj
  have hsrc : ∀ ad : Addr, (cs.drop (i + 1) ≠ [] → ad = ⟨g, i + 1, none⟩) → ∀ j u, (cs.drop (i + 1))[j]? = some u → w.drew.cell? (ad.add j) = some u := fun ad had j u hj => by
    rw [had (by rintro h; rw [h] at hj; simp at hj), Addr.add_lit]
    exact hcell (i + 1 + j) u (by rwa [List.getElem?_drop] at hj)
  have hap : ∀ ad : Addr, (cs.drop (i + 1) ≠ [] → ad = ⟨g, i + 1, none⟩) → (Builtin.append_ #[34, 34] 34 #[.slice (some ⟨g, 0, none⟩) i cap, .slice (some ad) (n - (i + 1)) (cap - (i + 1))]).run Tryd.prog w.drew = .ok (.slice (some ⟨g, 0, none⟩) (n - 1) cap) (w.drew.setCells g i (cs.drop (i + 1))) := fun ad had => by
    have := run_append_room_cells (P := Tryd.prog) w.drew 34 34 3 i0 Tryd.underlying34 hi0 g 0 i cap ad (n - (i + 1)) (cap - (i + 1)) (cs.drop (i + 1)) (by rw [hz1, hdl, Nat.mul_one]) (hsrc ad had) (fun u hu => hcs u (List.mem_of_mem_drop hu)) (by omega)
      (fun j hj => by
        rw [hdl] at hj
        rw [hz1, cell_of_row w.drew g _ cur _ (0, 0) HD.blk, Array.getElem?_eq_getElem (by omega)]
        rfl) (fun j hj => frz_blk HD.blk)
    rw [hz1, Nat.mul_one, Nat.zero_add, show i + (n - (i + 1)) = n - 1 by omega] at this
    exact this
  have H2 := Own.setCells (cs.drop (i + 1)) i w.drew cur HD
  obtain ⟨W1, hW1⟩ : ∃ W1, Kp (w.drew.setCells g i (cs.drop (i + 1)) = W1) := ⟨_, ⟨rfl⟩⟩
  rw [hW1.out] at H2
  simp only [hW1.out] at hap
  have hcl : ∀ ty, (Builtin.clear_ #[34] ty #[.slice (some ⟨g, n - 1, none⟩) 1 (cap - (n - 1))]).run Tryd.prog W1 = .ok (.tuple #[]) (W1.setCells g (n - 1) [.int .i64 0]) := fun ty =>
    Lib.run_clear_slice W1 34 3 ty (.int .i64 0) Tryd.underlying34 Tryd.zeroValue3 rfl rfl g (n - 1) 1 _ (by omega)
      (fun j hj => by
        rw [cell_of_row W1 g _ _ _ (0, 0) H2.blk, Array.getElem?_eq_getElem (by rw [setR_size]; omega)]
        rfl) (fun j hj => frz_blk H2.blk)
  have H3 := Own.setCells [.int .i64 0] (n - 1) W1 _ H2
  obtain ⟨W2, hW2⟩ : ∃ W2, Kp (W1.setCells g (n - 1) [.int .i64 0] = W2) := ⟨_, ⟨rfl⟩⟩
  rw [hW2.out] at H3
  simp only [hW2.out] at hcl
  have hfin : Own W0 W2 (R * Row 3 1 (.slice (some ⟨g, 0, none⟩) (n - 1) cap) (n - 1) (cs.take i ++ cs.drop (i + 1))) := by
    refine H3.close1 (n - 1) (by omega) h3 (by rw [setR_size, setR_size]; exact h4) _ ?_
    have hL : cur.toList.length = cap := by rw [Array.length_toList]; exact h4
    have hti : cur.toList.take i = cs.take i := by rw [← h5, List.take_take, Nat.min_eq_left (by omega)]
    rw [setR_list _ _ _ (by rw [setR_size, List.length_singleton]; omega), setR_list _ _ _ (by rw [hdl]; omega), hdl, hti, List.length_singleton, List.append_assoc, List.take_left' (by rw [List.length_take, List.length_append, List.length_append, List.length_take, hdl, List.length_drop]; omega)]
    rw [List.append_assoc, ← List.append_assoc, List.take_left' (by rw [List.length_append, List.length_take, hdl]; omega)]
  have hfin := Kp.mk hfin
  have hap := Kp.mk hap
  unfold maxLen at h3
  have b1 : (i : Int) + 1 ≤ (n : Int) := by omega
  have b2 : i + 1 ≤ n := by omega
  have b3 : (n : Int) ≤ (cap : Int) := by omega
  have b4 : (0 : Int) ≤ (i : Int) + 1 := by omega
  have b5 : ((i : Int) == (i : Int) + 1) = false := by rw [beq_eq_false_iff_ne]; omega
  have b6 : i ≤ cap := by omega
  have b7 : (i : Int) ≤ (cap : Int) := by omega
  have b8 : ¬ (cap = n - 1) := by omega
  have b9 : (i : Int) ≤ (i : Int) + 1 := by omega
  have b10 : n - (n - 1) = 1 := by omega
  have b11 : ((n - 1 : Nat) : Int) ≤ (n : Int) := by omega
  have b12 : n - 1 ≤ n := by omega
  clear H H1 HD H2 H3 hW1 hW2 hcell hsrc hcs hi0 hz0 hz1 hz2 h5
  by_cases hci : cap = i + 1
  case' pos =>
    subst hci
    have hc1 := hap.out ⟨g, 0, none⟩ (fun h => absurd (List.drop_eq_nil_of_le (by omega)) h)
    rw [show n - (i + 1) = 0 by omega, Nat.sub_self] at hc1
    have b13 : n - (i + 1) = 0 := by omega
  case' neg =>
    have hc1 := hap.out ⟨g, i + 1, none⟩ (fun _ => rfl)
  all_goals
    have hc1 := Kp.mk hc1
    go_enter Tryd.func35, Tryd.ntmps35
    go_wp2
    go_region_law (refine step_append_eq ?_ (.tmp 22) (.tmp 25) 34 34 rfl _ _ (by simp [Act.eval, Act.put]) (by simp [Act.eval, Act.put, *]) hc1.out ?_; (go_simp))
    go_wp2
    go_ret
    exact ⟨_, rfl, hfin.out⟩
end Go.Proofs.YtbijlkbfndkdcaaDoorSep
