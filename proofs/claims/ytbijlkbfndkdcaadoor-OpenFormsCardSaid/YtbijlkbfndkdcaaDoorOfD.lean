/- Own work: slices.Delete of one element of eleven cells, by a walk. -/
import Derived.Test.YtbijlkbfndkdcaaDoorOfC
import Derived.Test.YtbijlkbfndkdcaaDoorCopyA
import Derived.Lib.SliceRun
import Derived.ArgAppend
namespace Go.Proofs.YtbijlkbfndkdcaaDoorSep
open Go.RowKit Go.Lib Go.Proofs
/-- 'clear' of one element of many cells. -/
theorem run_clear_one {P : Program} (w : World) (t e ty : TypeId) (z : Value) (ht : P.underlying t = some (.slice e)) (hv : ∀ w, (zeroValue e).run P w = .ok z w) (h1 : ∀ u ∈ z.cells.toList, u.oneCell' = true) (b o c : Nat)
    (hc : ∀ j, j < z.cells.toList.length → (w.cell? ⟨b, o + j, none⟩).isSome = true) (hf : ∀ j, j < z.cells.toList.length → w.frozen? ⟨b, o + j, none⟩ = false) :
    (Builtin.clear_ #[t] ty #[.slice (some ⟨b, o, none⟩) 1 c]).run P w = .ok (.tuple #[]) (w.setCells b o z.cells.toList) := by
  have hzc : (Builtin.zeroCells z.cells 1).toList = z.cells.toList := by
    simp [Builtin.zeroCells]
    apply List.ext_getElem
    · simp
    · intro i h1 h2
      simp only [Array.length_toList] at h2
      simp [Nat.mod_eq_of_lt h2]
      exact getElem!_pos z.cells i h2
  have hst := run_storeCells_cells (P := P) b o z.cells.toList 0 w (by simpa using hc) (by simpa using hf) h1
  simp only [Nat.add_zero] at hst
  simp [Builtin.clear_, run_underlying ht, hv, hzc, hst]
def zeroF : List Value := [.int .i64 0, .int .i64 0, .string ByteArray.empty, .slice none 0 0, .bool false, .string ByteArray.empty, .string ByteArray.empty, .string ByteArray.empty, .bool false, .bool false, .bool false]
theorem zero_form (w : World) : (zeroValue 55).run Tryd.prog w = .ok (.agg zeroF.toArray) w := by kernel_rfl
set_option maxHeartbeats 4000000 in
theorem del_form {W0 w : World} {R : HP} {v : Value} {cs : List Value} {n i : Nat} (H : Own W0 w (R * Row 55 11 v n cs)) (hn : n ≤ 1000000) (hcs : ∀ u ∈ cs, u.oneCell' = true) (hi : i < n) :
    Calls Tryd.prog 31 #[v, .int .i64 i, .int .i64 ((i : Int) + 1)] w fun e w' => ∃ v', e = .returned v' ∧ Own W0 w' (R * Row 55 11 v' (n - 1) (cs.take (i * 11) ++ cs.drop ((i + 1) * 11))) := by
  have hlen : cs.length = n * 11 := (H.sl (by decide)).1
  obtain ⟨g, cap, cur, rfl, h2, h3, h4, h5, H1⟩ := H.openN (by omega)
  obtain ⟨i0, hi0, hzz⟩ := Option.map_eq_some_iff.1 info_form
  simp only [Prod.mk.injEq] at hzz
  obtain ⟨hz0, hz1, hz2⟩ := hzz
  have hdl : (cs.drop ((i + 1) * 11)).length = (n - (i + 1)) * 11 := by rw [List.length_drop, hlen]; omega
  have HD := H1.drew
  have hcell : ∀ j u, cs[j]? = some u → w.drew.cell? ⟨g, j, none⟩ = some u := fun j u hj => by
    rw [cell_of_row w.drew g j cur _ (0, 0) HD.blk]
    exact take_cell h5 (by rw [← hlen]; exact (List.getElem?_eq_some_iff.1 hj).1) hj
  have hsrc : ∀ ad : Addr, (cs.drop ((i + 1) * 11) ≠ [] → ad = ⟨g, (i + 1) * 11, none⟩) → ∀ j u, (cs.drop ((i + 1) * 11))[j]? = some u → w.drew.cell? (ad.add j) = some u := fun ad had j u hj => by
    rw [had (by rintro h; rw [h] at hj; simp at hj), Addr.add_lit]
    exact hcell ((i + 1) * 11 + j) u (by rwa [List.getElem?_drop] at hj)
  have hap : ∀ ad : Addr, (cs.drop ((i + 1) * 11) ≠ [] → ad = ⟨g, (i + 1) * 11, none⟩) → (Builtin.append_ #[45, 45] 45 #[.slice (some ⟨g, 0, none⟩) i cap, .slice (some ad) (n - (i + 1)) (cap - (i + 1))]).run Tryd.prog w.drew = .ok (.slice (some ⟨g, 0, none⟩) (n - 1) cap) (w.drew.setCells g (i * 11) (cs.drop ((i + 1) * 11))) := fun ad had => by
    have := run_append_room_cells (P := Tryd.prog) w.drew 45 45 55 i0 Tryd.underlying45 hi0 g 0 i cap ad (n - (i + 1)) (cap - (i + 1)) (cs.drop ((i + 1) * 11)) (by rw [hz1, hdl]) (hsrc ad had) (fun u hu => hcs u (List.mem_of_mem_drop hu)) (by omega)
      (fun j hj => by
        rw [hdl] at hj
        rw [hz1, cell_of_row w.drew g _ cur _ (0, 0) HD.blk, Array.getElem?_eq_getElem (by omega)]
        rfl) (fun j hj => frz_blk HD.blk)
    rw [hz1, Nat.zero_add, show i + (n - (i + 1)) = n - 1 by omega] at this
    exact this
  have H2 := Own.setCells (cs.drop ((i + 1) * 11)) (i * 11) w.drew cur HD
  obtain ⟨W1, hW1⟩ : ∃ W1, Kp (w.drew.setCells g (i * 11) (cs.drop ((i + 1) * 11)) = W1) := ⟨_, ⟨rfl⟩⟩
  rw [hW1.out] at H2
  simp only [hW1.out] at hap
  have hcl : ∀ ty, (Builtin.clear_ #[45] ty #[.slice (some ⟨g, (n - 1) * 11, none⟩) 1 (cap - (n - 1))]).run Tryd.prog W1 = .ok (.tuple #[]) (W1.setCells g ((n - 1) * 11) zeroF) := fun ty =>
    run_clear_one W1 45 55 ty (.agg zeroF.toArray) Tryd.underlying45 zero_form (by simp [Value.cells, zeroF, Value.oneCell']) g ((n - 1) * 11) _
      (fun j hj => by
        have hj2 : j < 11 := hj
        rw [cell_of_row W1 g _ _ _ (0, 0) H2.blk, Array.getElem?_eq_getElem (by rw [setR_size]; omega)]
        rfl) (fun j hj => frz_blk H2.blk)
  have H3 := Own.setCells zeroF ((n - 1) * 11) W1 _ H2
  obtain ⟨W2, hW2⟩ : ∃ W2, Kp (W1.setCells g ((n - 1) * 11) zeroF = W2) := ⟨_, ⟨rfl⟩⟩
  rw [hW2.out] at H3
  simp only [hW2.out] at hcl
  have hz11 : zeroF.length = 11 := rfl
  have hfin : Own W0 W2 (R * Row 55 11 (.slice (some ⟨g, 0, none⟩) (n - 1) cap) (n - 1) (cs.take (i * 11) ++ cs.drop ((i + 1) * 11))) := by
    have hm := H3.made (sz := 11) (cap := cap) (n - 1) (by omega) h3 (by rw [setR_size, setR_size]; exact h4)
    refine hm.eq ?_
    congr 2
    have hL : cur.toList.length = cap * 11 := by rw [Array.length_toList]; exact h4
    have hti : cur.toList.take (i * 11) = cs.take (i * 11) := by rw [← h5, List.take_take, Nat.min_eq_left (by omega)]
    rw [setR_list _ _ _ (by rw [setR_size, hz11]; omega), setR_list _ _ _ (by rw [hdl]; omega), hdl, hti, hz11, List.append_assoc, List.take_left' (by rw [List.length_take, List.length_append, List.length_append, List.length_take, hdl, List.length_drop]; omega)]
    rw [List.append_assoc, ← List.append_assoc, List.take_left' (by rw [List.length_append, List.length_take, hdl]; omega)]
  have hfin := Kp.mk hfin
  have hap := Kp.mk hap
  unfold maxLen at h3
  have b1 : (i : Int) + 1 ≤ (n : Int) := by omega
  have b2 : i + 1 ≤ n := by omega
  have b3 : (n : Int) ≤ (cap : Int) := by omega
  have b4 : (0 : Int) ≤ (i : Int) + 1 := by omega
  have b5 : ((i : Int) == (i : Int) + 1) = false := by rw [beq_eq_false_iff_ne]; omega
  have b6 : i ≤ cap := by omega
  have b7 : (i : Int) ≤ (cap : Int) := by omega
  have b8 : ¬ (cap = n - 1) := by omega
  have b9 : (i : Int) ≤ (i : Int) + 1 := by omega
  have b10 : n - (n - 1) = 1 := by omega
  have b11 : ((n - 1 : Nat) : Int) ≤ (n : Int) := by omega
  have b12 : n - 1 ≤ n := by omega
  clear H H1 HD H2 H3 hW1 hW2 hcell hsrc hcs hi0 hz0 hz1 hz2 h5
  by_cases hci : cap = i + 1
  case' pos =>
    subst hci
    have hc1 := hap.out ⟨g, 0, none⟩ (fun h => absurd (List.drop_eq_nil_of_le (by omega)) h)
    rw [show n - (i + 1) = 0 by omega, Nat.sub_self] at hc1
    have b13 : n - (i + 1) = 0 := by omega
  case' neg =>
    have hc1 := hap.out ⟨g, (i + 1) * 11, none⟩ (fun _ => rfl)
  all_goals
    have hc1 := Kp.mk hc1
    go_enter Tryd.func31, Tryd.ntmps31
    go_wp2
    go_region_law (refine step_append_eq ?_ (.tmp 22) (.tmp 25) 45 45 rfl _ _ (by simp [Act.eval, Act.put]) (by simp [Act.eval, Act.put, *]) hc1.out ?_; (go_simp))
    go_wp2
    go_ret
    exact ⟨_, rfl, hfin.out⟩
end Go.Proofs.YtbijlkbfndkdcaaDoorSep
