/- Own work: slices.Insert of one element into a row that is owned, by walks. -/
import Derived.Test.YtbijlkbfndkdcaaDoorCopy
import Derived.Test.YtbijlkbfndkdcaaDoorProg
namespace Go.Proofs.YtbijlkbfndkdcaaDoorSep
open Go.RowKit Go.Lib Go.Proofs

theorem info_ins_int : (Tryd.prog.info? 3).map (fun i => (i.zero, i.size, i.bytes)) = some (some (.int .i64 0), 1, 8) := by kernel_rfl
theorem size_ins_int : (Tryd.prog.info? 3).map (·.size) = some 1 := by kernel_rfl
set_option maxHeartbeats 4000000 in
/-- At the end: an append. -/
theorem ins_int_end {W0 w : World} {R : HP} {v x : Value} {cs : List Value} {n b : Nat} (H : Own W0 w (R * Row 3 1 v n cs * Blk b (.cells #[x] 3))) (hn : n ≤ 1000000) (h1 : x.oneCell' = true) :
    Calls Tryd.prog 36 #[v, .int .i64 n, .slice (some ⟨b, 0, none⟩) 1 1] w (InsEnd W0 R 3 n n cs x) := by
  have hlen : cs.length = n := by have := (H.rot.sl (by decide)).1; omega
  obtain ⟨A, c, rfl, hc, hc2, _⟩ := (H.rot.sl (by decide)).2
  unfold maxLen at hc2
  have hx : Sl w (.slice (some ⟨b, 0, none⟩) 1 1) 1 1 [x] := ⟨rfl, _, 1, rfl, Nat.le_refl _, by decide, (fun h => by cases h), fun _ => ⟨_, rfl, fun j u hj => by
    have hadd : (⟨b, 0, none⟩ : Addr).add j = ⟨b, j, none⟩ := by unfold Addr.add; split <;> simp_all
    rw [hadd, cell_of_row w b j _ _ (0, 0) H.blk]
    simpa using hj⟩⟩
  have HR := Kp.mk H.drop
  have hx := Kp.mk hx
  have hc0 : ¬ (c < n) := by omega
  clear H
  by_cases hcn : c = n
  all_goals
    go_enter Tryd.func36, Tryd.ntmps36
    go_wp2_with (at_builtin; go_must (refine own_append (v := .slice A n c) (vx := .slice (some ⟨b, 0, none⟩) 1 1) HR.out rfl (.tmp 23) (.tmp 24) 34 (.int .i64 0) 8 1 [x] rfl Tryd.underlying34 info_ins_int rfl (by decide) rfl rfl hx.out ?c2 ?c3 ?c4 ?_))
    case c2 => intro u hu; rw [List.mem_singleton.1 hu]; exact h1
    case c3 => unfold maxLen; omega
    case c4 => omega
    intro v4 w4 H4 hz4 _
    have H4 := Kp.mk H4
    go_wp2
    go_ret
    exact ⟨v4, rfl, by rw [List.take_of_length_le (by omega), List.drop_eq_nil_of_le (by omega)]; exact H4.out⟩
set_option maxHeartbeats 4000000 in
/-- There is room. -/
theorem ins_int_room {W0 w : World} {R : HP} {x : Value} {cs : List Value} {n b i g cap : Nat} {cur : Array Value} (H : Own W0 w (R * Blk g (.cells cur 3) * Blk b (.cells #[x] 3))) (hn : n ≤ 1000000) (h1 : x.oneCell' = true) (hcs : ∀ u ∈ cs, u.oneCell' = true)
    (hi : i < n) (hroom : n + 1 ≤ cap) (hcap : cap ≤ maxLen) (hsz : cur.size = cap) (htk : cur.toList.take n = cs) (hlen : cs.length = n) :
    Calls Tryd.prog 36 #[.slice (some ⟨g, 0, none⟩) n cap, .int .i64 i, .slice (some ⟨b, 0, none⟩) 1 1] w (InsEnd W0 R 3 n i cs x) := by
  unfold maxLen at hcap
  have hgb := H.ne
  have hov : ∀ lb cb, (callFunc 43 #[.slice (some ⟨b, 0, none⟩) 1 1, .slice (some ⟨g, i + 1, none⟩) lb cb]).run Tryd.prog w = .ok (.value (.bool false)) w := fun lb cb => by
    rw [run_callFunc_extern Tryd.func43 (by kernel_rfl) (by kernel_rfl) (by kernel_rfl) (e := Extern.SlicesOverlaps.overlaps #[34, 34] #[4]) (by kernel_rfl),
      Lib.run_overlaps_apart w 34 4 3 Tryd.underlying34 1 Tryd.sizeOf3 ⟨b, 0, none⟩ ⟨g, i + 1, none⟩ 1 1 lb cb (fun e => hgb e.symm) 3 3 1 cap (by simp [World.shape?, H.blk]) (by simp [World.shape?, H.rot.blk, hsz]) (by omega) (frz_blk H.blk) (frz_blk H.blk)]
    rfl
  have hdl : (cs.drop i).length = n - i := by rw [List.length_drop, hlen]
  have hcell : ∀ j u, cs[j]? = some u → w.cell? ⟨g, j, none⟩ = some u := fun j u hj => by
    rw [cell_of_row w g j cur _ (0, 0) H.rot.blk]
    have hjn : j < n := by rw [← hlen]; exact (List.getElem?_eq_some_iff.1 hj).1
    rw [← htk, List.getElem?_take, if_pos hjn] at hj
    simpa using hj
  obtain ⟨c1, H1⟩ := run_copy_own (P := Tryd.prog) (w := w.drew) (g := g) H.rot.drew 34 34 3 3 (i + 1) (n - i) (cap - (i + 1)) ⟨g, i, none⟩ (n + 1 - i) (cap - i) (cs.drop i) Tryd.underlying34 size_ins_int (by rw [hdl]; simp only [Nat.min_def]; split <;> omega)
    (fun j u hj => by rw [Addr.add_lit]; exact hcell (i + j) u (by rwa [List.getElem?_drop] at hj)) (by rw [hdl]; omega) (fun u hu => hcs u (List.mem_of_mem_drop hu))
  obtain ⟨W1, hW1⟩ : ∃ W1, Kp (w.drew.setCells g (i + 1) (cs.drop i) = W1) := ⟨_, ⟨rfl⟩⟩
  rw [hW1.out] at c1 H1
  obtain ⟨c2, H2⟩ := run_copy_own (P := Tryd.prog) (w := W1) (g := g) H1 34 34 3 3 i (n + 1 - i) (cap - i) ⟨b, 0, none⟩ 1 1 [x] Tryd.underlying34 size_ins_int (by simp only [Nat.min_def, List.length_singleton]; split <;> omega)
    (fun j u hj => by rw [Addr.add_lit, cell_of_row W1 b (0 + j) _ _ (0, 0) H1.rot.blk]; simpa using hj) (by rw [setR_size, List.length_singleton]; omega) (fun u hu => by rw [List.mem_singleton.1 hu]; exact h1)
  obtain ⟨W2, hW2⟩ : ∃ W2, Kp (W1.setCells g i [x] = W2) := ⟨_, ⟨rfl⟩⟩
  rw [hW2.out] at c2 H2
  have hfin : Own W0 W2 (R * Row 3 1 (.slice (some ⟨g, 0, none⟩) (n + 1) cap) (n + 1) (cs.take i ++ x :: cs.drop i)) := by
    refine (H2.rot.drop).close1 (n + 1) hroom (by unfold maxLen; omega) (by rw [setR_size, setR_size]; exact hsz) _ ?_
    have hL : cur.toList.length = cap := by rw [Array.length_toList]; exact hsz
    have hti : cur.toList.take i = cs.take i := by rw [← htk, List.take_take, Nat.min_eq_left (by omega)]
    rw [setR_list _ _ _ (by rw [setR_size, List.length_singleton]; omega), setR_list _ _ _ (by rw [hdl]; omega), hdl, List.length_singleton]
    have e1 : (cur.toList.take (i + 1) ++ cs.drop i ++ cur.toList.drop (i + 1 + (n - i))).take i = cs.take i := by
      rw [List.append_assoc, List.take_append_of_le_length (by rw [List.length_take]; omega), List.take_take, Nat.min_eq_left (by omega), hti]
    have e2 : (cur.toList.take (i + 1) ++ cs.drop i ++ cur.toList.drop (i + 1 + (n - i))).drop (i + 1) = cs.drop i ++ cur.toList.drop (i + 1 + (n - i)) := by
      rw [List.append_assoc, List.drop_append_of_le_length (by rw [List.length_take]; omega), List.drop_eq_nil_of_le (by rw [List.length_take]; omega), List.nil_append]
    rw [e1, e2]
    have e3 : cs.take i ++ [x] ++ (cs.drop i ++ cur.toList.drop (i + 1 + (n - i))) = (cs.take i ++ x :: cs.drop i) ++ cur.toList.drop (i + 1 + (n - i)) := by simp
    rw [e3, List.take_left' (by rw [List.length_append, List.length_cons, List.length_take, hdl]; omega)]
  have hfin := Kp.mk hfin
  have c1 := Kp.mk c1
  have c2 := Kp.mk c2
  have hw1 : IntKind.i64.wrap ((i : Int) + 1) = (i : Int) + 1 := by rw [IntKind.wrap_i64]; omega
  have hz2 : ((i : Int) == (n : Int)) = false := by simp; omega
  have hg1 : decide ((cap : Int) < (n : Int) + 1) = false := decide_eq_false (by omega)
  have b0 : (0 : Int) ≤ (i : Int) + 1 := by omega
  have b1 : (i : Int) ≤ (n : Int) := by omega
  have b2 : i ≤ n := by omega
  have b3 : (n : Int) + 1 ≤ (cap : Int) := by omega
  have b4 : n + 1 ≤ cap := by omega
  have b5 : (i : Int) + 1 ≤ (n : Int) + 1 := by omega
  have b6 : i + 1 ≤ n + 1 := by omega
  have b7 : (i : Int) ≤ (n : Int) + 1 := by omega
  have b8 : i ≤ n + 1 := by omega
  have b9 : ¬ (cap = i) := by omega
  have b10 : ¬ (cap = i + 1) := by omega
  clear H H1 H2 hW1 hW2 hcell hcs h1 htk
  go_enter Tryd.func36, Tryd.ntmps36
  go_wp2_with (simp only [hov])
  go_region_law (refine step_copy_eq ?_ (.tmp 73) (.tmp 76) 34 34 rfl _ _ (by simp [Act.eval, Act.put]) (by simp [Act.eval, Act.put]) c1.out ?_; (go_simp))
  all_goals
    have c2 := c2.out
    go_wp2
    go_ret
    exact ⟨_, rfl, hfin.out⟩
set_option maxHeartbeats 4000000 in
/-- There is no room. -/
theorem ins_int_grow {W0 w : World} {R : HP} {x : Value} {cs : List Value} {n b i g cap : Nat} {cur : Array Value} (H : Own W0 w (R * Blk g (.cells cur 3) * Blk b (.cells #[x] 3))) (hn : n ≤ 1000000) (h1 : x.oneCell' = true) (hcs : ∀ u ∈ cs, u.oneCell' = true)
    (hi : i < n) (hroom : cap < n + 1) (hnc : n ≤ cap) (hsz : cur.size = cap) (htk : cur.toList.take n = cs) (hlen : cs.length = n) :
    Calls Tryd.prog 36 #[.slice (some ⟨g, 0, none⟩) n cap, .int .i64 i, .slice (some ⟨b, 0, none⟩) 1 1] w (InsEnd W0 R 3 n i cs x) := by
  obtain ⟨i0, hi0, hzz⟩ := Option.map_eq_some_iff.1 info_ins_int
  simp only [Prod.mk.injEq] at hzz
  obtain ⟨hz0, hz1, hz2⟩ := hzz
  have hdl : (cs.drop i).length = n - i := by rw [List.length_drop, hlen]
  have hcellw : ∀ (w' : World), Own W0 w' (R * Blk b (.cells #[x] 3) * Blk g (.cells cur 3)) → ∀ j u, cs[j]? = some u → w'.cell? ⟨g, j, none⟩ = some u := fun w' h j u hj => by
    rw [cell_of_row w' g j cur _ (0, 0) h.blk]
    have hjn : j < n := by rw [← hlen]; exact (List.getElem?_eq_some_iff.1 hj).1
    rw [← htk, List.getElem?_take, if_pos hjn] at hj
    simpa using hj
  have hcell := hcellw _ H.rot.drew
  have hold : (Builtin.firstCells i0.size i (.slice (some ⟨g, 0, none⟩) i cap)).run Tryd.prog w.drew = .ok (cs.take i).toArray w.drew := by
    rw [hz1]
    exact run_firstCells_some w.drew 1 i ⟨g, 0, none⟩ i cap (cs.take i) (by rw [List.length_take]; omega) (fun j v hj => by
      rw [Addr.add_lit]
      rw [List.getElem?_take] at hj
      split at hj
      · rw [Nat.zero_add]; exact hcell j v hj
      · cases hj)
  obtain ⟨G, hG⟩ : ∃ G, Kp (grownCap w (n + 1) cap 3 = G) := ⟨_, ⟨rfl⟩⟩
  have hik : i + (n + 1 - i) = n + 1 := by omega
  have hrz := Lib.run_append_grow_zeros (P := Tryd.prog) w 34 3 34 3 i0 _ .i64 .i64 Tryd.underlying34 Tryd.underlying3 hi0 hz0 (some ⟨g, 0, none⟩) i cap (cs.take i) hold (n + 1 - i) (by omega) (by omega) (by omega) (by omega) (by rw [hz2]; omega) (by rw [hz2, hik]; exact growslice_fits hroom (by omega))
  rw [hik, hG.out, show (((n + 1 - i : Nat)) : Int) = (n : Int) + 1 - (i : Int) by omega] at hrz
  obtain ⟨ROW, hROW⟩ : ∃ ROW : Array Value, Kp ((cs.take i).toArray ++ Builtin.zeroCells (Value.int .i64 0).cells (n + 1 - i) ++ Builtin.zeroCells (Value.int .i64 0).cells (G - (n + 1)) = ROW) := ⟨_, ⟨rfl⟩⟩
  rw [hROW.out] at hrz
  have hGn : n + 1 ≤ G := by rw [← hG.out]; exact grownCap_ge w _ _ _
  have hG63 : G ≤ maxLen := by rw [← hG.out]; exact grownCap_le_maxLen w (n + 1) cap _ (by unfold maxLen; omega)
  have hRz : ROW.size = G := by
    rw [← hROW.out]
    have hz1 : (Value.int .i64 0).cells.size = 1 := rfl
    simp only [Array.size_append, List.size_toArray, size_zeroCells, hz1, List.length_take]
    omega
  have hRt : ROW.toList.take i = cs.take i := by
    rw [← hROW.out, Array.toList_append, Array.toList_append, List.append_assoc, List.take_append_of_le_length (by simp only [List.length_take]; omega), List.take_of_length_le (by simp only [List.length_take]; omega)]
  have HA := H.drew.alloc (.cells ROW 3)
  obtain ⟨q, hq⟩ : ∃ q, Kp (w.heap.size = q) := ⟨_, ⟨rfl⟩⟩
  rw [show w.drew.heap.size = w.heap.size from rfl, hq.out] at HA
  rw [hq.out] at hrz
  obtain ⟨W1, hW1⟩ : ∃ W1, Kp (w.drew.alloc (.cells ROW 3) = W1) := ⟨_, ⟨rfl⟩⟩
  rw [hW1.out] at HA hrz
  obtain ⟨c1, H1⟩ := run_copy_own (P := Tryd.prog) (w := W1) (g := q) HA 34 34 3 3 i (n + 1 - i) (G - i) ⟨b, 0, none⟩ 1 1 [x] Tryd.underlying34 size_ins_int (by simp only [Nat.min_def, List.length_singleton]; split <;> omega)
    (fun j u hj => by rw [Addr.add_lit, cell_of_row W1 b (0 + j) _ _ (0, 0) HA.rot.blk]; simpa using hj) (by rw [List.length_singleton]; omega) (fun u hu => by rw [List.mem_singleton.1 hu]; exact h1)
  obtain ⟨W2, hW2⟩ : ∃ W2, Kp (W1.setCells q i [x] = W2) := ⟨_, ⟨rfl⟩⟩
  rw [hW2.out] at c1 H1
  have hcell2 := hcellw _ H1.drew.drop.rot
  obtain ⟨c2, H2⟩ := run_copy_own (P := Tryd.prog) (w := W2.drew) (g := q) H1.drew 34 34 3 3 (i + 1) (n - i) (G - (i + 1)) ⟨g, i, none⟩ (n - i) (cap - i) (cs.drop i) Tryd.underlying34 size_ins_int (by rw [hdl]; simp only [Nat.min_def]; split <;> omega)
    (fun j u hj => by rw [Addr.add_lit]; exact hcell2 (i + j) u (by rwa [List.getElem?_drop] at hj)) (by rw [hdl, setR_size]; omega) (fun u hu => hcs u (List.mem_of_mem_drop hu))
  obtain ⟨W3, hW3⟩ : ∃ W3, Kp (W2.drew.setCells q (i + 1) (cs.drop i) = W3) := ⟨_, ⟨rfl⟩⟩
  rw [hW3.out] at c2 H2
  have hfin : Own W0 W3 (R * Row 3 1 (.slice (some ⟨q, 0, none⟩) (n + 1) G) (n + 1) (cs.take i ++ x :: cs.drop i)) := by
    refine (H2.rot.drop.rot.drop).close1 (n + 1) hGn hG63 (by rw [setR_size, setR_size]; exact hRz) _ ?_
    have hL : ROW.toList.length = G := by rw [Array.length_toList]; exact hRz
    rw [setR_list _ _ _ (by rw [setR_size, hdl]; omega), setR_list _ _ _ (by rw [List.length_singleton]; omega), hdl, List.length_singleton, hRt]
    have e1 : (cs.take i ++ [x] ++ ROW.toList.drop (i + 1)).take (i + 1) = cs.take i ++ [x] := by
      rw [List.take_left' (by rw [List.length_append, List.length_take, List.length_singleton]; omega)]
    rw [e1]
    have e3 : ∀ z, cs.take i ++ [x] ++ cs.drop i ++ z = (cs.take i ++ x :: cs.drop i) ++ z := fun z => by simp
    rw [e3, List.take_left' (by rw [List.length_append, List.length_cons, List.length_take, hdl]; omega)]
  have hfin := Kp.mk hfin
  have hrz := Kp.mk hrz
  have c1 := Kp.mk c1
  have c2 := Kp.mk c2
  unfold maxLen at hG63
  have hw1 : IntKind.i64.wrap ((i : Int) + 1) = (i : Int) + 1 := by rw [IntKind.wrap_i64]; omega
  have hz2 : ((i : Int) == (n : Int)) = false := by simp; omega
  have hg1 : decide ((cap : Int) < (n : Int) + 1) = true := decide_eq_true (by omega)
  have b0 : (0 : Int) ≤ (i : Int) + 1 := by omega
  have b1 : (i : Int) ≤ (n : Int) := by omega
  have b2 : i ≤ n := by omega
  have b3 : (i : Int) ≤ (cap : Int) := by omega
  have b4 : i ≤ cap := by omega
  have b5 : (i : Int) + 1 ≤ (n : Int) + 1 := by omega
  have b6 : i + 1 ≤ n + 1 := by omega
  have b7 : (i : Int) ≤ (n : Int) + 1 := by omega
  have b8 : i ≤ n + 1 := by omega
  have b9 : ¬ (cap = i) := by omega
  have b10 : ¬ (G = i + 1) := by omega
  have b11 : ¬ (G = i) := by omega
  clear H HA H1 H2 hW1 hW2 hW3 hcell hcell2 hcellw hcs h1 htk hold hROW hRt hG hq hi0 hz0 hz1 hz2 hRz
  have hz2 : ((i : Int) == (n : Int)) = false := by simp; omega
  go_enter Tryd.func36, Tryd.ntmps36
  go_wp2_with (at_builtin; go_must (refine own_append_at rfl (.tmp 34) (.tmp 39) 34 3 rfl rfl rfl hrz.out ?_))
  have c1 := c1.out
  go_wp2
  go_region_law (refine step_copy_eq ?_ (.tmp 50) (.tmp 53) 34 34 rfl _ _ (by simp [Act.eval, Act.put]) (by simp [Act.eval, Act.put]) c2.out ?_; (go_simp))
  all_goals
    go_wp2
    go_ret
    exact ⟨_, rfl, hfin.out⟩
theorem ins_int {W0 w : World} {R : HP} {v x : Value} {cs : List Value} {n b i : Nat} (H : Own W0 w (R * Row 3 1 v n cs * Blk b (.cells #[x] 3))) (hn : n ≤ 1000000) (h1 : x.oneCell' = true) (hcs : ∀ u ∈ cs, u.oneCell' = true) (hi : i ≤ n) :
    Calls Tryd.prog 36 #[v, .int .i64 i, .slice (some ⟨b, 0, none⟩) 1 1] w (InsEnd W0 R 3 n i cs x) := by
  rcases Nat.eq_or_lt_of_le hi with rfl | hlt
  · exact ins_int_end H hn h1
  · obtain ⟨g, cap, cur, rfl, H1, h2, h3, h4, h5, h6⟩ := H.rot.open1 (by omega)
    by_cases hr : n + 1 ≤ cap
    · exact ins_int_room H1.rot hn h1 hcs hlt hr h3 h4 h5 h6
    · exact ins_int_grow H1.rot hn h1 hcs hlt (by omega) h2 h4 h5 h6
end Go.Proofs.YtbijlkbfndkdcaaDoorSep
