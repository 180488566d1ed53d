/- Own work: dom.Add of a template, by a walk. -/
import Derived.Test.YtbijlkbfndkdcaaDoorOpC
namespace Go.Proofs.YtbijlkbfndkdcaaDoorSep
open Go.RowKit Go.Lib Go.Proofs
section
variable {W0 w : World} {P : HP} {e sz n : Nat} {v : Value} {cs : List Value}
theorem Own.openN (H : Own W0 w (P * Row e sz v n cs)) (hn : 0 < n) : ∃ g cap cur, v = .slice (some ⟨g, 0, none⟩) n cap ∧ n ≤ cap ∧ cap ≤ maxLen ∧ cur.size = cap * sz ∧ cur.toList.take (n * sz) = cs ∧ Own W0 w (P * Blk g (.cells cur e)) := by
  obtain ⟨h1, h2, h3, h, ⟨p, a, hd, rfl, hp, ha⟩, hs⟩ := H
  rcases ha with ⟨hl, ⟨_, h0, _⟩ | ⟨g, cap, cur, rfl, he, h4, h5, h6, h7⟩⟩ | ⟨h0, _⟩
  · omega
  · exact ⟨g, cap, cur, rfl, h4, h5, h6, h7, h1, h2, h3, _, ⟨p, a, hd, rfl, hp, he⟩, hs⟩
  · omega
theorem Own.setN {g cap : Nat} {cur : Array Value} (H : Own W0 w (P * Blk g (.cells cur e))) (h1 : n ≤ cap) (h2 : cap ≤ maxLen) (h3 : cur.size = cap * sz) (h4 : cur.toList.take (n * sz) = cs) (j : Nat) (u : Value) :
    Own W0 (w.setCell ⟨g, j, none⟩ u) (P * Row e sz (.slice (some ⟨g, 0, none⟩) n cap) n (cs.set j u)) := by
  have := (H.set j u).made (sz := sz) n h1 h2 (by rw [Array.size_setIfInBounds]; exact h3)
  rwa [Array.toList_setIfInBounds, List.take_set, h4] at this
end
/-- A statement that ends usually, in one act but for a slice, in worlds of one kind. -/
def QE (A0 : Option Addr → Nat → Act) (C : Option Addr → Nat → World → Prop) : Exit → Act → World → Prop
  | .normal, act, w => ∃ A c, act = A0 A c ∧ C A c w
  | _, _, _ => False
theorem take_cell {cur : Array Value} {n : Nat} {cs : List Value} (h : cur.toList.take n = cs) {j : Nat} {u : Value} (hj : j < n) (hu : cs[j]? = some u) : cur[j]? = some u := by
  rw [← h, List.getElem?_take, if_pos hj] at hu
  simpa using hu
theorem nodesC_two (L : List NodeM) (x y : NodeM) : nodesC (L ++ [x, y]) = nodesC L ++ (x.cells ++ y.cells) := by simp [nodesC]
theorem nodesC_inner (L : List NodeM) (sp : Int) (n : List UInt8) (i j : Int) (y : NodeM) : (nodesC (L ++ [⟨2, sp, n, i⟩, y])).set (L.length * 10 + 9) (.int .i64 j) = nodesC (L ++ [⟨2, sp, n, j⟩, y]) := by
  rw [nodesC_two, nodesC_two, List.set_append_right _ _ (by rw [nodesC_len]; omega), nodesC_len, show L.length * 10 + 9 - L.length * 10 = 9 by omega]
  rfl
set_option maxRecDepth 100000 in
set_option maxHeartbeats 4000000 in
theorem dom_Add2 {W0 w : World} {R : HP} {d : Nat} {A : Option Addr} {c : Nat} {L : List NodeM} (H : Own W0 w (R * Row 65 10 (.slice A L.length c) L.length (nodesC L) * Blk d (docO (.slice A L.length c)))) (hL : L.length ≤ 1000) :
    Calls Tryd.prog 28 #[.pointer (some ⟨d, 0, none⟩), .agg #[.int .i64 2, .int .i64 0, .string (str tplT), .string ⟨#[]⟩, .slice none 0 0, .string ⟨#[]⟩, .string ⟨#[]⟩, .int .i64 0, .slice none 0 0, .int .i64 0]] w (AddEnd W0 R d L (L ++ [NodeM.mk 2 0 tplT ((L.length + 1 : Nat) : Int), pageN])) := by
  have hcl := clone_attrs
  have HB := H.alloc (.cells #[.int .i64 2, .int .i64 0, .string (str tplT), .string ⟨#[]⟩, .slice none 0 0, .string ⟨#[]⟩, .string ⟨#[]⟩, .int .i64 0, .slice none 0 0, .int .i64 0] 65)
  have k0 := cell_blk (j := 0) (v := .slice A L.length c) (HB.focB d).blk rfl
  have H2 : Own W0 (w.alloc (.cells #[.int .i64 2, .int .i64 0, .string (str tplT), .string ⟨#[]⟩, .slice none 0 0, .string ⟨#[]⟩, .string ⟨#[]⟩, .int .i64 (-1), .slice none 0 0, .int .i64 (-1)] 65)) (R * Row 65 10 (.slice A L.length c) L.length (nodesC L) * Blk d (docO (.slice A L.length c)) * Blk w.heap.size (.cells #[.int .i64 2, .int .i64 0, .string (str tplT), .string ⟨#[]⟩, .slice none 0 0, .string ⟨#[]⟩, .string ⟨#[]⟩, .int .i64 (-1), .slice none 0 0, .int .i64 (-1)] 65)) := H.alloc _
  replace H2 := Kp.mk H2
  clear H HB
  have hnt : (str tplT).toList = [116, 101, 109, 112, 108, 97, 116, 101] := str_toList tplT
  go_enter Tryd.func28, Tryd.ntmps28
  go_wp2_with fail
  refine (hcl _).mono ?_
  rintro e w1 ⟨rfl, rfl⟩
  go_wp2
  clear k0
  generalize w.heap.size = g at H2 ⊢
  generalize w.alloc (.cells #[.int .i64 2, .int .i64 0, .string (str tplT), .string ⟨#[]⟩, .slice none 0 0, .string ⟨#[]⟩, .string ⟨#[]⟩, .int .i64 (-1), .slice none 0 0, .int .i64 (-1)] 65) = w3 at H2 ⊢
  have e0 : w3.cell? ⟨g, 0, none⟩ = some (.int .i64 2) := cell_blk H2.out.blk rfl
  have e1 : w3.cell? ⟨g, 1, none⟩ = some (.int .i64 0) := cell_blk H2.out.blk rfl
  have e2 : w3.cell? ⟨g, 2, none⟩ = some (.string (str tplT)) := cell_blk H2.out.blk rfl
  have e3 : w3.cell? ⟨g, 3, none⟩ = some (.string ⟨#[]⟩) := cell_blk H2.out.blk rfl
  have e4 : w3.cell? ⟨g, 4, none⟩ = some (.slice none 0 0) := cell_blk H2.out.blk rfl
  have e5 : w3.cell? ⟨g, 5, none⟩ = some (.string ⟨#[]⟩) := cell_blk H2.out.blk rfl
  have e6 : w3.cell? ⟨g, 6, none⟩ = some (.string ⟨#[]⟩) := cell_blk H2.out.blk rfl
  have e7 : w3.cell? ⟨g, 7, none⟩ = some (.int .i64 (-1)) := cell_blk H2.out.blk rfl
  have e8 : w3.cell? ⟨g, 8, none⟩ = some (.slice none 0 0) := cell_blk H2.out.blk rfl
  have e9 : w3.cell? ⟨g, 9, none⟩ = some (.int .i64 (-1)) := cell_blk H2.out.blk rfl
  have d0 : w3.cell? ⟨d, 0, none⟩ = some (.slice A L.length c) := cell_blk (H2.out.focB d).blk rfl
  have f0 : w3.frozen? ⟨d, 0, none⟩ = false := frz_blk (H2.out.focB d).blk
  have HB := (H2.out.box (nodeO ⟨2, 0, tplT, -1⟩)).drew
  have hsl : Sl (w3.alloc (nodeO ⟨2, 0, tplT, -1⟩)).drew (.slice (some ⟨w3.heap.size, 0, none⟩) 1 1) 10 1 (NodeM.cells ⟨2, 0, tplT, -1⟩) := (sl_box w3 (nodeA ⟨2, 0, tplT, -1⟩) 65 10 1 rfl (by decide)).drawn ⟨1, rfl⟩
  have d0b : (w3.alloc (nodeO ⟨2, 0, tplT, -1⟩)).cell? ⟨d, 0, none⟩ = some (.slice A L.length c) := cell_blk (HB.focB d).blk rfl
  unfold nodeO at HB hsl d0b
  unfold NodeM.cells at hsl
  dsimp only at HB hsl d0b
  replace HB := Kp.mk HB
  replace hsl := Kp.mk hsl
  refine Go.wp_mono (Q := QE ?A0 (fun A4 c4 wx => Kp (Own W0 wx (R * Blk g (.cells #[.int .i64 2, .int .i64 0, .string (str tplT), .string ⟨#[]⟩, .slice none 0 0, .string ⟨#[]⟩, .string ⟨#[]⟩, .int .i64 (-1), .slice none 0 0, .int .i64 (-1)] 65) * Row 65 10 (.slice A4 (L.length + 1) c4) (L.length + 1) (nodesC L ++ [.int .i64 2, .int .i64 0, .string (str tplT), .string ⟨#[]⟩, .slice none 0 0, .string ⟨#[]⟩, .string ⟨#[]⟩, .int .i64 (-1), .slice none 0 0, .int .i64 (-1)]) * Blk d (docO (.slice A4 (L.length + 1) c4)))))) ?first ?rest
  case first =>
    go_region_law (refine step_own_append (v := .slice A L.length c) (vx := .slice (some ⟨w3.heap.size, 0, none⟩) 1 1) HB.out ?_ (.tmp 27) (.tmp 29) 71 (.agg #[.int .i64 0, .int .i64 0, .string ByteArray.empty, .string ByteArray.empty, .slice none 0 0, .string ByteArray.empty, .string ByteArray.empty, .int .i64 0, .slice none 0 0, .int .i64 0]) 144 1 [.int .i64 2, .int .i64 0, .string (str tplT), .string ⟨#[]⟩, .slice none 0 0, .string ⟨#[]⟩, .string ⟨#[]⟩, .int .i64 (-1), .slice none 0 0, .int .i64 (-1)] rfl Tryd.underlying71 info_node rfl (by decide) rfl rfl hsl.out (by simp [Value.oneCell']) ?_ ?_ ?_; (go_simp); (unfold maxLen; omega); omega; (intro v4 w4 H4 hz4 _; obtain ⟨_, A4, c4, hv4, _⟩ := H4.sl (by decide); subst hv4; have f4 : w4.frozen? ⟨d, 0, none⟩ = false := frz_blk (H4.focB d).blk; have k4 : w4.cell? ⟨d, 0, none⟩ = some (.slice A L.length c) := cell_blk (H4.focB d).blk rfl))
    all_goals
      have H5 := Kp.mk ((H4.focB d).set 0 (.slice A4 (L.length + 1) c4))
      refine ⟨A4, c4, ?_, H5⟩
      exact rfl
  case rest =>
    rintro (_ | _ | _ | _ | _ | _) act w5 HQ
    all_goals first | (exact HQ.elim) | skip
    obtain ⟨A4, c4, rfl, H5⟩ := HQ
    replace H5 := H5.out
    clear e0 e1 e2 e3 e4 e5 e6 e7 e8 e9 d0 f0 d0b HB hsl H2
    have g0 : w5.cell? ⟨g, 0, none⟩ = some (.int .i64 2) := cell_blk (H5.focB g).blk rfl
    have g1 : w5.cell? ⟨g, 1, none⟩ = some (.int .i64 0) := cell_blk (H5.focB g).blk rfl
    have g2 : w5.cell? ⟨g, 2, none⟩ = some (.string (str tplT)) := cell_blk (H5.focB g).blk rfl
    have d1 : w5.cell? ⟨d, 0, none⟩ = some (.slice A4 (L.length + 1) c4) := cell_blk H5.blk rfl
    have HB := ((H5.focB g).drop).box (nodeO pageN)
    have hsl : Sl (w5.alloc (nodeO pageN)) (.slice (some ⟨w5.heap.size, 0, none⟩) 1 1) 10 1 (NodeM.cells pageN) := sl_box w5 (nodeA pageN) 65 10 1 rfl (by decide)
    replace HB := Kp.mk HB
    replace hsl := Kp.mk hsl
    clear H5
    go_wp2_with (at_builtin; go_must (refine own_append (v := .slice A4 (L.length + 1) c4) (vx := .slice (some ⟨w5.heap.size, 0, none⟩) 1 1) HB.out rfl (.tmp 71) (.tmp 73) 71 (.agg #[.int .i64 0, .int .i64 0, .string ByteArray.empty, .string ByteArray.empty, .slice none 0 0, .string ByteArray.empty, .string ByteArray.empty, .int .i64 0, .slice none 0 0, .int .i64 0]) 144 1 (NodeM.cells pageN) rfl Tryd.underlying71 info_node rfl (by decide) rfl rfl hsl.out (by simp [Value.oneCell', NodeM.cells]) ?c2 ?c3 ?_))
    case c2 => unfold maxLen; omega
    case c3 => omega
    intro v6 w6 H6 hz6 _
    obtain ⟨g6, c6, cur, hv6, q1, q2, q3, q4, H7⟩ := H6.openN (by omega)
    subst hv6
    have f6 : w6.frozen? ⟨d, 0, none⟩ = false := frz_blk (H6.focB d).blk
    have k6 : w6.cell? ⟨d, 0, none⟩ = some (.slice A4 (L.length + 1) c4) := cell_blk (H6.focB d).blk rfl
    clear HB hsl H6 g0 g1 g2 d1 hz6
    go_upto_region 11 with fail
    have H8 := (H7.focB d).set 0 (.slice (some ⟨g6, 0, none⟩) (L.length + 1 + 1) c6)
    clear f6 k6 H7
    generalize w6.setCell ⟨d, 0, none⟩ (.slice (some ⟨g6, 0, none⟩) (L.length + 1 + 1) c6) = w7 at H8 ⊢
    have d7 : w7.cell? ⟨d, 0, none⟩ = some (.slice (some ⟨g6, 0, none⟩) (L.length + 1 + 1) c6) := cell_blk H8.blk rfl
    have hj : cur[L.length * 10 + 9]? = some (.int .i64 (-1)) := take_cell (n := (L.length + 1 + 1) * 10) q4 (by omega) (by
      rw [List.getElem?_append_right (by rw [nodesC_len]; omega), nodesC_len, show L.length * 10 + 9 - L.length * 10 = 9 by omega]
      rfl)
    have c7 : w7.cell? ⟨g6, L.length * 10 + 9, none⟩ = some (.int .i64 (-1)) := cell_blk (H8.focB g6).blk hj
    clear hj
    have z7 : ∀ j, w7.frozen? ⟨g6, j, none⟩ = false := fun j => frz_blk (H8.focB g6).blk
    have HE : Own W0 (w7.setCell ⟨g6, L.length * 10 + 9, none⟩ (.int .i64 ((L.length : Int) + 1))) (R * Row 65 10 (.slice (some ⟨g6, 0, none⟩) (L ++ [NodeM.mk 2 0 tplT ((L.length + 1 : Nat) : Int), pageN]).length c6) (L ++ [NodeM.mk 2 0 tplT ((L.length + 1 : Nat) : Int), pageN]).length (nodesC (L ++ [NodeM.mk 2 0 tplT ((L.length + 1 : Nat) : Int), pageN])) * Blk d (docO (.slice (some ⟨g6, 0, none⟩) (L ++ [NodeM.mk 2 0 tplT ((L.length + 1 : Nat) : Int), pageN]).length c6))) := by
      have := ((H8.focB g6).setN q1 q2 q3 q4 (L.length * 10 + 9) (.int .i64 ((L.length : Int) + 1))).rot
      have e1 : nodesC (L ++ [NodeM.mk 2 0 tplT ((L.length + 1 : Nat) : Int), pageN]) = (nodesC L ++ (([.int .i64 2, .int .i64 0, .string (str tplT), .string ⟨#[]⟩, .slice none 0 0, .string ⟨#[]⟩, .string ⟨#[]⟩, .int .i64 (-1), .slice none 0 0, .int .i64 (-1)] : List Value) ++ NodeM.cells pageN)).set (L.length * 10 + 9) (Value.int .i64 ((L.length : Int) + 1)) := by
        rw [← nodesC_inner L 0 tplT (-1) ((L.length + 1 : Nat) : Int) pageN, nodesC_two]
        rfl
      rw [e1, List.length_append]
      exact this
    replace HE := Kp.mk HE
    clear H8 q1 q2 q3 q4
    go_wp2
    go_ret
    exact ⟨_, _, rfl, HE.out⟩
end Go.Proofs.YtbijlkbfndkdcaaDoorSep
