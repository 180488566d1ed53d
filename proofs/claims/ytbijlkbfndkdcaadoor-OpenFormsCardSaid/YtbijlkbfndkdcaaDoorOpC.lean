/- Own work: dom.Add, by a walk. -/
import Derived.Test.YtbijlkbfndkdcaaDoorOpB
namespace Go.Proofs.YtbijlkbfndkdcaaDoorSep
open Go.RowKit Go.Lib Go.Proofs
def AddEnd (W0 : World) (R : HP) (d : Nat) (L L' : List NodeM) (e : Ending) (w' : World) : Prop :=
  ∃ A c, e = .returned (.int .i64 (L.length : Int)) ∧ Own W0 w' (R * Row 65 10 (.slice A L'.length c) L'.length (nodesC L') * Blk d (docO (.slice A L'.length c)))
theorem nodesC_snoc (L : List NodeM) (x : NodeM) : nodesC (L ++ [x]) = nodesC L ++ x.cells := by simp [nodesC]
def nodeA (x : NodeM) : Array Value := #[.int .i64 x.k, .int .i64 x.sp, .string (str x.name), .string ⟨#[]⟩, .slice none 0 0, .string ⟨#[]⟩, .string ⟨#[]⟩, .int .i64 (-1), .slice none 0 0, .int .i64 x.inner]
set_option maxRecDepth 100000 in
set_option maxHeartbeats 4000000 in
theorem dom_Add1 {W0 w : World} {R : HP} {d : Nat} {A : Option Addr} {c : Nat} {L : List NodeM} (H : Own W0 w (R * Row 65 10 (.slice A L.length c) L.length (nodesC L) * Blk d (docO (.slice A L.length c)))) (hL : L.length ≤ 1000) (sp : Int) (n : List UInt8) (hn : ¬ (sp = 0 ∧ n = tplT)) :
    Calls Tryd.prog 28 #[.pointer (some ⟨d, 0, none⟩), .agg #[.int .i64 2, .int .i64 sp, .string (str n), .string ⟨#[]⟩, .slice none 0 0, .string ⟨#[]⟩, .string ⟨#[]⟩, .int .i64 0, .slice none 0 0, .int .i64 0]] w (AddEnd W0 R d L (L ++ [NodeM.mk 2 sp n (-1)])) := by
  have hcl := clone_attrs
  have HB := H.alloc (.cells #[.int .i64 2, .int .i64 sp, .string (str n), .string ⟨#[]⟩, .slice none 0 0, .string ⟨#[]⟩, .string ⟨#[]⟩, .int .i64 0, .slice none 0 0, .int .i64 0] 65)
  have k0 := cell_blk (j := 0) (v := .slice A L.length c) (HB.focB d).blk rfl
  have H2 : Own W0 (w.alloc (.cells #[.int .i64 2, .int .i64 sp, .string (str n), .string ⟨#[]⟩, .slice none 0 0, .string ⟨#[]⟩, .string ⟨#[]⟩, .int .i64 (-1), .slice none 0 0, .int .i64 (-1)] 65)) (R * Row 65 10 (.slice A L.length c) L.length (nodesC L) * Blk d (docO (.slice A L.length c)) * Blk w.heap.size (.cells #[.int .i64 2, .int .i64 sp, .string (str n), .string ⟨#[]⟩, .slice none 0 0, .string ⟨#[]⟩, .string ⟨#[]⟩, .int .i64 (-1), .slice none 0 0, .int .i64 (-1)] 65)) := H.alloc _
  replace H2 := Kp.mk H2
  clear H HB
  have hnt : Kp (¬ (sp = 0 ∧ (str n).toList = tplT)) := ⟨by rw [str_toList]; exact hn⟩
  clear hn
  go_enter Tryd.func28, Tryd.ntmps28
  go_wp2_with fail
  refine (hcl _).mono ?_
  rintro e w1 ⟨rfl, rfl⟩
  go_wp2
  clear k0
  generalize w.heap.size = g at H2 ⊢
  generalize w.alloc (.cells #[.int .i64 2, .int .i64 sp, .string (str n), .string ⟨#[]⟩, .slice none 0 0, .string ⟨#[]⟩, .string ⟨#[]⟩, .int .i64 (-1), .slice none 0 0, .int .i64 (-1)] 65) = w3 at H2 ⊢
  have e0 : w3.cell? ⟨g, 0, none⟩ = some (.int .i64 2) := cell_blk H2.out.blk rfl
  have e1 : w3.cell? ⟨g, 1, none⟩ = some (.int .i64 sp) := cell_blk H2.out.blk rfl
  have e2 : w3.cell? ⟨g, 2, none⟩ = some (.string (str n)) := cell_blk H2.out.blk rfl
  have e3 : w3.cell? ⟨g, 3, none⟩ = some (.string ⟨#[]⟩) := cell_blk H2.out.blk rfl
  have e4 : w3.cell? ⟨g, 4, none⟩ = some (.slice none 0 0) := cell_blk H2.out.blk rfl
  have e5 : w3.cell? ⟨g, 5, none⟩ = some (.string ⟨#[]⟩) := cell_blk H2.out.blk rfl
  have e6 : w3.cell? ⟨g, 6, none⟩ = some (.string ⟨#[]⟩) := cell_blk H2.out.blk rfl
  have e7 : w3.cell? ⟨g, 7, none⟩ = some (.int .i64 (-1)) := cell_blk H2.out.blk rfl
  have e8 : w3.cell? ⟨g, 8, none⟩ = some (.slice none 0 0) := cell_blk H2.out.blk rfl
  have e9 : w3.cell? ⟨g, 9, none⟩ = some (.int .i64 (-1)) := cell_blk H2.out.blk rfl
  have d0 : w3.cell? ⟨d, 0, none⟩ = some (.slice A L.length c) := cell_blk (H2.out.focB d).blk rfl
  have f0 : w3.frozen? ⟨d, 0, none⟩ = false := frz_blk (H2.out.focB d).blk
  have HB := (H2.out.box (nodeO ⟨2, sp, n, -1⟩)).drew
  have hsl : Sl (w3.alloc (nodeO ⟨2, sp, n, -1⟩)).drew (.slice (some ⟨w3.heap.size, 0, none⟩) 1 1) 10 1 (NodeM.cells ⟨2, sp, n, -1⟩) := (sl_box w3 (nodeA ⟨2, sp, n, -1⟩) 65 10 1 rfl (by decide)).drawn ⟨1, rfl⟩
  have d0b : (w3.alloc (nodeO ⟨2, sp, n, -1⟩)).cell? ⟨d, 0, none⟩ = some (.slice A L.length c) := cell_blk (HB.focB d).blk rfl
  unfold nodeO at HB hsl d0b
  unfold NodeM.cells at hsl
  dsimp only at HB hsl d0b
  replace HB := Kp.mk HB
  replace hsl := Kp.mk hsl
  go_region_law (refine step_own_append (v := .slice A L.length c) (vx := .slice (some ⟨w3.heap.size, 0, none⟩) 1 1) HB.out ?_ (.tmp 27) (.tmp 29) 71 (.agg #[.int .i64 0, .int .i64 0, .string ByteArray.empty, .string ByteArray.empty, .slice none 0 0, .string ByteArray.empty, .string ByteArray.empty, .int .i64 0, .slice none 0 0, .int .i64 0]) 144 1 [.int .i64 2, .int .i64 sp, .string (str n), .string ⟨#[]⟩, .slice none 0 0, .string ⟨#[]⟩, .string ⟨#[]⟩, .int .i64 (-1), .slice none 0 0, .int .i64 (-1)] rfl Tryd.underlying71 info_node rfl (by decide) rfl rfl hsl.out (by simp [Value.oneCell']) ?_ ?_ ?_; (go_simp); (unfold maxLen; omega); omega; (intro v4 w4 H4 hz4 _; obtain ⟨_, A4, c4, hv4, _⟩ := H4.sl (by decide); subst hv4; have f4 : w4.frozen? ⟨d, 0, none⟩ = false := frz_blk (H4.focB d).blk; have k4 : w4.cell? ⟨d, 0, none⟩ = some (.slice A L.length c) := cell_blk (H4.focB d).blk rfl))
  all_goals
    have H5 := (H4.focB d).set 0 (.slice A4 (L.length + 1) c4)
    clear f4 k4 e0 e1 e2 e3 e4 e5 e6 e7 e8 e9 d0 f0 d0b HB hsl H2 H4 hz4
    generalize w4.setCell ⟨d, 0, none⟩ (.slice A4 (L.length + 1) c4) = w5 at H5 ⊢
    have g0 : w5.cell? ⟨g, 0, none⟩ = some (.int .i64 2) := cell_blk (H5.focB g).blk rfl
    have g1 : w5.cell? ⟨g, 1, none⟩ = some (.int .i64 sp) := cell_blk (H5.focB g).blk rfl
    have g2 : w5.cell? ⟨g, 2, none⟩ = some (.string (str n)) := cell_blk (H5.focB g).blk rfl
    have d1 : w5.cell? ⟨d, 0, none⟩ = some (.slice A4 (L.length + 1) c4) := cell_blk H5.blk rfl
    have HE : Own W0 w5 (R * Row 65 10 (.slice A4 (L ++ [NodeM.mk 2 sp n (-1)]).length c4) (L ++ [NodeM.mk 2 sp n (-1)]).length (nodesC (L ++ [NodeM.mk 2 sp n (-1)])) * Blk d (docO (.slice A4 (L ++ [NodeM.mk 2 sp n (-1)]).length c4))) := by
      rw [nodesC_snoc, List.length_append, List.length_singleton]
      exact ((H5.focB g).drop).eq (by rfl)
    replace HE := Kp.mk HE
    clear H5
    by_cases h0 : sp = 0
    · subst h0
      have q : ((str n).toList == [116, 101, 109, 112, 108, 97, 116, 101]) = false := by
        rw [beq_eq_false_iff_ne]
        exact fun h => hnt.out ⟨rfl, h⟩
      go_wp2
      go_ret
      exact ⟨_, _, rfl, HE.out⟩
    · have q : (sp == 0) = false := by simpa using h0
      have q2 : decide (sp = 0) = false := decide_eq_false h0
      go_wp2
      go_ret
      exact ⟨_, _, rfl, HE.out⟩
end Go.Proofs.YtbijlkbfndkdcaaDoorSep
