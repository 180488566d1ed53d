/- Own work: the disk's change.do, by a walk. -/
import Derived.Test.YtgakacingdlgpaaDiskA
namespace Go.Proofs.YtgakacingdlgpaaSep
open Go.RowKit Go.Lib Go.Proofs Go.Shelf

/-- A change as a value. -/
def Chg.val (c : Chg) (bv : Value) : List Value := [.int .i64 c.kind, .string (str c.name), .string (str c.dst), bv]
def DoEnd (W0 : World) (R : HP) (m : Nat) (F : FL) (G : HP) (e : Ending) (w' : World) : Prop :=
  e = .returned (.tuple #[]) ∧ ∃ X L', Own W0 w' (R * (G * X) * MapH m L') ∧ FRel (G * X) L' F
set_option maxHeartbeats 1000000 in
theorem do_drop {W0 w : World} {R G : HP} {m : Nat} {L : AL} {F : FL} (H : Own W0 w (R * G * MapH m L)) (hF : FRel G L F) (n d : List UInt8) (bv : Value) :
    Calls Try.prog 29 #[.agg #[.int .i64 2, .string (str n), .string (str d), bv], .map (some m)] w (DoEnd W0 R m (delA F n) G) := by
  have H1 := Kp.mk (H.alloc (.cells #[.int .i64 2, .string (str n), .string (str d), bv] 56))
  clear H
  go_enter Try.func29, Try.ntmps29
  go_wp2_with (at_delete; go_must (refine own_mapDel rfl (.tmp 33) (.tmp 35) 47 9 rfl 28 Try.underlying47 Try.underlying9 rfl n rfl H1.out.rot ?_))
  intro w2 H2 hz2
  have H2 := Kp.mk H2.rot.drop
  go_wp2
  go_end0
  exact ⟨rfl, emp, _, (H2.out.eq (by rw [star_emp])), by rw [star_emp]; exact hF.del n⟩
theorem zero_sl (w : World) : (zeroValue 28).run Try.prog w = .ok (.slice none 0 0) w := by kernel_rfl
set_option maxHeartbeats 1000000 in
theorem do_move {W0 w : World} {R G : HP} {m : Nat} {L : AL} {F : FL} (H : Own W0 w (R * G * MapH m L)) (hF : FRel G L F) (n d : List UInt8) (bv : Value) :
    Calls Try.prog 29 #[.agg #[.int .i64 1, .string (str n), .string (str d), bv], .map (some m)] w (DoEnd W0 R m (delA (setA F d ((getA F n).getD [])) n) G) := by
  have H1 := Kp.mk (H.alloc (.cells #[.int .i64 1, .string (str n), .string (str d), bv] 56))
  have hlook := H1.out.rot.look Try.underlying47 Try.underlying9 (zero_sl _) n false
  rw [if_neg (by decide)] at hlook
  have hV := Kp.mk (hF.getD (x := n))
  obtain ⟨A, k, c, hv, _⟩ : ∃ A k c, (getA L n).getD (.slice none 0 0) = .slice A k c ∧ True := by
    obtain ⟨_, A, c, h, _⟩ := (hV.out W0 R).sl H.drop
    exact ⟨_, _, _, h, trivial⟩
  rw [hv] at hlook hV
  clear H hv
  go_enter Try.func29, Try.ntmps29
  go_wp2_with (at_mapUpdate; go_must (refine own_mapSet rfl (.tmp 21) (.tmp 23) (.tmp 27) 47 rfl 9 28 Try.underlying47 Try.underlying9 rfl d rfl (.slice A k c) rfl H1.out.rot ?_))
  intro w2 H2 hz2
  have c1 := cell_blk (j := 1) H2.rot.blk rfl
  have H2 := Kp.mk H2
  go_wp2_with (at_delete; go_must (refine own_mapDel rfl (.tmp 28) (.tmp 30) 47 9 rfl 28 Try.underlying47 Try.underlying9 rfl n rfl H2.out ?_))
  intro w3 H3 hz3
  have H3 := Kp.mk H3.rot.drop
  go_wp2
  go_end0
  exact ⟨rfl, emp, _, (H3.out.eq (by rw [star_emp])), by rw [star_emp]; exact (hF.set d hV.out).del n⟩
set_option maxHeartbeats 4000000 in
theorem do_write {W0 w : World} {R G : HP} {m : Nat} {L : AL} {F : FL} (H : Own W0 w (R * G * MapH m L)) (hF : FRel G L F) (n d b : List UInt8) (bv : Value) (hb : Cont G bv b) (hl : ((getA F n).getD []).length + b.length ≤ 1000000000) :
    Calls Try.prog 29 #[.agg #[.int .i64 0, .string (str n), .string (str d), bv], .map (some m)] w (DoEnd W0 R m (setA F n ((getA F n).getD [] ++ b)) G) := by
  have H1 := Kp.mk (H.alloc (.cells #[.int .i64 0, .string (str n), .string (str d), bv] 56))
  have hlook : Kp (∀ wx Z, Own W0 wx (Z * MapH m L) → (Instr.lookup 47 (.map (some m)) (.string (str n)) false).run Try.prog wx = .ok ((getA L n).getD (.slice none 0 0)) wx) :=
    ⟨fun wx Z hx => hx.look Try.underlying47 Try.underlying9 (zero_sl _) n false⟩
  have hV := hF.getD (x := n)
  obtain ⟨l, hl0⟩ : ∃ l, (getA F n).getD [] = l := ⟨_, rfl⟩
  obtain ⟨v, hv0⟩ : ∃ v, (getA L n).getD (.slice none 0 0) = v := ⟨_, rfl⟩
  rw [hl0, hv0] at hV
  rw [hl0] at hl ⊢
  rw [hv0] at hlook
  clear hv0 hl0
  obtain ⟨A, c, rfl, _⟩ := ((hV W0 R).sl H.drop).2
  obtain ⟨A2, c2, rfl, _⟩ := ((hb W0 R).sl H.drop).2
  have hV := Kp.mk hV
  have hb := Kp.mk hb
  clear H
  obtain ⟨B, hB⟩ : ∃ B, Kp (w.heap.size = B) := ⟨_, ⟨rfl⟩⟩
  have hC : Kp (∀ wx, Own W0 wx (R * G * MapH m L * Blk B (.cells #[.int .i64 0, .string (str n), .string (str d), .slice A2 b.length c2] 56)) → Calls Try.prog 26 #[.slice A l.length c] wx fun e w' => ∃ v', e = .returned v' ∧ Own W0 w' (R * G * MapH m L * Blk B (.cells #[.int .i64 0, .string (str n), .string (str d), .slice A2 b.length c2] 56) * Row 5 1 v' l.length (U l))) :=
    ⟨fun wx hx => clone_bytes ((hV.out W0 R).more.more) hx (by omega)⟩
  have hfin : Kp (∀ w5 v4, Own W0 w5 (R * G * Blk B (.cells #[.int .i64 0, .string (str n), .string (str d), .slice A2 b.length c2] 56) * Row 5 1 v4 (l.length + b.length) (U l ++ U b) * MapH m (setA L n v4)) → DoEnd W0 R m (setA F n (l ++ b)) G (.returned (.tuple #[])) w5) := ⟨by
    intro w5 v4 h
    rw [← U_append, ← List.length_append] at h
    refine ⟨rfl, Row 5 1 v4 (l ++ b).length (U (l ++ b)), _, (h.focB B).drop.eq (by rw [star_assoc R G]), ?_⟩
    exact hF.more.set n cont_row⟩
  clear hF
  rw [hB.out] at H1
  go_enter Try.func29, Try.ntmps29
  obtain ⟨w1, hw1⟩ : ∃ w1, w.alloc (.cells #[.int .i64 0, .string (str n), .string (str d), .slice A2 b.length c2] 56) = w1 := ⟨_, rfl⟩
  rw [hw1] at H1
  have hlook1 := hlook.out _ _ H1.out.drew.rot
  have c0 : w1.cell? ⟨B, 0, none⟩ = some (.int .i64 0) := cell_blk H1.out.blk rfl
  have c1 : w1.cell? ⟨B, 1, none⟩ = some (.string (str n)) := cell_blk H1.out.blk rfl
  have c3 : w1.cell? ⟨B, 3, none⟩ = some (.slice A2 b.length c2) := cell_blk H1.out.blk rfl
  rw [← hB.out] at c0 c1 c3
  go_wp2
  rw [hB.out] at c0 c1 c3 ⊢
  clear hw1 c0
  go_region_law (first
    | (go_simp; go_at_call 26; (with_reducible refine (hC.out _ H1.out.drew).mono ?_); rintro e wq ⟨v', rfl, HQ⟩; obtain ⟨A3, cc, rfl, _⟩ := (HQ.sl (by decide)).2; have hlookq := hlook.out _ _ (HQ.foc (MapH m L)); have d1 : wq.cell? ⟨B, 1, none⟩ = some (.string (str n)) := cell_blk (HQ.focB B).blk rfl; have d3 : wq.cell? ⟨B, 3, none⟩ = some (.slice A2 b.length c2) := cell_blk (HQ.focB B).blk rfl)
    | (refine step_own_append (v := .slice A3 l.length cc) (vx := .slice A2 b.length c2) HQ ?_ (.tmp 15) (.tmp 17) 28 (.int .u8 0) 1 b.length (U b) rfl Try.underlying28 info_u8 rfl (by decide) rfl rfl (((hb.out W0 R).more.more.more.sl HQ)) (U_one _) ?_ ?_ ?_; (go_simp); (unfold maxLen; omega); omega; (intro v4 w4 H4 hz4 _; have g1 : w4.cell? ⟨B, 1, none⟩ = some (.string (str n)) := cell_blk (H4.focB B).blk rfl; obtain ⟨w5, hr5, H5, hz5⟩ := (H4.foc (MapH m L)).mapSet Try.underlying47 Try.underlying9 n v4)))
  all_goals
    have HE := Kp.mk (hfin.out _ _ H5)
    clear H5 H4 HQ
    go_wp2
    go_end0
    exact HE.out
end Go.Proofs.YtgakacingdlgpaaSep
