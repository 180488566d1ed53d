/- Own work: the disk's take. -/
import Derived.Test.YtgakacingdlgpaaDiskD
namespace Go.Proofs.YtgakacingdlgpaaSep
open Go.RowKit Go.Lib Go.Proofs Go.Shelf

theorem info_chg : (Try.prog.info? 56).map (fun i => (i.zero, i.size, i.bytes)) = some (some (.agg #[.int .i64 0, .string ByteArray.empty, .string ByteArray.empty, .slice none 0 0]), 4, 64) := by kernel_rfl
def Chg.agg (c : Chg) (bv : Value) : Value := .agg #[.int .i64 c.kind, .string (str c.name), .string (str c.dst), bv]
theorem chg_do {W0 w : World} {R G : HP} {m : Nat} {L : AL} {F : FL} (H : Own W0 w (R * G * MapH m L)) (hF : FRel G L F) (c : Chg) (bv : Value) (hb : Cont G bv c.b) (hk : c.kind ≤ 2) (hl : ((getA F c.name).getD []).length + c.b.length ≤ 1000000000) :
    Calls Try.prog 29 #[.agg #[.int .i64 c.kind, .string (str c.name), .string (str c.dst), bv], .map (some m)] w (DoEnd W0 R m (c.act F) G) := by
  obtain ⟨k, n, d, b⟩ := c
  dsimp only at *
  have hk2 : k = 0 ∨ k = 1 ∨ k = 2 := by omega
  rcases hk2 with rfl | rfl | rfl
  · exact do_write H hF n d b bv hb hl
  · exact do_move H hF n d bv
  · exact do_drop H hF n d bv
def Dk.take (s : Dk) (c : Chg) : Dk := { s with wait := s.wait ++ [c], work := s.work + 1 }
theorem Dk.take_now (s : Dk) (c : Chg) : (s.take c).now = c.act s.now := nowF_snoc ..
theorem DkOk.take {s : Dk} (h : DkOk s) {c : Chg} (ht : tot (c.act s.now) ≤ s.room) (hb : c.b.length ≤ 16777216) : DkOk (s.take c) where
  room := h.room
  keys := h.keys
  tots k := by
    show tot (nowF s.safe ((s.wait ++ [c]).take k)) ≤ s.room
    by_cases hk : k ≤ s.wait.length
    · rw [List.take_append_of_le_length hk]
      exact h.tots k
    · rw [List.take_of_length_le (by simp; omega), nowF_snoc]
      exact ht
  parts w hw := by
    rcases List.mem_append.1 hw with hw | hw
    · exact h.parts w hw
    · rw [List.mem_singleton.1 hw]; exact hb
section
variable {W0 w : World} {R : HP} {g : Nat} {s : Dk}
set_option maxHeartbeats 8000000 in
theorem disk_take {c : Chg} {bv : Value} (H : Own W0 w (R * DskH g s * Row 5 1 bv c.b.length (U c.b))) (hk : c.kind ≤ 2) (ht : tot (c.act s.now) ≤ s.room) (hb : c.b.length ≤ 16777216) (hw : s.work ≤ 1000000) (hwl : s.wait.length ≤ 1000000) :
    Calls Try.prog 25 #[.pointer (some ⟨g, 0, none⟩), .agg #[.int .i64 c.kind, .string (str c.name), .string (str c.dst), bv]] w fun e w' => e = .returned (.int .i64 0) ∧ Own W0 w' (R * DskH g (s.take c)) := by
  obtain ⟨G, bn, bs, L1, L2, vw, cs, h1, h2, h3, h4, h⟩ := H.rot.dsk
  clear H
  unfold DskB at h
  simp only [← star_assoc] at h
  have hr := h1.room
  have hnow := h1.now
  have hl : ((getA s.now c.name).getD []).length + c.b.length ≤ 1000000000 := by
    have : ((getA s.now c.name).getD []).length ≤ tot s.now := by
      cases he : getA s.now c.name with
      | none => simp
      | some v => exact get_tot _ _ _ he
    omega
  obtain ⟨_, Ab, cb, hbv, _⟩ := (h.foc (Row 5 1 bv c.b.length (U c.b))).sl (by decide)
  subst hbv
  obtain ⟨_, Aw, cw, hvw, _⟩ := (h.foc (Row 56 4 vw s.wait.length cs)).sl (by decide)
  subst hvw
  have hst := Kp.mk (disk_step (h.alloc (.cells #[.int .i64 c.kind, .string (str c.name), .string (str c.dst), .slice Ab c.b.length cb] 56)).rot (by omega))
  obtain ⟨B, hB⟩ : ∃ B, Kp (w.heap.size = B) := ⟨_, ⟨rfl⟩⟩
  rw [hB.out] at hst
  clear h
  go_enter Try.func25, Try.ntmps25
  go_wp2_with fail
  refine hst.out.mono ?_
  rintro e w2 ⟨rfl, H2⟩
  clear hst
  rw [hB.out]
  have c0 := cell_blk (j := 0) (H2.focB B).blk rfl
  have c1 := cell_blk (j := 1) (H2.focB B).blk rfl
  have c2 := cell_blk (j := 2) (H2.focB B).blk rfl
  have c3 := cell_blk (j := 3) (H2.focB B).blk rfl
  have n1 := cell_blk (j := 1) H2.blk rfl
  have HD : Kp (∀ wx, Own W0 wx (R * MapH bs L2 * Row 56 4 (.slice Aw s.wait.length cw) s.wait.length cs * Blk B (.cells #[.int .i64 c.kind, .string (str c.name), .string (str c.dst), .slice Ab c.b.length cb] 56) * Blk g (.cells #[.int .i64 s.room, .map (some bn), .map (some bs), .slice Aw s.wait.length cw, .int .i64 0, .bool false, .int .i64 (s.work + 1 : Nat)] 50) * (G * Row 5 1 (.slice Ab c.b.length cb) c.b.length (U c.b)) * MapH bn L1) → _) := ⟨fun wx hx => chg_do hx h2.more c (.slice Ab c.b.length cb) cont_row hk hl⟩
  have H2' := Kp.mk (H2.eq (show _ = R * MapH bs L2 * Row 56 4 (.slice Aw s.wait.length cw) s.wait.length cs * Blk B (.cells #[.int .i64 c.kind, .string (str c.name), .string (str c.dst), .slice Ab c.b.length cb] 56) * Blk g (.cells #[.int .i64 s.room, .map (some bn), .map (some bs), .slice Aw s.wait.length cw, .int .i64 0, .bool false, .int .i64 (s.work + 1 : Nat)] 50) * (G * Row 5 1 (.slice Ab c.b.length cb) c.b.length (U c.b)) * MapH bn L1 by ac_rfl))
  have hfin : Kp (∀ wx G' L' v', FRel (G * Row 5 1 (.slice Ab c.b.length cb) c.b.length (U c.b) * G') L' (c.act s.now) → Own W0 wx (R * MapH bs L2 * Blk g (.cells #[.int .i64 s.room, .map (some bn), .map (some bs), v', .int .i64 0, .bool false, .int .i64 (s.work + 1 : Nat)] 50) * (G * Row 5 1 (.slice Ab c.b.length cb) c.b.length (U c.b) * G') * MapH bn L' * Row 56 4 v' (s.wait.length + 1) (cs ++ [.int .i64 c.kind, .string (str c.name), .string (str c.dst), .slice Ab c.b.length cb])) → Own W0 wx (R * DskH g (s.take c))) := ⟨by
    intro wx G' L' v' hF' hx
    refine Own.toDsk (G := G * Row 5 1 (.slice Ab c.b.length cb) c.b.length (U c.b) * G') (bn := bn) (bs := bs) (L1 := L') (L2 := L2) (vw := v') (cs := cs ++ [.int .i64 c.kind, .string (str c.name), .string (str c.dst), .slice Ab c.b.length cb]) (h1.take ht hb) (by rw [Dk.take_now]; exact hF') (h3.more.more) (WRel.snoc (cont_row.more) hk h4.more.more) (hx.eq ?_)
    unfold DskB
    rw [show (s.take c).wait.length = s.wait.length + 1 by simp [Dk.take]]
    show _ = R * (G * Row 5 1 (.slice Ab c.b.length cb) c.b.length (U c.b) * G' * MapH bn L' * MapH bs L2 * Row 56 4 v' (s.wait.length + 1) _ * Blk g (.cells #[.int .i64 s.room, .map (some bn), .map (some bs), v', .int .i64 0, .bool false, .int .i64 (s.work + 1 : Nat)] 50))
    simp only [← star_assoc]
    ac_rfl⟩
  clear H2 h1 h2 h3 h4 hk hl ht hb hr hnow
  go_wp2
  go_region_law (go_simp; go_at_call 29; (with_reducible refine (HD.out _ H2'.out.drew).mono ?_); rintro e w3 ⟨rfl, X, L', H3, hF3⟩)
  all_goals
    have d3 : w3.cell? ⟨g, 3, none⟩ = some (.slice Aw s.wait.length cw) := cell_blk (H3.focB g).blk rfl
    have e0 : w3.cell? ⟨B, 0, none⟩ = some (.int .i64 c.kind) := cell_blk (H3.focB B).blk rfl
    have e1 : w3.cell? ⟨B, 1, none⟩ = some (.string (str c.name)) := cell_blk (H3.focB B).blk rfl
    have e2 : w3.cell? ⟨B, 2, none⟩ = some (.string (str c.dst)) := cell_blk (H3.focB B).blk rfl
    have e3 : w3.cell? ⟨B, 3, none⟩ = some (.slice Ab c.b.length cb) := cell_blk (H3.focB B).blk rfl
    have f3 : w3.frozen? ⟨g, 3, none⟩ = false := frz_blk (H3.focB g).blk
    replace H3 := Kp.mk H3
    clear c0 c1 c2 c3 n1 HD H2'
    have HB := (H3.out.box (.cells #[.int .i64 c.kind, .string (str c.name), .string (str c.dst), .slice Ab c.b.length cb] 56)).drew
    have hsl : Sl (w3.alloc (.cells #[.int .i64 c.kind, .string (str c.name), .string (str c.dst), .slice Ab c.b.length cb] 56)).drew (.slice (some ⟨w3.heap.size, 0, none⟩) 1 1) 4 1 [.int .i64 c.kind, .string (str c.name), .string (str c.dst), .slice Ab c.b.length cb] := (sl_box w3 #[.int .i64 c.kind, .string (str c.name), .string (str c.dst), .slice Ab c.b.length cb] 56 4 1 rfl (by decide)).drawn ⟨1, rfl⟩
    have d3b : (w3.alloc (.cells #[.int .i64 c.kind, .string (str c.name), .string (str c.dst), .slice Ab c.b.length cb] 56)).cell? ⟨g, 3, none⟩ = some (.slice Aw s.wait.length cw) := cell_blk (HB.focB g).blk rfl
    replace HB := Kp.mk HB
    replace hsl := Kp.mk hsl
    go_wp2
    go_region_law (refine step_own_append (v := .slice Aw s.wait.length cw) (vx := .slice (some ⟨w3.heap.size, 0, none⟩) 1 1) HB.out ?_ (.tmp 18) (.tmp 20) 48 (.agg #[.int .i64 0, .string ByteArray.empty, .string ByteArray.empty, .slice none 0 0]) 64 1 [.int .i64 c.kind, .string (str c.name), .string (str c.dst), .slice Ab c.b.length cb] rfl Try.underlying48 info_chg rfl (by decide) rfl rfl hsl.out (by simp [Value.oneCell']) ?_ ?_ ?_; (go_simp); (unfold maxLen; omega); omega; (intro v4 w4 H4 hz4 _; obtain ⟨_, A4, c4, hv4, _⟩ := H4.sl (by decide); subst hv4; have f4 : w4.frozen? ⟨g, 3, none⟩ = false := frz_blk (H4.focB g).blk; have k4 : w4.cell? ⟨g, 3, none⟩ = some (.slice Aw s.wait.length cw) := cell_blk (H4.focB g).blk rfl))
    all_goals
      have HE := Kp.mk (hfin.out _ _ _ _ hF3 (((((H4.focB B).drop).focB g).set 3 (.slice A4 (s.wait.length + 1) c4)).eq (show _ = R * MapH bs L2 * Blk g (.cells #[.int .i64 s.room, .map (some bn), .map (some bs), .slice A4 (s.wait.length + 1) c4, .int .i64 0, .bool false, .int .i64 (s.work + 1 : Nat)] 50) * (G * Row 5 1 (.slice Ab c.b.length cb) c.b.length (U c.b) * X) * MapH bn L' * Row 56 4 (.slice A4 (s.wait.length + 1) c4) (s.wait.length + 1) (cs ++ [.int .i64 c.kind, .string (str c.name), .string (str c.dst), .slice Ab c.b.length cb]) from ?e)))
      case e =>
        show _ * Blk g (.cells #[.int .i64 s.room, .map (some bn), .map (some bs), .slice A4 (s.wait.length + 1) c4, .int .i64 0, .bool false, .int .i64 (s.work + 1 : Nat)] 50) = _
        ac_rfl
      clear H4 HB hsl H3 d3 e0 e1 e2 e3 f3
      go_wp2
      go_ret
      exact ⟨rfl, HE.out⟩
end
end Go.Proofs.YtgakacingdlgpaaSep
