/- Own work: the disk's Crash, by a walk. -/
import Derived.Test.YtgakacingdlgpaaDiskH
namespace Go.Proofs.YtgakacingdlgpaaSep
open Go.RowKit Go.Lib Go.Proofs Go.Shelf

theorem Cont.take {G : HP} {A : Option Addr} {c : List UInt8} {cap m : Nat} (h : Cont G (.slice A c.length cap) c) (hm : m ≤ c.length) : Cont G (.slice A m cap) (c.take m) := by
  intro W0 R w H
  have h2 := (h W0 R w H).take (m := m) hm
  rw [Nat.mul_one] at h2
  have e : (c.take m).length = m := by rw [List.length_take]; omega
  rw [e, U, List.map_take]
  exact h2
section
variable {W0 w : World} {R : HP} {g : Nat} {s : Dk}
set_option maxHeartbeats 8000000 in
set_option maxRecDepth 100000 in
theorem disk_Crash (H : Own W0 w (R * DskH g s)) (k t : Int) (hwl : s.wait.length ≤ 1000000) :
    Calls Try.prog 15 #[.pointer (some ⟨g, 0, none⟩), .int .i64 k, .int .i64 t] w fun e w' => e = .returned (.tuple #[]) ∧ Own W0 w' (R * DskH g (s.crash k t)) := by
  obtain ⟨G, bn, bs, L1, L2, vw, cs, h1, h2, h3, h4, h⟩ := H.dsk
  clear H h2
  unfold DskB at h
  simp only [← star_assoc] at h
  have n2 := cell_blk (j := 2) h.blk rfl
  have hC := Kp.mk (maps_clone (h.foc (MapH bs L2)))
  obtain ⟨_, Aw, cw, hvw, hnc, _⟩ := (h.foc (Row 56 4 vw s.wait.length cs)).sl (by decide)
  subst hvw
  clear h
  go_enter Try.func15, Try.ntmps15
  go_wp2_with fail
  refine hC.out.mono ?_
  rintro e w2 ⟨b1, rfl, H2⟩
  clear hC n2
  obtain ⟨Y, hY⟩ : ∃ Y, Kp (R * MapH bn L1 * MapH bs L2 = Y) := ⟨_, ⟨rfl⟩⟩
  have H2' : Own W0 w2 (Y * Row 56 4 (.slice Aw s.wait.length cw) s.wait.length cs * Blk g (.cells #[.int .i64 s.room, .map (some bn), .map (some bs), .slice Aw s.wait.length cw, .int .i64 0, .bool false, .int .i64 s.work] 50) * G * MapH b1 L2) := H2.eq (by rw [← hY.out]; ac_rfl)
  clear H2
  have n3 : w2.cell? ⟨g, 3, none⟩ = some (.slice Aw s.wait.length cw) := cell_blk (H2'.focB g).blk rfl
  replace H2' := Kp.mk H2'
  have hK : clampK k s.wait.length ≤ s.wait.length := Nat.min_le_right _ _
  obtain ⟨K, hKe⟩ : ∃ K, Kp (clampK k s.wait.length = K) := ⟨_, ⟨rfl⟩⟩
  rw [hKe.out] at hK
  go_upto_region 2 with fail
  go_cut [1] (fun v w' => v = .int .i64 (K : Nat) ∧ w' = w2)
  case first =>
    have h5 := hKe.out
    unfold clampK at h5
    obtain ⟨m, hm⟩ : ∃ m, s.wait.length = m := ⟨_, rfl⟩
    rw [hm] at h5 n3
    have hcase : (k ≤ 0 ∧ Kp ((K : Int) = 0)) ∨ (0 < k ∧ k ≤ (m : Int) ∧ Kp ((K : Int) = k)) ∨ ((m : Int) < k ∧ (0 : Int) < m ∧ Kp ((K : Int) = m)) ∨ ((m : Int) < k ∧ (m : Int) ≤ 0 ∧ Kp ((K : Int) = 0)) := by
      rcases (by omega : k ≤ 0 ∨ (0 < k ∧ k ≤ (m : Int)) ∨ (m : Int) < k ∧ 0 < m ∨ (m : Int) < k ∧ m = 0) with h6 | h6 | h6 | h6
      · exact .inl ⟨h6, ⟨by omega⟩⟩
      · exact .inr (.inl ⟨h6.1, h6.2, ⟨by omega⟩⟩)
      · exact .inr (.inr (.inl ⟨h6.1, by omega, ⟨by omega⟩⟩))
      · exact .inr (.inr (.inr ⟨h6.1, by omega, ⟨by omega⟩⟩))
    clear h5 hm hK h1 h3 h4 hKe hwl hnc hY H2'
    rcases hcase with ⟨h6, h7⟩ | ⟨h6, h6', h7⟩ | ⟨h6, h6', h7⟩ | ⟨h6, h6', h7⟩
    all_goals
      go_wp2
      go_meet
      exact ⟨by rw [h7.out], rfl⟩
  case rest =>
    obtain ⟨rfl, rfl⟩ := hcut
    obtain ⟨iu, hiu, _⟩ := Option.map_eq_some_iff.1 info_u8
    obtain ⟨i0, hi0, _⟩ := Option.map_eq_some_iff.1 info_chg
    replace hiu := Kp.mk hiu
    have hsl := run_take_l (P := Try.prog) (i := i0) Try.underlying48 hi0 Aw s.wait.length cw K hK hnc .i64
    clear hi0
    obtain ⟨Z, hZ⟩ : ∃ Z, Kp (Y * Row 56 4 (.slice Aw s.wait.length cw) s.wait.length cs * Blk g (.cells #[.int .i64 s.room, .map (some bn), .map (some bs), .slice Aw s.wait.length cw, .int .i64 0, .bool false, .int .i64 s.work] 50) = Z) := ⟨_, ⟨rfl⟩⟩
    rw [hZ.out] at H2'
    have h1 := Kp.mk h1
    go_wp2
    go_loopg [32] K (fun gk v wr => ∃ (i : Nat) (G' : HP) (L' : AL), v = .int .i64 i ∧ i ≤ K ∧ Kp (gk + i = K) ∧ Kp (WRel G' cs s.wait) ∧ Kp (FRel G' L' (nowF s.safe (s.wait.take i))) ∧ Kp (Own W0 wr (Z * G' * MapH b1 L')))
    case atStart => exact ⟨0, G, L2, rfl, Nat.zero_le _, ⟨by omega⟩, ⟨h4⟩, ⟨h3⟩, H2'⟩
    case round =>
      obtain ⟨i, G', L', rfl, hi, hgk, hW, hF, HO⟩ := hrel
      by_cases hlt : i < K
      · obtain ⟨c, hc⟩ : ∃ c, s.wait[i]? = some c := ⟨_, List.getElem?_eq_getElem (by omega)⟩
        obtain ⟨hk2, bv, e0, e1, e2, e3, hbv⟩ := hW.out.at_ i c hc
        have hOr : Own W0 wr (Z * G' * MapH b1 L') := HO.out
        rw [← hZ.out] at hOr
        obtain ⟨_, Ab, cb, hv, _⟩ := (hbv W0 _).sl (hOr.foc G')
        subst hv
        have hR := hOr.foc (Row 56 4 (.slice Aw s.wait.length cw) s.wait.length cs)
        obtain ⟨gw, cx, ea, _⟩ := hR.at0 (by omega)
        injection ea with ea eb ec
        subst ea ec
        clear eb
        have q0 := hR.cellRow (by decide) (by omega) _ _ e0
        have q1 := hR.cellRow (by decide) (by omega) _ _ e1
        have q2 := hR.cellRow (by decide) (by omega) _ _ e2
        have q3 := hR.cellRow (by decide) (by omega) _ _ e3
        have hnow := h1.out.tots i
        have hroom := h1.out.room
        have hpart := h1.out.parts c (List.mem_of_getElem? hc)
        have hle : ((getA (nowF s.safe (s.wait.take i)) c.name).getD []).length + c.b.length ≤ 1000000000 := by
          have : ((getA (nowF s.safe (s.wait.take i)) c.name).getD []).length ≤ tot (nowF s.safe (s.wait.take i)) := by
            cases he : getA (nowF s.safe (s.wait.take i)) c.name with
            | none => simp
            | some v => exact get_tot _ _ _ he
          omega
        have HA := (HO.out.alloc (.cells #[.int .i64 c.kind, .string (str c.name), .string (str c.dst), .slice Ab c.b.length cb] 56)).eq (show _ = Z * Blk wr.heap.size (.cells #[.int .i64 c.kind, .string (str c.name), .string (str c.dst), .slice Ab c.b.length cb] 56) * G' * MapH b1 L' by ac_rfl)
        have HD := Kp.mk (chg_do HA hF.out c (.slice Ab c.b.length cb) hbv hk2 hle)
        have hsnoc : Kp (c.act (nowF s.safe (s.wait.take i)) = nowF s.safe (s.wait.take (i + 1))) := ⟨by
          rw [List.take_add_one, hc]
          exact (nowF_snoc _ _ _).symm⟩
        clear HA hR hOr e0 e1 e2 e3 hnow hroom hpart hle hbv hF
        replace hc := Kp.mk hc
        go_wp2_with fail
        refine HD.out.mono ?_
        rintro e w3 ⟨rfl, X, L3, H3, hF3⟩
        rw [hsnoc.out] at hF3
        have H3 := Kp.mk ((H3.eq (show _ = Z * (G' * X) * MapH b1 L3 * Blk wr.heap.size (.cells #[.int .i64 c.kind, .string (str c.name), .string (str c.dst), .slice Ab c.b.length cb] 56) by ac_rfl)).drop)
        have hW3 : Kp (WRel (G' * X) cs s.wait) := ⟨hW.out.more⟩
        replace hF3 := Kp.mk hF3
        clear HD q0 q1 q2 q3 hsnoc hc hW
        go_wp2
        go_roundg (K - (i + 1))
        case rel => exact ⟨i + 1, G' * X, L3, by go_num, by omega, ⟨by omega⟩, hW3, hF3, H3⟩
        case measure => have := hgk.out; omega
      · obtain rfl : i = K := by omega
        clear hlt hgk
        have hOr : Own W0 wr (Z * G' * MapH b1 L') := HO.out
        rw [← hZ.out] at hOr
        have n3r : wr.cell? ⟨g, 3, none⟩ = some (.slice Aw s.wait.length cw) := cell_blk (hOr.focB g).blk rfl
        have hcr : crashF s k t = match s.wait[i]? with
          | none => nowF s.safe (s.wait.take i)
          | some c => if 0 < t ∧ c.kind = 0 then ({ c with b := c.b.take t.toNat } : Chg).act (nowF s.safe (s.wait.take i)) else nowF s.safe (s.wait.take i) := by
          unfold crashF
          rw [hKe.out]
          rfl
        have hTail : Kp (∀ wx G2 L3, FRel G2 L3 (crashF s k t) → Own W0 wx (Z * G2 * MapH b1 L3) → ∃ wc2, (∀ ty, (Builtin.clear_ #[48] ty #[.slice Aw s.wait.length cw]).run Try.prog wx = .ok (.tuple #[]) wc2) ∧ Own W0 wc2 (Y * Blk g (.cells #[.int .i64 s.room, .map (some bn), .map (some bs), .slice Aw s.wait.length cw, .int .i64 0, .bool false, .int .i64 s.work] 50) * G2 * MapH b1 L3)) := ⟨by
          intro wx G2 L3 _ hx
          rw [← hZ.out] at hx
          exact own_clear (hx.foc (Row 56 4 (.slice Aw s.wait.length cw) s.wait.length cs)) Try.underlying48 Try.zeroValue56 rfl (by decide) (by simp [Value.cells, Value.oneCell'])⟩
        have hFin : Kp (∀ wx G2 L3 b2, FRel G2 L3 (crashF s k t) → Own W0 wx (Y * Blk g (.cells #[.int .i64 s.room, .map (some b1), .map (some b2), .slice none 0 0, .int .i64 0, .bool false, .int .i64 s.work] 50) * G2 * MapH b1 L3 * MapH b2 L3) → Own W0 wx (R * DskH g (s.crash k t))) := ⟨by
          intro wx G2 L3 b2 hf hx
          rw [← hY.out] at hx
          have hx2 := (((hx.eq (show _ = R * Blk g (.cells #[.int .i64 s.room, .map (some b1), .map (some b2), .slice none 0 0, .int .i64 0, .bool false, .int .i64 s.work] 50) * G2 * MapH b1 L3 * MapH b2 L3 * MapH bn L1 * MapH bs L2 by ac_rfl)).drop).drop).nil 56 4
          refine Own.toDsk (s := s.crash k t) (G := G2) (bn := b1) (bs := b2) (L1 := L3) (L2 := L3) (vw := .slice none 0 0) (cs := []) (h1.out.crash k t) hf hf trivial (hx2.eq ?_)
          unfold DskB
          show _ = R * (G2 * MapH b1 L3 * MapH b2 L3 * Row 56 4 (.slice none 0 0) 0 [] * Blk g (.cells #[.int .i64 s.room, .map (some b1), .map (some b2), .slice none 0 0, .int .i64 0, .bool false, .int .i64 s.work] 50))
          simp only [← star_assoc]
          ac_rfl⟩
        have hcase : (i = s.wait.length) ∨ (i < s.wait.length ∧ t ≤ 0) ∨ (i < s.wait.length ∧ 0 < t) := by omega
        rcases hcase with h6 | ⟨h6, h7⟩ | ⟨h6, h7⟩
        case' inl =>
          have hF9 : Kp (FRel G' L' (crashF s k t)) := ⟨by
            rw [hcr, h6, List.getElem?_eq_none (Nat.le_refl _), ← h6]
            exact hF.out⟩
          have hT9 := Kp.mk (hTail.out wr G' L' hF9.out HO.out)
          have t1 : decide ((i : Int) < (s.wait.length : Int)) = false := decide_eq_false (by omega)
          have t1' : decide (i < s.wait.length) = false := decide_eq_false (by omega)
        case' inr.inl =>
          have hF9 : Kp (FRel G' L' (crashF s k t)) := ⟨by
            rw [hcr, List.getElem?_eq_getElem h6]
            dsimp only
            rw [if_neg (fun h => by omega)]
            exact hF.out⟩
          have t1 : decide ((i : Int) < (s.wait.length : Int)) = true := decide_eq_true (by omega)
          have t1' : decide (i < s.wait.length) = true := decide_eq_true (by omega)
          have hT9 := Kp.mk (hTail.out wr G' L' hF9.out HO.out)
          have t2 : decide ((0 : Int) < t) = false := decide_eq_false (by omega)
        case' inr.inr =>
          obtain ⟨c, hc⟩ : ∃ c, s.wait[i]? = some c := ⟨_, List.getElem?_eq_getElem h6⟩
          obtain ⟨hk2, bv, e0, e1, e2, e3, hbv⟩ := hW.out.at_ i c hc
          obtain ⟨_, Ab, cb, hv, hbc, _⟩ := (hbv W0 _).sl (hOr.foc G')
          subst hv
          have hR := hOr.foc (Row 56 4 (.slice Aw s.wait.length cw) s.wait.length cs)
          obtain ⟨gw, cx, ea, _⟩ := hR.at0 (by omega)
          injection ea with ea eb ec
          subst ea ec
          clear eb
          have q0 := hR.cellRow (by decide) (by omega) _ _ e0
          have q1 := hR.cellRow (by decide) (by omega) _ _ e1
          have q2 := hR.cellRow (by decide) (by omega) _ _ e2
          have q3 := hR.cellRow (by decide) (by omega) _ _ e3
          have hlu := h1.out.tots i
          have hroom := h1.out.room
          have hpart := h1.out.parts c (List.mem_of_getElem? hc)
          rw [hc] at hcr
          dsimp only at hcr
          have t1 : decide ((i : Int) < (s.wait.length : Int)) = true := decide_eq_true (by omega)
          have t1' : decide (i < s.wait.length) = true := decide_eq_true (by omega)
          have t2 : decide ((0 : Int) < t) = true := decide_eq_true h7
          clear hR e0 e1 e2 e3 hc
          obtain ⟨kd, nm, ds, bb⟩ := c
          dsimp only at hcr hk2 hbv hbc hpart q0 q1 q2 q3
          by_cases hk0 : kd = 0
          case' neg =>
            rw [if_neg (fun h => hk0 h.2)] at hcr
            have hF9 : Kp (FRel G' L' (crashF s k t)) := ⟨by rw [hcr]; exact hF.out⟩
            have hT9 := Kp.mk (hTail.out _ G' L' hF9.out (HO.out.box (.cells #[.int .i64 kd, .string (str nm), .string (str ds), .slice Ab bb.length cb] 56)))
            have n3r : (wr.alloc (.cells #[.int .i64 kd, .string (str nm), .string (str ds), .slice Ab bb.length cb] 56)).cell? ⟨g, 3, none⟩ = some (.slice (some ⟨gw, 0, none⟩) s.wait.length cw) := cell_blk ((hOr.box (.cells #[.int .i64 kd, .string (str nm), .string (str ds), .slice Ab bb.length cb] 56)).focB g).blk rfl
            have t3 : ((kd : Int) == 0) = false := by rw [beq_eq_false_iff_ne]; omega
            have t3' : (kd == 0) = false := by rw [beq_eq_false_iff_ne]; exact hk0
            clear hbv hlu hroom hpart hk2
          case' pos =>
            subst hk0
            rw [if_pos ⟨h7, rfl⟩] at hcr
            obtain ⟨m, hm, hmb⟩ : ∃ m, m = min t.toNat bb.length ∧ m ≤ bb.length := ⟨_, rfl, Nat.min_le_right _ _⟩
            have htk : bb.take t.toNat = bb.take m := by rw [hm, List.take_eq_take_iff]; omega
            have hcut := Cont.take hbv hmb
            have hml : (bb.take m).length = m := by rw [List.length_take]; omega
            have hls := run_take_l (P := Try.prog) (i := iu) Try.underlying28 hiu.out Ab bb.length cb m hmb hbc .i64
            have hle : ((getA (nowF s.safe (s.wait.take i)) nm).getD []).length + (bb.take m).length ≤ 1000000000 := by
              have : ((getA (nowF s.safe (s.wait.take i)) nm).getD []).length ≤ tot (nowF s.safe (s.wait.take i)) := by
                cases he : getA (nowF s.safe (s.wait.take i)) nm with
                | none => simp
                | some v => exact get_tot _ _ _ he
              omega
            rw [htk] at hcr
            have HD : Kp (∀ w9, Own W0 w9 (Z * G' * MapH b1 L') → Calls Try.prog 29 #[.agg #[.int .i64 0, .string (str nm), .string (str ds), .slice Ab m cb], .map (some b1)] w9 (DoEnd W0 Z b1 (crashF s k t) G')) := ⟨fun w9 h9 => by
              rw [hcr]
              exact chg_do h9 hF.out ⟨0, nm, ds, bb.take m⟩ (.slice Ab m cb) hcut (Nat.zero_le _) hle⟩
            have HA := Kp.mk (HD.out _ (HO.out.box (.cells #[.int .i64 0, .string (str nm), .string (str ds), .slice Ab m cb] 56)))
            have hmv : Kp ((m : Int) = t ∧ t ≤ (bb.length : Int) ∨ (m : Int) = (bb.length : Int) ∧ (bb.length : Int) < t) := ⟨by omega⟩
            clear HD hbv hlu hroom hpart hk2 hle hml hcut htk hm
            go_upto_region 11 with fail
            go_cut [] (fun w' => w' = wr.alloc (.cells #[.int .i64 0, .string (str nm), .string (str ds), .slice Ab m cb] 56))
            case first =>
              have hm2 := hmv.out
              clear HA hmv hTail hFin hF hcr hOr HO
              rcases hm2 with ⟨h8, h9⟩ | ⟨h8, h9⟩
              all_goals
                rw [h8] at hls
                replace h8 := Kp.mk h8
                go_wp2
                go_meet
                rfl
            case' rest =>
              subst hcut
              go_wp2_with fail
              refine HA.out.mono ?_
              rintro e w9 ⟨rfl, X, L9, H9, hF9⟩
              have n3r : w9.cell? ⟨g, 3, none⟩ = some (.slice (some ⟨gw, 0, none⟩) s.wait.length cw) := by
                have h9 := H9
                rw [← hZ.out] at h9
                exact cell_blk (h9.focB g).blk rfl
              have hT9 := Kp.mk (hTail.out _ _ _ hF9 H9)
              replace hF9 := Kp.mk hF9
              clear HA H9 hls
        all_goals
          obtain ⟨wc2, hcl, Hc⟩ := hT9.out
          have m1 := Kp.mk Hc
          clear hTail
          have hC2 := Kp.mk (maps_clone m1.out)
          clear Hc
          go_wp2_with fail
          refine hC2.out.mono ?_
          rintro e w5 ⟨b2, rfl, H5⟩
          clear hC2 m1
          have k1 : w5.cell? ⟨g, 1, none⟩ = some (.map (some bn)) := cell_blk (H5.focB g).blk rfl
          have k2 : w5.cell? ⟨g, 2, none⟩ = some (.map (some bs)) := cell_blk (H5.focB g).blk rfl
          have k3 := cell_blk (w := w5) (j := 3) (H5.focB g).blk rfl
          have k4 : w5.cell? ⟨g, 4, none⟩ = some (.int .i64 0) := cell_blk (H5.focB g).blk rfl
          have k5 : w5.cell? ⟨g, 5, none⟩ = some (.bool false) := cell_blk (H5.focB g).blk rfl
          have f1 : w5.frozen? ⟨g, 1, none⟩ = false := frz_blk (H5.focB g).blk
          have f2 : w5.frozen? ⟨g, 2, none⟩ = false := frz_blk (H5.focB g).blk
          have f3 : w5.frozen? ⟨g, 3, none⟩ = false := frz_blk (H5.focB g).blk
          have f4 : w5.frozen? ⟨g, 4, none⟩ = false := frz_blk (H5.focB g).blk
          have f5 : w5.frozen? ⟨g, 5, none⟩ = false := frz_blk (H5.focB g).blk
          have HE := Kp.mk (hFin.out _ _ _ b2 hF9.out ((((((((H5.focB g).set 1 (.map (some b1))).set 2 (.map (some b2))).set 3 (.slice none 0 0)).set 5 (.bool false)).set 4 (.int .i64 0))).eq (by
            show _ * Blk g (.cells #[.int .i64 s.room, .map (some b1), .map (some b2), .slice none 0 0, .int .i64 0, .bool false, .int .i64 s.work] 50) = _
            ac_rfl)))
          clear H5 hFin
          go_wp2
          go_end0
          exact ⟨rfl, HE.out⟩
end
end Go.Proofs.YtgakacingdlgpaaSep
