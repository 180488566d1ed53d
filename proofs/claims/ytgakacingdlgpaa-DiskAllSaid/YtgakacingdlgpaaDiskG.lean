/- Own work: the disk's Move, Drop, Sync, Read. -/
import Derived.Test.YtgakacingdlgpaaDiskF
namespace Go.Proofs.YtgakacingdlgpaaSep
open Go.RowKit Go.Lib Go.Proofs Go.Shelf

theorem del_tot_eq : ∀ (F : FL) (x : List UInt8), tot (delA F x) + ((getA F x).getD []).length = tot F
  | [], _ => rfl
  | p :: F, x => by
    rw [delA, getA]
    split
    · simp only [tot_cons, Option.getD_some]; omega
    · have := del_tot_eq F x
      simp only [tot_cons]; omega
theorem act_move_tot {n t : List UInt8} (b : List UInt8) (F : FL) (h : n ≠ t) : tot ((⟨1, n, t, b⟩ : Chg).act F) ≤ tot F := by
  show tot (delA (setA F t ((getA F n).getD [])) n) ≤ _
  have h1 := set_tot F t ((getA F n).getD [])
  have h2 := del_tot_eq (setA F t ((getA F n).getD [])) n
  rw [getA_set, if_neg (fun e => h e.symm)] at h2
  omega
theorem act_drop_tot (n d b : List UInt8) (F : FL) : tot ((⟨2, n, d, b⟩ : Chg).act F) ≤ tot F := del_tot F n
def Dk.up (s : Dk) : Dk := { s with work := s.work + 1 }
def Dk.mv (s : Dk) (n t : List UInt8) : Dk := if namedF n && namedF t && (getA s.now n).isSome then if n = t then s.up else s.take ⟨1, n, t, []⟩ else s
def mvE (s : Dk) (n t : List UInt8) : Int := if namedF n && namedF t then if (getA s.now n).isSome then 0 else 4 else 1
def Dk.dr (s : Dk) (n : List UInt8) : Dk := if namedF n && (getA s.now n).isSome then s.take ⟨2, n, [], []⟩ else s
def drE (s : Dk) (n : List UInt8) : Int := if namedF n then if (getA s.now n).isSome then 0 else 4 else 1
def Dk.sync (s : Dk) : Dk := ⟨s.room, s.now, [], s.work + 1⟩
def rdC (s : Dk) (n : List UInt8) : List UInt8 := if namedF n then (getA s.now n).getD [] else []
section
variable {W0 w : World} {R : HP} {g : Nat} {s : Dk}
theorem dsk_step (H : Own W0 w (R * DskH g s)) (hk : s.work ≤ 1000000) :
    Calls Try.prog 27 #[.pointer (some ⟨g, 0, none⟩)] w fun e w' => e = .returned (.int .i64 0) ∧ Own W0 w' (R * DskH g s.up) := by
  obtain ⟨G, bn, bs, L1, L2, vw, cs, h1, h2, h3, h4, h⟩ := H.dsk
  unfold DskB at h
  simp only [← star_assoc] at h
  refine (disk_step h (by omega)).mono ?_
  rintro e w' ⟨he, hw⟩
  refine ⟨he, Own.toDsk (s := s.up) (bn := bn) (bs := bs) (vw := vw) ⟨h1.room, h1.keys, h1.tots, h1.parts⟩ h2 h3 h4 (hw.eq ?_)⟩
  unfold DskB
  simp only [← star_assoc]
  rfl
set_option maxHeartbeats 4000000 in
theorem disk_Move {n t : List UInt8} (H : Own W0 w (R * DskH g s)) (hw : s.work ≤ 1000000) (hwl : s.wait.length ≤ 1000000) :
    Calls Try.prog 14 #[.pointer (some ⟨g, 0, none⟩), .string (str n), .string (str t)] w fun e w' => e = .returned (.int .i64 (mvE s n t)) ∧ Own W0 w' (R * DskH g (s.mv n t)) := by
  obtain ⟨B, hB⟩ : ∃ B, Kp (w.heap.size = B) := ⟨_, ⟨rfl⟩⟩
  have hask := disk_ask (R := R * Blk B (.cells #[.string (str n), .string (str t)] 9)) (w := w.alloc (.cells #[.string (str n), .string (str t)] 9)) (g := g) (s := s) (v := .slice (some ⟨B, 0, none⟩) 2 2) (ns := [n, t]) (by rw [← hB.out]; exact (H.alloc _).rot) ((held_blk (sz := 1) (by decide) rfl (by decide)).swap) (by simp)
  have hask := Kp.mk hask
  have hnow : tot s.now ≤ s.room := by
    obtain ⟨G, bn, bs, L1, L2, vw, cs, h1, _⟩ := H.dsk
    exact h1.now
  replace hnow := Kp.mk hnow
  clear H
  go_enter Try.func14, Try.ntmps14
  go_wp2_with fail
  rw [hB.out]
  refine hask.out.mono ?_
  rintro e w2 ⟨rfl, H2⟩
  clear hask
  replace H2 := H2.rot.drop
  rcases hn : namedF n && namedF t with _ | _
  · rw [show askE [n, t] = 1 by simp [askE, hn]]
    have hE : Kp (mvE s n t = 1) := ⟨by rw [mvE, hn]; rfl⟩
    have hS : Kp (s.mv n t = s) := ⟨by rw [Dk.mv, hn]; rfl⟩
    replace H2 := Kp.mk H2
    clear hn
    go_wp2
    go_ret
    rw [hE.out, hS.out]
    exact ⟨rfl, H2.out⟩
  · rw [show askE [n, t] = 0 by simp [askE, hn]]
    obtain ⟨bn, vl, c1, ⟨Al, kl, cl, rfl⟩, hlook, _, _⟩ := H2.dskLook n
    have HU := Kp.mk (dsk_step H2 hw)
    have HN := Kp.mk (H2.nil 5 1)
    replace H2 := Kp.mk H2
    rcases hq : (getA s.now n).isSome with _ | _
    · have hE : Kp (mvE s n t = 4) := ⟨by rw [mvE, hn, hq]; rfl⟩
      have hS : Kp (s.mv n t = s) := ⟨by rw [Dk.mv, hn, hq]; rfl⟩
      rw [hq] at hlook
      clear hq hn HU HN
      go_wp2
      go_ret
      rw [hE.out, hS.out]
      exact ⟨rfl, H2.out⟩
    · have hE : Kp (mvE s n t = 0) := ⟨by rw [mvE, hn, hq]; rfl⟩
      rw [hq] at hlook
      have hln : (str n).toList = n := ByteArray.toList_mk n
      have hlt : (str t).toList = t := ByteArray.toList_mk t
      by_cases hnt : n = t
      · have hS : Kp (s.mv n t = s.up) := ⟨by rw [Dk.mv, hn, hq, if_pos (by rfl), if_pos hnt]⟩
        subst hnt
        clear hq hn HN
        go_wp2_with fail
        refine HU.out.mono ?_
        rintro e w3 ⟨rfl, H3⟩
        replace H3 := Kp.mk H3
        clear HU
        go_wp2
        go_ret
        rw [hE.out, hS.out]
        exact ⟨rfl, H3.out⟩
      · have hS : Kp (s.mv n t = s.take ⟨1, n, t, []⟩) := ⟨by rw [Dk.mv, hn, hq, if_pos (by rfl), if_neg hnt]⟩
        have hT := Kp.mk (disk_take (c := ⟨1, n, t, []⟩) HN.out (Nat.le_succ 1) (Nat.le_trans (act_move_tot _ _ hnt) hnow.out) (Nat.zero_le _) hw hwl)
        have t0 : (n == t) = false := by simpa using hnt
        clear hq hn HN HU hnt
        go_wp2_with fail
        refine hT.out.mono ?_
        rintro e w5 ⟨rfl, H5⟩
        replace H5 := Kp.mk H5
        clear hT
        go_wp2
        go_ret
        rw [hE.out, hS.out]
        exact ⟨rfl, H5.out⟩
set_option maxHeartbeats 4000000 in
theorem disk_Drop {n : List UInt8} (H : Own W0 w (R * DskH g s)) (hw : s.work ≤ 1000000) (hwl : s.wait.length ≤ 1000000) :
    Calls Try.prog 17 #[.pointer (some ⟨g, 0, none⟩), .string (str n)] w fun e w' => e = .returned (.int .i64 (drE s n)) ∧ Own W0 w' (R * DskH g (s.dr n)) := by
  obtain ⟨B, hB⟩ : ∃ B, Kp (w.heap.size = B) := ⟨_, ⟨rfl⟩⟩
  have hask := disk_ask (R := R * Blk B (.cells #[.string (str n)] 9)) (w := w.alloc (.cells #[.string (str n)] 9)) (g := g) (s := s) (v := .slice (some ⟨B, 0, none⟩) 1 1) (ns := [n]) (by rw [← hB.out]; exact (H.alloc _).rot) ((held_blk (sz := 1) (by decide) rfl (by decide)).swap) (by simp)
  have hask := Kp.mk hask
  have hnow : tot s.now ≤ s.room := by
    obtain ⟨G, bn, bs, L1, L2, vw, cs, h1, _⟩ := H.dsk
    exact h1.now
  replace hnow := Kp.mk hnow
  clear H
  go_enter Try.func17, Try.ntmps17
  go_wp2_with fail
  rw [hB.out]
  refine hask.out.mono ?_
  rintro e w2 ⟨rfl, H2⟩
  clear hask
  replace H2 := H2.rot.drop
  rcases hn : namedF n with _ | _
  · rw [show askE [n] = 1 by simp [askE, hn]]
    have hE : Kp (drE s n = 1) := ⟨by simp [drE, hn]⟩
    have hS : Kp (s.dr n = s) := ⟨by simp [Dk.dr, hn]⟩
    replace H2 := Kp.mk H2
    clear hn
    go_wp2
    go_ret
    rw [hE.out, hS.out]
    exact ⟨rfl, H2.out⟩
  · rw [show askE [n] = 0 by simp [askE, hn]]
    obtain ⟨bn, vl, c1, ⟨Al, kl, cl, rfl⟩, hlook, _, _⟩ := H2.dskLook n
    have HN := Kp.mk (H2.nil 5 1)
    replace H2 := Kp.mk H2
    rcases hq : (getA s.now n).isSome with _ | _
    · have hE : Kp (drE s n = 4) := ⟨by simp [drE, hn, hq]⟩
      have hS : Kp (s.dr n = s) := ⟨by simp [Dk.dr, hn, hq]⟩
      rw [hq] at hlook
      clear hq hn HN
      go_wp2
      go_ret
      rw [hE.out, hS.out]
      exact ⟨rfl, H2.out⟩
    · have hE : Kp (drE s n = 0) := ⟨by simp [drE, hn, hq]⟩
      rw [hq] at hlook
      have hS : Kp (s.dr n = s.take ⟨2, n, [], []⟩) := ⟨by simp [Dk.dr, hn, hq]⟩
      have hT := Kp.mk (disk_take (c := ⟨2, n, [], []⟩) HN.out (Nat.le_refl 2) (Nat.le_trans (act_drop_tot ..) hnow.out) (Nat.zero_le _) hw hwl)
      clear hq hn HN
      go_wp2_with fail
      refine hT.out.mono ?_
      rintro e w5 ⟨rfl, H5⟩
      replace H5 := Kp.mk H5
      clear hT
      go_wp2
      go_ret
      rw [hE.out, hS.out]
      exact ⟨rfl, H5.out⟩
set_option maxHeartbeats 4000000 in
theorem disk_Sync (H : Own W0 w (R * DskH g s)) (hw : s.work ≤ 1000000) :
    Calls Try.prog 13 #[.pointer (some ⟨g, 0, none⟩)] w fun e w' => e = .returned (.int .i64 0) ∧ Own W0 w' (R * DskH g s.sync) := by
  have hask := Kp.mk (disk_ask (ns := []) H held_nil (Nat.zero_le _))
  clear H
  go_enter Try.func13, Try.ntmps13
  go_wp2_with fail
  refine hask.out.mono ?_
  rintro e w2 ⟨rfl, H2⟩
  clear hask
  rw [show askE [] = 0 from rfl]
  have hst := Kp.mk (dsk_step H2 hw)
  clear H2
  go_wp2_with fail
  refine hst.out.mono ?_
  rintro e w3 ⟨rfl, H3⟩
  clear hst
  obtain ⟨G, bn, bs, L1, L2, vw, cs, h1, h2, h3, h4, h⟩ := H3.dsk
  clear H3
  unfold DskB at h
  simp only [← star_assoc] at h
  have n1 := cell_blk (j := 1) h.blk rfl
  have hC := Kp.mk (maps_clone (h.foc (MapH bn L1)))
  obtain ⟨_, Aw, cw, hvw, _⟩ := (h.foc (Row 56 4 vw s.up.wait.length cs)).sl (by decide)
  subst hvw
  have hfin : Kp (∀ wx b', Own W0 wx (R * G * MapH bs L2 * Row 56 4 (.slice Aw s.up.wait.length cw) s.up.wait.length cs * Blk g (.cells #[.int .i64 s.up.room, .map (some bn), .map (some b'), .slice none 0 0, .int .i64 0, .bool false, .int .i64 s.up.work] 50) * MapH bn L1 * MapH b' L1) → Own W0 wx (R * DskH g s.sync)) := ⟨by
    intro wx b' hx
    have hx2 := ((hx.foc (Row 56 4 (.slice Aw s.up.wait.length cw) s.up.wait.length cs)).drop.foc (MapH bs L2)).drop.nil 56 4
    refine Own.toDsk (s := s.sync) (G := G) (bn := bn) (bs := b') (L1 := L1) (L2 := L1) (vw := .slice none 0 0) (cs := []) ⟨h1.room, nowF_keys _ _ h1.keys, fun k => ?_, fun _ hm => absurd hm (List.not_mem_nil)⟩ h2 h2 trivial (hx2.eq ?_)
    · show tot (nowF s.now (([] : List Chg).take k)) ≤ s.room
      rw [List.take_nil]
      exact h1.now
    · unfold DskB
      show _ = R * (G * MapH bn L1 * MapH b' L1 * Row 56 4 (.slice none 0 0) 0 [] * Blk g (.cells #[.int .i64 s.up.room, .map (some bn), .map (some b'), .slice none 0 0, .int .i64 0, .bool false, .int .i64 s.up.work] 50))
      simp only [← star_assoc]
      ac_rfl⟩
  clear h h1 h2 h3 h4
  go_wp2_with fail
  refine hC.out.mono ?_
  rintro e w4 ⟨b', rfl, H4⟩
  clear hC
  have k2 : w4.cell? ⟨g, 2, none⟩ = some (.map (some bs)) := cell_blk (H4.focB g).blk rfl
  have k3 : w4.cell? ⟨g, 3, none⟩ = some (.slice Aw s.up.wait.length cw) := cell_blk (H4.focB g).blk rfl
  have f2 : w4.frozen? ⟨g, 2, none⟩ = false := frz_blk (H4.focB g).blk
  have f3 : w4.frozen? ⟨g, 3, none⟩ = false := frz_blk (H4.focB g).blk
  have HE := (((H4.focB g).set 2 (.map (some b'))).set 3 (.slice none 0 0))
  have HE := Kp.mk (hfin.out _ b' (HE.eq (by
    show _ * Blk g (.cells #[.int .i64 s.up.room, .map (some bn), .map (some b'), .slice none 0 0, .int .i64 0, .bool false, .int .i64 s.up.work] 50) = _
    ac_rfl)))
  clear H4 hfin
  go_wp2
  go_ret
  exact ⟨rfl, HE.out⟩
set_option maxHeartbeats 4000000 in
theorem disk_Read {n : List UInt8} (H : Own W0 w (R * DskH g s)) :
    Calls Try.prog 16 #[.pointer (some ⟨g, 0, none⟩), .string (str n)] w fun e w' => ∃ v, e = .returned (.tuple #[v, .int .i64 (drE s n)]) ∧ Own W0 w' (R * DskH g s * Row 5 1 v (rdC s n).length (U (rdC s n))) := by
  obtain ⟨B, hB⟩ : ∃ B, Kp (w.heap.size = B) := ⟨_, ⟨rfl⟩⟩
  have hask := disk_ask (R := R * Blk B (.cells #[.string (str n)] 9)) (w := w.alloc (.cells #[.string (str n)] 9)) (g := g) (s := s) (v := .slice (some ⟨B, 0, none⟩) 1 1) (ns := [n]) (by rw [← hB.out]; exact (H.alloc _).rot) ((held_blk (sz := 1) (by decide) rfl (by decide)).swap) (by simp)
  have hask := Kp.mk hask
  clear H
  go_enter Try.func16, Try.ntmps16
  go_wp2_with fail
  rw [hB.out]
  refine hask.out.mono ?_
  rintro e w2 ⟨rfl, H2⟩
  clear hask
  replace H2 := H2.rot.drop
  rcases hn : namedF n with _ | _
  · rw [show askE [n] = 1 by simp [askE, hn]]
    have hE : Kp (drE s n = 1) := ⟨by simp [drE, hn]⟩
    have hS : Kp (rdC s n = []) := ⟨by simp [rdC, hn]⟩
    replace H2 := Kp.mk (H2.nil 5 1)
    clear hn
    go_wp2
    go_ret2
    rw [hE.out, hS.out]
    exact ⟨_, rfl, H2.out⟩
  · rw [show askE [n] = 0 by simp [askE, hn]]
    obtain ⟨G, bn, bs, L1, L2, vw, cs, h1, h2, h3, h4, h⟩ := H2.dsk
    have hS : Kp (rdC s n = (getA s.now n).getD []) := ⟨by simp [rdC, hn]⟩
    have HN := Kp.mk (H2.nil 5 1)
    have hlen : ((getA s.now n).getD []).length ≤ 1000000000 := by
      have h5 := h1.now
      have h6 := h1.room
      cases he : getA s.now n with
      | none => simp
      | some v =>
        have := get_tot _ _ _ he
        simp only [Option.getD_some]
        omega
    unfold DskB at h
    simp only [← star_assoc] at h
    have c1 := cell_blk (j := 1) h.blk rfl
    have hl := (h.foc (MapH bn L1)).look Try.underlying47 Try.underlying9 (zero_sl _) n true
    rw [if_pos rfl] at hl
    have hback : Kp (∀ wx v c, Own W0 wx (R * MapH bn L1 * MapH bs L2 * Row 56 4 vw s.wait.length cs * Blk g (.cells #[.int .i64 s.room, .map (some bn), .map (some bs), vw, .int .i64 0, .bool false, .int .i64 s.work] 50) * G * Row 5 1 v c (U (rdC s n))) → Own W0 wx (R * DskH g s * Row 5 1 v c (U (rdC s n)))) := ⟨by
      intro wx v c hx
      refine Own.rot (Own.toDsk h1 h2 h3 h4 (G := G) (bn := bn) (bs := bs) (L1 := L1) (L2 := L2) (vw := vw) (cs := cs) (hx.eq ?_))
      unfold DskB
      simp only [← star_assoc]
      ac_rfl⟩
    have hE : drE s n = if (getA s.now n).isSome then 0 else 4 := by rw [drE, hn, if_pos rfl]
    have hH := h.foc G
    rcases h2.get n with ⟨e1, e2⟩ | ⟨v, c, e1, e2, e3⟩
    · rw [e1] at hl
      rw [e2] at hE
      have hS2 : Kp (rdC s n = []) := ⟨by rw [hS.out, e2]; rfl⟩
      have hE2 : Kp (drE s n = 4) := ⟨hE⟩
      clear e1 e2 hE hback hS hH h h1 h2 h3 h4 hn hlen
      go_wp2
      go_ret2
      rw [hE2.out, hS2.out]
      exact ⟨_, rfl, HN.out⟩
    · rw [e1] at hl
      rw [e2] at hE hlen
      have hS2 : Kp (rdC s n = c) := ⟨by rw [hS.out, e2]; rfl⟩
      have hE2 : Kp (drE s n = 0) := ⟨hE⟩
      obtain ⟨_, Av, cv, hv, _⟩ := (e3 W0 _).sl hH
      subst hv
      have hC := Kp.mk (clone_bytes (e3 W0 _) hH hlen)
      rw [hS2.out] at hback
      clear e1 e2 e3 hE hS hH h h1 h2 h3 h4 hn hlen HN
      go_wp2_with fail
      refine hC.out.mono ?_
      rintro e w4 ⟨v4, rfl, H4⟩
      clear hC
      have HE := Kp.mk (hback.out _ _ _ H4)
      clear H4 hback
      go_wp2
      go_ret2
      rw [hE2.out, hS2.out]
      exact ⟨_, rfl, HE.out⟩
end
end Go.Proofs.YtgakacingdlgpaaSep
