/- Own work: the head of open's laws, by a walk. -/
import Derived.Test.YtbijlkbfndkdcaaDoorOpF
namespace Go.Proofs.YtbijlkbfndkdcaaDoorSep
open Go.RowKit Go.Lib Go.Proofs
set_option maxHeartbeats 1000000 in
theorem law_head {W0 w : World} {R : HP} {u : Value} (hU : Usual W0 R u) (H : Own W0 w R) :
    Calls Tryd.prog 7 #[] w fun e w' => e = .returned (.bool true) ∧ Own W0 w' R := by
  have HA := H.alloc (.cells #[.string (str nHtml), .int .i64 0, .string (str nP), .int .i64 0, .string (str nTable), .int .i64 0] 25)
  have HM := law_made (L := headL) (held_blk (sz := 2) (m := 3) (by decide) rfl (by decide)) (by decide) HA
  have HM2 : Calls Tryd.prog 9 #[.slice (some ⟨w.heap.size, 0, none⟩) 3 3] (w.alloc (.cells #[.string ⟨#[104, 116, 109, 108]⟩, .int .i64 0, .string ⟨#[112]⟩, .int .i64 0, .string ⟨#[116, 97, 98, 108, 101]⟩, .int .i64 0] 25)) _ := HM
  replace HM2 := Kp.mk HM2
  clear HM HA H
  go_enter Tryd.func7, Tryd.ntmps7
  go_wp2_with fail
  refine HM2.out.mono ?_
  rintro e w1 ⟨s, d, X, rfl, ⟨A, c, A2, c2, hX⟩, H1⟩
  have H2 := H1.alloc (.cells #[.string (str nP)] 9)
  obtain ⟨w2, hw2⟩ : ∃ w2, Kp (w1.alloc (.cells #[.string (str nP)] 9) = w2) := ⟨_, ⟨rfl⟩⟩
  have HP : Sl w2 (.slice (some ⟨w1.heap.size, 0, none⟩) 1 1) 1 1 (SV [nP]) := by rw [← hw2.out]; exact sl_box w1 #[.string (str nP)] 9 1 1 rfl (by decide)
  rw [hw2.out] at H2
  replace H2 := H2.drop
  subst hX
  have hl : headL.length = 3 := rfl
  rw [hl] at H2
  have k0 : w2.cell? ⟨s, 0, none⟩ = some (.pointer (some ⟨d, 0, none⟩)) := cell_blk H2.blk rfl
  have HI : Own W0 w2 (R * Blk w.heap.size (.cells #[.string (str nHtml), .int .i64 0, .string (str nP), .int .i64 0, .string (str nTable), .int .i64 0] 25) * Row 65 10 (.slice A (madeF headL).1.length c) (madeF headL).1.length (nodesC (madeF headL).1) * Blk d (docO (.slice A (madeF headL).1.length c)) * Row 3 1 (.slice A2 3 c2) 3 (IV (madeF headL).2)) := H2.drop
  obtain ⟨g, cap, cur, hv, h1, h2, h3, h4, HB⟩ := HI.openN (by decide)
  injection hv with e1 e2 e3
  subst e1 e3
  have k1 : w2.cell? ⟨s, 1, none⟩ = some (.slice (some ⟨g, 0, none⟩) 3 c2) := cell_blk H2.blk rfl
  have k3 : w2.cell? ⟨g, 2, none⟩ = some (.int .i64 3) := cell_blk HB.blk (take_cell h4 (by decide) (by rw [headL_made]; rfl))
  have hD : DocR w2 d (madeF headL).1 := HI.drop.docR (by rw [headL_made]; decide)
  have HE := HI.drop.drop.drop.drop
  obtain ⟨hc, HN⟩ := hU _ HE
  have HS := scope_head hD rfl k0 k1 k3 hc HN HP
  rw [← hw2.out] at HS HE
  have HS2 : Calls Tryd.prog 27 #[.pointer (some ⟨s, 0, none⟩), .int .i64 0, .slice (some ⟨w1.heap.size, 0, none⟩) 1 1] (w1.alloc (.cells #[.string ⟨#[112]⟩] 9)) fun e w' => e = .returned (.bool false) ∧ w' = w1.alloc (.cells #[.string ⟨#[112]⟩] 9) := HS
  replace HS2 := Kp.mk HS2
  replace HE := Kp.mk HE
  clear HM2 hw2 HP H1 H2 k0 HI HB h1 h2 h3 h4 k1 k3 hD hc HN HS
  go_wp2_with fail
  refine HS2.out.mono ?_
  rintro e w3 ⟨rfl, rfl⟩
  go_wp2
  go_ret
  exact ⟨rfl, HE.out⟩
end Go.Proofs.YtbijlkbfndkdcaaDoorSep
