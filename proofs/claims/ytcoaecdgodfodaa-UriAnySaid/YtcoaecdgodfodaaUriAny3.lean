/- Own work: the law UriAny, by walks: no path. -/
import Derived.Test.YtcoaecdgodfodaaUriR
import Derived.Test.YtcoaecdgodfodaaUriS
import Derived.Test.YtcoaecdgodfodaaUriH
import Derived.Test.YtcoaecdgodfodaaUriDir
import Derived.Test.YtcoaecdgodfodaaQuiet
import Derived.Test.YtcoaecdgodfodaaMore
namespace Go.Proofs.YtcoaecdgodfodaaSep
open Go.RowKit Go.Lib Go.Proofs

set_option maxRecDepth 100000 in
set_option maxHeartbeats 4000000 in
theorem uriAny_empty_true (l m : List UInt8) (w : World) (hl : l.length ≤ 200) (hm : m.length ≤ 200) (sc au pa qu fr sc2 au2 pa2 qu2 fr2 : List UInt8) (bs ba bq bf bf2 : Bool)
    (hb : parseF l = ⟨sc, au, pa, qu, fr, bs, ba, bq, bf⟩) (hr : parseF m = ⟨sc2, au2, pa2, qu2, fr2, false, false, true, bf2⟩) (hb1 : pa.length ≤ 200) (hr1 : pa2.length ≤ 200) (hp : pa2 = []) :
    Calls Try.prog 4 #[.string (str l), .string (str m)] w fun e w' => e = .returned (.bool true) ∧ Below w.heap.size w w' := by
  have HH := Kp.mk (law_head (own_start w))
  have hsl : (str l).size = l.length := str_size l
  have hsm : (str m).size = m.length := str_size m
  have t1 : decide ((200 : Int) < (l.length : Int)) = false := decide_eq_false (by omega)
  have t2 : decide ((200 : Int) < (m.length : Int)) = false := decide_eq_false (by omega)
  have t1' : decide (200 < l.length) = false := decide_eq_false (by omega)
  have t2' : decide (200 < m.length) = false := decide_eq_false (by omega)
  have hpl : (str pa2).toList = pa2 := str_toList pa2
  have hpe : pa2.isEmpty = true := by rw [hp]; rfl
  have hres : Kp (resolveF ⟨sc, au, pa, qu, fr, bs, ba, bq, bf⟩ ⟨sc2, au2, pa2, qu2, fr2, false, false, true, bf2⟩ = ⟨sc, au, pa, qu2, fr2, bs, ba, true, bf2⟩) := ⟨by rw [resolveF]; simp [hp]⟩
  clear hp
  go_enter Try.func4, Try.ntmps4
  go_wp2_with fail
  refine HH.out.mono ?_
  rintro e w1 ⟨rfl, H1⟩
  have HP := uri_Parse H1 (str l) (by omega)
  rw [str_data, hb] at HP
  have HP := Kp.mk HP
  clear HH H1
  go_wp2_with fail
  refine HP.out.mono ?_
  rintro e w2 ⟨rfl, H2⟩
  unfold refV
  dsimp only
  clear HP
  have H3 := Kp.mk (H2.alloc (refO [] [] [] [] [] false false false false))
  unfold refO at H3
  go_wp2_with (refine own_store_row w2.heap.size #[.string (str sc), .string (str au), .string (str pa), .string (str qu), .string (str fr), .bool bs, .bool ba, .bool bq, .bool bf] H3.out rfl 28 (.tmp 5) (.tmp 25) rfl rfl rfl (by kernel_rfl) (by rfl) (by simp [Value.oneCell']) ?_)
  intro w3 H4
  clear H3 H2
  generalize w2.heap.size = g1 at H4 ⊢
  have HP := uri_Parse H4 (str m) (by omega)
  rw [str_data, hr] at HP
  have HP := Kp.mk HP
  clear H4
  go_wp2_with fail
  refine HP.out.mono ?_
  rintro e w4 ⟨rfl, H2⟩
  unfold refV
  dsimp only
  clear HP
  have H3 := Kp.mk (H2.alloc (refO [] [] [] [] [] false false false false))
  unfold refO at H3
  go_wp2_with (refine own_store_row w4.heap.size #[.string (str sc2), .string (str au2), .string (str pa2), .string (str qu2), .string (str fr2), .bool false, .bool false, .bool true, .bool bf2] H3.out rfl 28 (.tmp 6) (.tmp 27) rfl rfl rfl (by kernel_rfl) (by rfl) (by simp [Value.oneCell']) ?_)
  intro w5 H4
  clear H3 H2
  generalize w4.heap.size = g2 at H4 ⊢
  have HR := uri_Resolve H4 ⟨sc, au, pa, qu, fr, bs, ba, bq, bf⟩ ⟨sc2, au2, pa2, qu2, fr2, false, false, true, bf2⟩ (by simp only; omega) (by simp only; omega)
  unfold ResEnd at HR
  rw [hres.out] at HR
  unfold refV at HR
  dsimp only at HR
  have HR := Kp.mk HR
  have H4 := Kp.mk H4
  go_wp2_with (first | (refine own_load_row g1 H4.out rfl 28 (.tmp 5) rfl rfl _ Try.underlying28 rfl (by rfl) ?_) | (refine own_load_row g2 H4.out rfl 28 (.tmp 6) rfl rfl _ Try.underlying28 rfl (by rfl) ?_))
  refine HR.out.mono ?_
  rintro e w6 ⟨rfl, H5⟩
  clear HR H4
  have H6 := Kp.mk (H5.alloc (refO [] [] [] [] [] false false false false))
  unfold refO at H6
  go_wp2_with (refine own_store_row w6.heap.size #[.string (str sc), .string (str au), .string (str pa), .string (str qu2), .string (str fr2), .bool bs, .bool ba, .bool true, .bool bf2] H6.out rfl 28 (.tmp 7) (.tmp 30) rfl rfl rfl (by kernel_rfl) (by rfl) (by simp [Value.oneCell']) ?_)
  intro w7 H7
  clear H6 H5
  generalize w6.heap.size = g3 at H7 ⊢
  have x0_w7 := cell_blk (w := w7) (g := g1) (j := 0) (v := .string (str sc)) (H7.focB g1).blk rfl
  have x1_w7 := cell_blk (w := w7) (g := g1) (j := 1) (v := .string (str au)) (H7.focB g1).blk rfl
  have x2_w7 := cell_blk (w := w7) (g := g1) (j := 2) (v := .string (str pa)) (H7.focB g1).blk rfl
  have x3_w7 := cell_blk (w := w7) (g := g1) (j := 3) (v := .string (str qu)) (H7.focB g1).blk rfl
  have x4_w7 := cell_blk (w := w7) (g := g1) (j := 4) (v := .string (str fr)) (H7.focB g1).blk rfl
  have x5_w7 := cell_blk (w := w7) (g := g1) (j := 5) (v := .bool bs) (H7.focB g1).blk rfl
  have x6_w7 := cell_blk (w := w7) (g := g1) (j := 6) (v := .bool ba) (H7.focB g1).blk rfl
  have x7_w7 := cell_blk (w := w7) (g := g1) (j := 7) (v := .bool bq) (H7.focB g1).blk rfl
  have x8_w7 := cell_blk (w := w7) (g := g1) (j := 8) (v := .bool bf) (H7.focB g1).blk rfl
  have y0_w7 := cell_blk (w := w7) (g := g2) (j := 0) (v := .string (str sc2)) (H7.focB g2).blk rfl
  have y1_w7 := cell_blk (w := w7) (g := g2) (j := 1) (v := .string (str au2)) (H7.focB g2).blk rfl
  have y2_w7 := cell_blk (w := w7) (g := g2) (j := 2) (v := .string (str pa2)) (H7.focB g2).blk rfl
  have y3_w7 := cell_blk (w := w7) (g := g2) (j := 3) (v := .string (str qu2)) (H7.focB g2).blk rfl
  have y4_w7 := cell_blk (w := w7) (g := g2) (j := 4) (v := .string (str fr2)) (H7.focB g2).blk rfl
  have y5_w7 := cell_blk (w := w7) (g := g2) (j := 5) (v := .bool false) (H7.focB g2).blk rfl
  have y6_w7 := cell_blk (w := w7) (g := g2) (j := 6) (v := .bool false) (H7.focB g2).blk rfl
  have y7_w7 := cell_blk (w := w7) (g := g2) (j := 7) (v := .bool true) (H7.focB g2).blk rfl
  have y8_w7 := cell_blk (w := w7) (g := g2) (j := 8) (v := .bool bf2) (H7.focB g2).blk rfl
  have z0_w7 := cell_blk (w := w7) (g := g3) (j := 0) (v := .string (str sc)) (H7.focB g3).blk rfl
  have z1_w7 := cell_blk (w := w7) (g := g3) (j := 1) (v := .string (str au)) (H7.focB g3).blk rfl
  have z2_w7 := cell_blk (w := w7) (g := g3) (j := 2) (v := .string (str pa)) (H7.focB g3).blk rfl
  have z3_w7 := cell_blk (w := w7) (g := g3) (j := 3) (v := .string (str qu2)) (H7.focB g3).blk rfl
  have z4_w7 := cell_blk (w := w7) (g := g3) (j := 4) (v := .string (str fr2)) (H7.focB g3).blk rfl
  have z5_w7 := cell_blk (w := w7) (g := g3) (j := 5) (v := .bool bs) (H7.focB g3).blk rfl
  have z6_w7 := cell_blk (w := w7) (g := g3) (j := 6) (v := .bool ba) (H7.focB g3).blk rfl
  have z7_w7 := cell_blk (w := w7) (g := g3) (j := 7) (v := .bool true) (H7.focB g3).blk rfl
  have z8_w7 := cell_blk (w := w7) (g := g3) (j := 8) (v := .bool bf2) (H7.focB g3).blk rfl
  go_wp2
  go_ret
  exact ⟨rfl, H7.drop.drop.drop.old⟩
set_option maxRecDepth 100000 in
set_option maxHeartbeats 4000000 in
theorem uriAny_empty_false (l m : List UInt8) (w : World) (hl : l.length ≤ 200) (hm : m.length ≤ 200) (sc au pa qu fr sc2 au2 pa2 qu2 fr2 : List UInt8) (bs ba bq bf bf2 : Bool)
    (hb : parseF l = ⟨sc, au, pa, qu, fr, bs, ba, bq, bf⟩) (hr : parseF m = ⟨sc2, au2, pa2, qu2, fr2, false, false, false, bf2⟩) (hb1 : pa.length ≤ 200) (hr1 : pa2.length ≤ 200) (hp : pa2 = []) :
    Calls Try.prog 4 #[.string (str l), .string (str m)] w fun e w' => e = .returned (.bool true) ∧ Below w.heap.size w w' := by
  have HH := Kp.mk (law_head (own_start w))
  have hsl : (str l).size = l.length := str_size l
  have hsm : (str m).size = m.length := str_size m
  have t1 : decide ((200 : Int) < (l.length : Int)) = false := decide_eq_false (by omega)
  have t2 : decide ((200 : Int) < (m.length : Int)) = false := decide_eq_false (by omega)
  have t1' : decide (200 < l.length) = false := decide_eq_false (by omega)
  have t2' : decide (200 < m.length) = false := decide_eq_false (by omega)
  have hpl : (str pa2).toList = pa2 := str_toList pa2
  have hpe : pa2.isEmpty = true := by rw [hp]; rfl
  have hres : Kp (resolveF ⟨sc, au, pa, qu, fr, bs, ba, bq, bf⟩ ⟨sc2, au2, pa2, qu2, fr2, false, false, false, bf2⟩ = ⟨sc, au, pa, qu, fr2, bs, ba, bq, bf2⟩) := ⟨by rw [resolveF]; simp [hp]⟩
  clear hp
  go_enter Try.func4, Try.ntmps4
  go_wp2_with fail
  refine HH.out.mono ?_
  rintro e w1 ⟨rfl, H1⟩
  have HP := uri_Parse H1 (str l) (by omega)
  rw [str_data, hb] at HP
  have HP := Kp.mk HP
  clear HH H1
  go_wp2_with fail
  refine HP.out.mono ?_
  rintro e w2 ⟨rfl, H2⟩
  unfold refV
  dsimp only
  clear HP
  have H3 := Kp.mk (H2.alloc (refO [] [] [] [] [] false false false false))
  unfold refO at H3
  go_wp2_with (refine own_store_row w2.heap.size #[.string (str sc), .string (str au), .string (str pa), .string (str qu), .string (str fr), .bool bs, .bool ba, .bool bq, .bool bf] H3.out rfl 28 (.tmp 5) (.tmp 25) rfl rfl rfl (by kernel_rfl) (by rfl) (by simp [Value.oneCell']) ?_)
  intro w3 H4
  clear H3 H2
  generalize w2.heap.size = g1 at H4 ⊢
  have HP := uri_Parse H4 (str m) (by omega)
  rw [str_data, hr] at HP
  have HP := Kp.mk HP
  clear H4
  go_wp2_with fail
  refine HP.out.mono ?_
  rintro e w4 ⟨rfl, H2⟩
  unfold refV
  dsimp only
  clear HP
  have H3 := Kp.mk (H2.alloc (refO [] [] [] [] [] false false false false))
  unfold refO at H3
  go_wp2_with (refine own_store_row w4.heap.size #[.string (str sc2), .string (str au2), .string (str pa2), .string (str qu2), .string (str fr2), .bool false, .bool false, .bool false, .bool bf2] H3.out rfl 28 (.tmp 6) (.tmp 27) rfl rfl rfl (by kernel_rfl) (by rfl) (by simp [Value.oneCell']) ?_)
  intro w5 H4
  clear H3 H2
  generalize w4.heap.size = g2 at H4 ⊢
  have HR := uri_Resolve H4 ⟨sc, au, pa, qu, fr, bs, ba, bq, bf⟩ ⟨sc2, au2, pa2, qu2, fr2, false, false, false, bf2⟩ (by simp only; omega) (by simp only; omega)
  unfold ResEnd at HR
  rw [hres.out] at HR
  unfold refV at HR
  dsimp only at HR
  have HR := Kp.mk HR
  have H4 := Kp.mk H4
  go_wp2_with (first | (refine own_load_row g1 H4.out rfl 28 (.tmp 5) rfl rfl _ Try.underlying28 rfl (by rfl) ?_) | (refine own_load_row g2 H4.out rfl 28 (.tmp 6) rfl rfl _ Try.underlying28 rfl (by rfl) ?_))
  refine HR.out.mono ?_
  rintro e w6 ⟨rfl, H5⟩
  clear HR H4
  have H6 := Kp.mk (H5.alloc (refO [] [] [] [] [] false false false false))
  unfold refO at H6
  go_wp2_with (refine own_store_row w6.heap.size #[.string (str sc), .string (str au), .string (str pa), .string (str qu), .string (str fr2), .bool bs, .bool ba, .bool bq, .bool bf2] H6.out rfl 28 (.tmp 7) (.tmp 30) rfl rfl rfl (by kernel_rfl) (by rfl) (by simp [Value.oneCell']) ?_)
  intro w7 H7
  clear H6 H5
  generalize w6.heap.size = g3 at H7 ⊢
  have x0_w7 := cell_blk (w := w7) (g := g1) (j := 0) (v := .string (str sc)) (H7.focB g1).blk rfl
  have x1_w7 := cell_blk (w := w7) (g := g1) (j := 1) (v := .string (str au)) (H7.focB g1).blk rfl
  have x2_w7 := cell_blk (w := w7) (g := g1) (j := 2) (v := .string (str pa)) (H7.focB g1).blk rfl
  have x3_w7 := cell_blk (w := w7) (g := g1) (j := 3) (v := .string (str qu)) (H7.focB g1).blk rfl
  have x4_w7 := cell_blk (w := w7) (g := g1) (j := 4) (v := .string (str fr)) (H7.focB g1).blk rfl
  have x5_w7 := cell_blk (w := w7) (g := g1) (j := 5) (v := .bool bs) (H7.focB g1).blk rfl
  have x6_w7 := cell_blk (w := w7) (g := g1) (j := 6) (v := .bool ba) (H7.focB g1).blk rfl
  have x7_w7 := cell_blk (w := w7) (g := g1) (j := 7) (v := .bool bq) (H7.focB g1).blk rfl
  have x8_w7 := cell_blk (w := w7) (g := g1) (j := 8) (v := .bool bf) (H7.focB g1).blk rfl
  have y0_w7 := cell_blk (w := w7) (g := g2) (j := 0) (v := .string (str sc2)) (H7.focB g2).blk rfl
  have y1_w7 := cell_blk (w := w7) (g := g2) (j := 1) (v := .string (str au2)) (H7.focB g2).blk rfl
  have y2_w7 := cell_blk (w := w7) (g := g2) (j := 2) (v := .string (str pa2)) (H7.focB g2).blk rfl
  have y3_w7 := cell_blk (w := w7) (g := g2) (j := 3) (v := .string (str qu2)) (H7.focB g2).blk rfl
  have y4_w7 := cell_blk (w := w7) (g := g2) (j := 4) (v := .string (str fr2)) (H7.focB g2).blk rfl
  have y5_w7 := cell_blk (w := w7) (g := g2) (j := 5) (v := .bool false) (H7.focB g2).blk rfl
  have y6_w7 := cell_blk (w := w7) (g := g2) (j := 6) (v := .bool false) (H7.focB g2).blk rfl
  have y7_w7 := cell_blk (w := w7) (g := g2) (j := 7) (v := .bool false) (H7.focB g2).blk rfl
  have y8_w7 := cell_blk (w := w7) (g := g2) (j := 8) (v := .bool bf2) (H7.focB g2).blk rfl
  have z0_w7 := cell_blk (w := w7) (g := g3) (j := 0) (v := .string (str sc)) (H7.focB g3).blk rfl
  have z1_w7 := cell_blk (w := w7) (g := g3) (j := 1) (v := .string (str au)) (H7.focB g3).blk rfl
  have z2_w7 := cell_blk (w := w7) (g := g3) (j := 2) (v := .string (str pa)) (H7.focB g3).blk rfl
  have z3_w7 := cell_blk (w := w7) (g := g3) (j := 3) (v := .string (str qu)) (H7.focB g3).blk rfl
  have z4_w7 := cell_blk (w := w7) (g := g3) (j := 4) (v := .string (str fr2)) (H7.focB g3).blk rfl
  have z5_w7 := cell_blk (w := w7) (g := g3) (j := 5) (v := .bool bs) (H7.focB g3).blk rfl
  have z6_w7 := cell_blk (w := w7) (g := g3) (j := 6) (v := .bool ba) (H7.focB g3).blk rfl
  have z7_w7 := cell_blk (w := w7) (g := g3) (j := 7) (v := .bool bq) (H7.focB g3).blk rfl
  have z8_w7 := cell_blk (w := w7) (g := g3) (j := 8) (v := .bool bf2) (H7.focB g3).blk rfl
  go_wp2
  go_ret
  exact ⟨rfl, H7.drop.drop.drop.old⟩
end Go.Proofs.YtcoaecdgodfodaaSep
