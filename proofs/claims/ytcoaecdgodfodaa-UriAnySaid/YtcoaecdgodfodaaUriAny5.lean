/- Own work: the law UriAny, by walks: a path behind another one. -/
import Derived.Test.YtcoaecdgodfodaaUriR
import Derived.Test.YtcoaecdgodfodaaUriS
import Derived.Test.YtcoaecdgodfodaaUriH
import Derived.Test.YtcoaecdgodfodaaUriDir
import Derived.Test.YtcoaecdgodfodaaQuiet
import Derived.Test.YtcoaecdgodfodaaMore
namespace Go.Proofs.YtcoaecdgodfodaaSep
open Go.RowKit Go.Lib Go.Proofs

set_option maxRecDepth 100000 in
set_option maxHeartbeats 4000000 in
theorem uriAny_rel (l m : List UInt8) (w : World) (hl : l.length ≤ 200) (hm : m.length ≤ 200) (sc au pa qu fr sc2 au2 pa2 qu2 fr2 : List UInt8) (bs ba bq bf bq2 bf2 : Bool)
    (hb : parseF l = ⟨sc, au, pa, qu, fr, bs, ba, bq, bf⟩) (hr : parseF m = ⟨sc2, au2, pa2, qu2, fr2, false, false, bq2, bf2⟩) (hb1 : pa.length ≤ 200) (hr1 : pa2.length ≤ 200) (c2 : UInt8) (q2 : List UInt8) (hp : pa2 = c2 :: q2) (hc : ¬ c2 = 47) :
    Calls Try.prog 4 #[.string (str l), .string (str m)] w fun e w' => e = .returned (.bool true) ∧ Below w.heap.size w w' := by
  have HH := Kp.mk (law_head (own_start w))
  have hsl : (str l).size = l.length := str_size l
  have hsm : (str m).size = m.length := str_size m
  have t1 : decide ((200 : Int) < (l.length : Int)) = false := decide_eq_false (by omega)
  have t2 : decide ((200 : Int) < (m.length : Int)) = false := decide_eq_false (by omega)
  have t1' : decide (200 < l.length) = false := decide_eq_false (by omega)
  have t2' : decide (200 < m.length) = false := decide_eq_false (by omega)
  have hpl : (str pa2).toList = pa2 := str_toList pa2
  have hps : (str pa2).size = pa2.length := str_size pa2
  have hpe : pa2.isEmpty = false := by rw [hp]; rfl
  have hp0 : 0 < pa2.length := by rw [hp]; simp
  have hix : ∀ h, ((str pa2)[0]'h) = c2 := by
    intro h
    subst hp
    rfl
  have hb47 := byte_eq c2 47
  rw [decide_eq_false hc, show (((47 : UInt8).toNat : Nat) : Int) = 47 from rfl] at hb47
  obtain ⟨mg, hmg⟩ : ∃ mg, Kp (mergeF ⟨sc, au, pa, qu, fr, bs, ba, bq, bf⟩ pa2 = mg) := ⟨_, ⟨rfl⟩⟩
  have hml : mg.length ≤ 500 := by
    rw [← hmg.out, mergeF]
    split
    · simp only [List.length_cons]; omega
    · simp only [List.length_append, List.length_take]; omega
  have hres : Kp (resolveF ⟨sc, au, pa, qu, fr, bs, ba, bq, bf⟩ ⟨sc2, au2, pa2, qu2, fr2, false, false, bq2, bf2⟩ = ⟨sc, au, dotsF mg, qu2, fr2, bs, ba, bq2, bf2⟩) := ⟨by rw [resolveF]; simp [hp, hc, ← hmg.out]⟩
  clear hp hc
  go_enter Try.func4, Try.ntmps4
  go_wp2_with fail
  refine HH.out.mono ?_
  rintro e w1 ⟨rfl, H1⟩
  have HP := uri_Parse H1 (str l) (by omega)
  rw [str_data, hb] at HP
  have HP := Kp.mk HP
  clear HH H1
  go_wp2_with fail
  refine HP.out.mono ?_
  rintro e w2 ⟨rfl, H2⟩
  unfold refV
  dsimp only
  clear HP
  have H3 := Kp.mk (H2.alloc (refO [] [] [] [] [] false false false false))
  unfold refO at H3
  go_wp2_with (refine own_store_row w2.heap.size #[.string (str sc), .string (str au), .string (str pa), .string (str qu), .string (str fr), .bool bs, .bool ba, .bool bq, .bool bf] H3.out rfl 28 (.tmp 5) (.tmp 25) rfl rfl rfl (by kernel_rfl) (by rfl) (by simp [Value.oneCell']) ?_)
  intro w3 H4
  clear H3 H2
  generalize w2.heap.size = g1 at H4 ⊢
  have HP := uri_Parse H4 (str m) (by omega)
  rw [str_data, hr] at HP
  have HP := Kp.mk HP
  clear H4
  go_wp2_with fail
  refine HP.out.mono ?_
  rintro e w4 ⟨rfl, H2⟩
  unfold refV
  dsimp only
  clear HP
  have H3 := Kp.mk (H2.alloc (refO [] [] [] [] [] false false false false))
  unfold refO at H3
  go_wp2_with (refine own_store_row w4.heap.size #[.string (str sc2), .string (str au2), .string (str pa2), .string (str qu2), .string (str fr2), .bool false, .bool false, .bool bq2, .bool bf2] H3.out rfl 28 (.tmp 6) (.tmp 27) rfl rfl rfl (by kernel_rfl) (by rfl) (by simp [Value.oneCell']) ?_)
  intro w5 H4
  clear H3 H2
  generalize w4.heap.size = g2 at H4 ⊢
  have HR := uri_Resolve H4 ⟨sc, au, pa, qu, fr, bs, ba, bq, bf⟩ ⟨sc2, au2, pa2, qu2, fr2, false, false, bq2, bf2⟩ (by simp only; omega) (by simp only; omega)
  unfold ResEnd at HR
  rw [hres.out] at HR
  unfold refV at HR
  dsimp only at HR
  have HR := Kp.mk HR
  have H4 := Kp.mk H4
  go_wp2_with (first | (refine own_load_row g1 H4.out rfl 28 (.tmp 5) rfl rfl _ Try.underlying28 rfl (by rfl) ?_) | (refine own_load_row g2 H4.out rfl 28 (.tmp 6) rfl rfl _ Try.underlying28 rfl (by rfl) ?_))
  refine HR.out.mono ?_
  rintro e w6 ⟨rfl, H5⟩
  clear HR H4
  have H6 := Kp.mk (H5.alloc (refO [] [] [] [] [] false false false false))
  unfold refO at H6
  go_wp2_with (refine own_store_row w6.heap.size #[.string (str sc), .string (str au), .string (str (dotsF mg)), .string (str qu2), .string (str fr2), .bool bs, .bool ba, .bool bq2, .bool bf2] H6.out rfl 28 (.tmp 7) (.tmp 30) rfl rfl rfl (by kernel_rfl) (by rfl) (by simp [Value.oneCell']) ?_)
  intro w7 H7
  clear H6 H5
  generalize w6.heap.size = g3 at H7 ⊢
  have x0_w7 := cell_blk (w := w7) (g := g1) (j := 0) (v := .string (str sc)) (H7.focB g1).blk rfl
  have x1_w7 := cell_blk (w := w7) (g := g1) (j := 1) (v := .string (str au)) (H7.focB g1).blk rfl
  have x2_w7 := cell_blk (w := w7) (g := g1) (j := 2) (v := .string (str pa)) (H7.focB g1).blk rfl
  have x3_w7 := cell_blk (w := w7) (g := g1) (j := 3) (v := .string (str qu)) (H7.focB g1).blk rfl
  have x4_w7 := cell_blk (w := w7) (g := g1) (j := 4) (v := .string (str fr)) (H7.focB g1).blk rfl
  have x5_w7 := cell_blk (w := w7) (g := g1) (j := 5) (v := .bool bs) (H7.focB g1).blk rfl
  have x6_w7 := cell_blk (w := w7) (g := g1) (j := 6) (v := .bool ba) (H7.focB g1).blk rfl
  have x7_w7 := cell_blk (w := w7) (g := g1) (j := 7) (v := .bool bq) (H7.focB g1).blk rfl
  have x8_w7 := cell_blk (w := w7) (g := g1) (j := 8) (v := .bool bf) (H7.focB g1).blk rfl
  have y0_w7 := cell_blk (w := w7) (g := g2) (j := 0) (v := .string (str sc2)) (H7.focB g2).blk rfl
  have y1_w7 := cell_blk (w := w7) (g := g2) (j := 1) (v := .string (str au2)) (H7.focB g2).blk rfl
  have y2_w7 := cell_blk (w := w7) (g := g2) (j := 2) (v := .string (str pa2)) (H7.focB g2).blk rfl
  have y3_w7 := cell_blk (w := w7) (g := g2) (j := 3) (v := .string (str qu2)) (H7.focB g2).blk rfl
  have y4_w7 := cell_blk (w := w7) (g := g2) (j := 4) (v := .string (str fr2)) (H7.focB g2).blk rfl
  have y5_w7 := cell_blk (w := w7) (g := g2) (j := 5) (v := .bool false) (H7.focB g2).blk rfl
  have y6_w7 := cell_blk (w := w7) (g := g2) (j := 6) (v := .bool false) (H7.focB g2).blk rfl
  have y7_w7 := cell_blk (w := w7) (g := g2) (j := 7) (v := .bool bq2) (H7.focB g2).blk rfl
  have y8_w7 := cell_blk (w := w7) (g := g2) (j := 8) (v := .bool bf2) (H7.focB g2).blk rfl
  have z0_w7 := cell_blk (w := w7) (g := g3) (j := 0) (v := .string (str sc)) (H7.focB g3).blk rfl
  have z1_w7 := cell_blk (w := w7) (g := g3) (j := 1) (v := .string (str au)) (H7.focB g3).blk rfl
  have z2_w7 := cell_blk (w := w7) (g := g3) (j := 2) (v := .string (str (dotsF mg))) (H7.focB g3).blk rfl
  have z3_w7 := cell_blk (w := w7) (g := g3) (j := 3) (v := .string (str qu2)) (H7.focB g3).blk rfl
  have z4_w7 := cell_blk (w := w7) (g := g3) (j := 4) (v := .string (str fr2)) (H7.focB g3).blk rfl
  have z5_w7 := cell_blk (w := w7) (g := g3) (j := 5) (v := .bool bs) (H7.focB g3).blk rfl
  have z6_w7 := cell_blk (w := w7) (g := g3) (j := 6) (v := .bool ba) (H7.focB g3).blk rfl
  have z7_w7 := cell_blk (w := w7) (g := g3) (j := 7) (v := .bool bq2) (H7.focB g3).blk rfl
  have z8_w7 := cell_blk (w := w7) (g := g3) (j := 8) (v := .bool bf2) (H7.focB g3).blk rfl
  have HS := law_split H7 (str pa) (by rw [str_size]; omega)
  rw [str_data] at HS
  have HS := Kp.mk HS
  have H7 := Kp.mk H7
  go_wp2_with fail
  refine HS.out.mono ?_
  rintro e w8 ⟨v, rfl, H8⟩
  clear HS
  obtain ⟨q, last, hq1, hq2⟩ := dir_split pa
  have hqn := splitG_len pa []
  rw [show splitG [] pa = splitF pa from rfl, hq1] at hqn
  rw [hq1] at H8
  have hln : (q ++ [last]).length = q.length + 1 := by simp
  rw [hln] at H8 hqn
  obtain ⟨gp, cp, rfl, hc1, hc2⟩ := H8.at0 (by omega)
  unfold maxLen at hc2
  have hcell : Kp (∀ j (h : j < q.length), w8.cell? ⟨gp, j, none⟩ = some (.string (str q[j]))) := ⟨fun j h => H8.cellR j _ (by
    rw [SV, List.getElem?_map, List.getElem?_append_left h, List.getElem?_eq_getElem h]
    rfl)⟩
  obtain ⟨n, hn⟩ : ∃ n, Kp (q.length = n) := ⟨_, ⟨rfl⟩⟩
  have hjt : Kp (∀ j (h : j < q.length), jn (q.take (j + 1)) = jn (q.take j) ++ (q[j] ++ [47])) := ⟨fun j h => by
    rw [List.take_add_one, List.getElem?_eq_getElem h]
    exact jn_snoc _ _⟩
  have hjl : Kp (∀ j, (jn (q.take j)).length ≤ 400) := ⟨fun j => by
    have h1 : (jn (q.take j)).length ≤ (jn q).length := by
      have : jn q = jn (q.take j) ++ jn (q.drop j) := by rw [jn, jn, jn, ← List.flatMap_append, List.take_append_drop]
      rw [this, List.length_append]
      omega
    have h2 : (jn q).length ≤ pa.length := by rw [hq2, List.length_take]; omega
    omega⟩
  have hend : Kp (jn (q.take q.length) = pa.take (Lib.lastIndexByte (str pa) 47 + 1).toNat) := ⟨by rw [List.take_length]; exact hq2⟩
  rw [hn.out] at H8 hqn hc1 hend ⊢
  generalize SV (q ++ [last]) = sv at H8
  have H8 := Kp.mk H8
  clear H7 hln hq1 hq2
  go_wp2
  go_loopg [11, 213] n (fun g vs vi wr => ∃ j : Nat, j ≤ n ∧ vi = .int .i64 j ∧ Kp (g + j = n) ∧ vs = .string (str (jn (q.take j))) ∧ wr = w8)
  case atStart => exact ⟨0, Nat.zero_le _, rfl, ⟨by omega⟩, rfl, rfl⟩
  case round =>
    obtain ⟨j, hj, rfl, hgj, rfl, rfl⟩ := hrel
    by_cases hlj : j < n
    · have hjq : j < q.length := by rw [hn.out]; exact hlj
      have hcj := hcell.out j hjq
      have hap := hjt.out j hjq
      have hs1 := hjl.out j
      have hs2 := hjl.out (j + 1)
      rw [hap, List.length_append, List.length_append, List.length_singleton] at hs2
      obtain ⟨dj, hdj⟩ : ∃ dj, q[j] = dj := ⟨_, rfl⟩
      rw [hdj] at hcj hap hs2
      obtain ⟨pre, hpre⟩ : ∃ pre, jn (q.take j) = pre := ⟨_, rfl⟩
      rw [hpre] at hap hs1 hs2 ⊢
      have hsz : (str pre).size = pre.length := str_size pre
      have hsd : (str dj).size = dj.length := str_size dj
      have h47 : (⟨#[47]⟩ : ByteArray).size = 1 := rfl
      have hno1 : ¬ 9223372036854775807 < pre.length + dj.length := by omega
      have hno2 : ¬ 9223372036854775807 < pre.length + dj.length + 1 := by omega
      have happ : str pre ++ str dj ++ (⟨#[47]⟩ : ByteArray) = str (pre ++ (dj ++ [47])) := by
        rw [show (⟨#[47]⟩ : ByteArray) = str [47] from rfl, str_app, str_app]
        simp
      have hap := Kp.mk hap
      clear hpre hdj hjq hs1 hs2
      go_wp2
      go_roundg (n - (j + 1))
      case measure => have := hgj.out; omega
      case rel => exact ⟨j + 1, by omega, by go_num, ⟨by have := hgj.out; omega⟩, by rw [hap.out, ← happ], rfl⟩
    · obtain rfl : j = n := by omega
      rw [hend.out]
      clear hlj hj
      have hpq : pa.isEmpty = decide (pa = []) := by cases pa <;> rfl
      obtain ⟨dir, hdir⟩ : ∃ dir, Kp (dir = if ba = true ∧ pa = [] then [47] else pa.take (Lib.lastIndexByte (str pa) 47 + 1).toNat) := ⟨_, ⟨rfl⟩⟩
      have hmd : Kp (mg = dir ++ pa2) := ⟨by
        rw [← hmg.out, hdir.out, mergeF]
        split <;> rfl⟩
      have hdl : dir.length ≤ 201 := by
        rw [hdir.out]
        split
        · simp
        · rw [List.length_take]; omega
      have hsd : (str dir).size = dir.length := str_size dir
      have hno1 : ¬ 9223372036854775807 < dir.length + pa2.length := by omega
      have happ : str dir ++ str pa2 = str mg := by rw [str_app, hmd.out]
      have hpt : (str pa).toList = pa := str_toList pa
      have hcase : (ba = true ∧ pa.isEmpty = true ∧ dir = [47]) ∨ (ba = true ∧ pa.isEmpty = false ∧ pa.take (Lib.lastIndexByte (str pa) 47 + 1).toNat = dir) ∨ (ba = false ∧ pa.take (Lib.lastIndexByte (str pa) 47 + 1).toNat = dir) := by
        rw [hdir.out]
        cases ba
        · exact .inr (.inr ⟨rfl, by simp⟩)
        · cases pa with
          | nil => exact .inl ⟨rfl, rfl, by simp⟩
          | cons c t => exact .inr (.inl ⟨rfl, rfl, by simp⟩)
      generalize pa.take (Lib.lastIndexByte (str pa) 47 + 1).toNat = tk at hcase ⊢
      clear hdir hmd hpq hend hcell hjt hjl hn
      rcases hcase with hcase | hcase | hcase
      · obtain ⟨rfl, hpe0, hdd⟩ := hcase
        rw [hdd] at happ hsd hno1
        have happ1 : (⟨#[47]⟩ : ByteArray) ++ str pa2 = str mg := happ
        have hsd1 : (⟨#[47]⟩ : ByteArray).size = 1 := rfl
        have hno11 : ¬ 9223372036854775807 < 1 + pa2.length := by
          rw [List.length_singleton] at hno1
          exact hno1
        clear happ hsd hno1 hdd
        have x0_wr := cell_blk (w := wr) (g := g1) (j := 0) (v := .string (str sc)) (H8.out.focB g1).blk rfl
        have x1_wr := cell_blk (w := wr) (g := g1) (j := 1) (v := .string (str au)) (H8.out.focB g1).blk rfl
        have x2_wr := cell_blk (w := wr) (g := g1) (j := 2) (v := .string (str pa)) (H8.out.focB g1).blk rfl
        have x3_wr := cell_blk (w := wr) (g := g1) (j := 3) (v := .string (str qu)) (H8.out.focB g1).blk rfl
        have x4_wr := cell_blk (w := wr) (g := g1) (j := 4) (v := .string (str fr)) (H8.out.focB g1).blk rfl
        have x5_wr := cell_blk (w := wr) (g := g1) (j := 5) (v := .bool bs) (H8.out.focB g1).blk rfl
        have x6_wr := cell_blk (w := wr) (g := g1) (j := 6) (v := .bool true) (H8.out.focB g1).blk rfl
        have x7_wr := cell_blk (w := wr) (g := g1) (j := 7) (v := .bool bq) (H8.out.focB g1).blk rfl
        have x8_wr := cell_blk (w := wr) (g := g1) (j := 8) (v := .bool bf) (H8.out.focB g1).blk rfl
        have y0_wr := cell_blk (w := wr) (g := g2) (j := 0) (v := .string (str sc2)) (H8.out.focB g2).blk rfl
        have y1_wr := cell_blk (w := wr) (g := g2) (j := 1) (v := .string (str au2)) (H8.out.focB g2).blk rfl
        have y2_wr := cell_blk (w := wr) (g := g2) (j := 2) (v := .string (str pa2)) (H8.out.focB g2).blk rfl
        have y3_wr := cell_blk (w := wr) (g := g2) (j := 3) (v := .string (str qu2)) (H8.out.focB g2).blk rfl
        have y4_wr := cell_blk (w := wr) (g := g2) (j := 4) (v := .string (str fr2)) (H8.out.focB g2).blk rfl
        have y5_wr := cell_blk (w := wr) (g := g2) (j := 5) (v := .bool false) (H8.out.focB g2).blk rfl
        have y6_wr := cell_blk (w := wr) (g := g2) (j := 6) (v := .bool false) (H8.out.focB g2).blk rfl
        have y7_wr := cell_blk (w := wr) (g := g2) (j := 7) (v := .bool bq2) (H8.out.focB g2).blk rfl
        have y8_wr := cell_blk (w := wr) (g := g2) (j := 8) (v := .bool bf2) (H8.out.focB g2).blk rfl
        have z0_wr := cell_blk (w := wr) (g := g3) (j := 0) (v := .string (str sc)) (H8.out.focB g3).blk rfl
        have z1_wr := cell_blk (w := wr) (g := g3) (j := 1) (v := .string (str au)) (H8.out.focB g3).blk rfl
        have z2_wr := cell_blk (w := wr) (g := g3) (j := 2) (v := .string (str (dotsF mg))) (H8.out.focB g3).blk rfl
        have z3_wr := cell_blk (w := wr) (g := g3) (j := 3) (v := .string (str qu2)) (H8.out.focB g3).blk rfl
        have z4_wr := cell_blk (w := wr) (g := g3) (j := 4) (v := .string (str fr2)) (H8.out.focB g3).blk rfl
        have z5_wr := cell_blk (w := wr) (g := g3) (j := 5) (v := .bool bs) (H8.out.focB g3).blk rfl
        have z6_wr := cell_blk (w := wr) (g := g3) (j := 6) (v := .bool true) (H8.out.focB g3).blk rfl
        have z7_wr := cell_blk (w := wr) (g := g3) (j := 7) (v := .bool bq2) (H8.out.focB g3).blk rfl
        have z8_wr := cell_blk (w := wr) (g := g3) (j := 8) (v := .bool bf2) (H8.out.focB g3).blk rfl
        haveI : Nonempty (OwnW w (Old w * Blk g1 (.cells #[.string (str sc), .string (str au), .string (str pa), .string (str qu), .string (str fr), .bool bs, .bool true, .bool bq, .bool bf] 28) * Blk g2 (.cells #[.string (str sc2), .string (str au2), .string (str pa2), .string (str qu2), .string (str fr2), .bool false, .bool false, .bool bq2, .bool bf2] 28) * Blk g3 (.cells #[.string (str sc), .string (str au), .string (str (dotsF mg)), .string (str qu2), .string (str fr2), .bool bs, .bool true, .bool bq2, .bool bf2] 28) * Row 9 1 (.slice (some ⟨gp, 0, none⟩) (j + 1) cp) (j + 1) sv)) := ⟨⟨_, H8.out⟩⟩
        have x0_q : ∀ x : OwnW w (Old w * Blk g1 (.cells #[.string (str sc), .string (str au), .string (str pa), .string (str qu), .string (str fr), .bool bs, .bool true, .bool bq, .bool bf] 28) * Blk g2 (.cells #[.string (str sc2), .string (str au2), .string (str pa2), .string (str qu2), .string (str fr2), .bool false, .bool false, .bool bq2, .bool bf2] 28) * Blk g3 (.cells #[.string (str sc), .string (str au), .string (str (dotsF mg)), .string (str qu2), .string (str fr2), .bool bs, .bool true, .bool bq2, .bool bf2] 28) * Row 9 1 (.slice (some ⟨gp, 0, none⟩) (j + 1) cp) (j + 1) sv), x.w.cell? ⟨g1, 0, none⟩ = some (.string (str sc)) := fun x => cell_blk (x.own.focB g1).blk rfl
        have x1_q : ∀ x : OwnW w (Old w * Blk g1 (.cells #[.string (str sc), .string (str au), .string (str pa), .string (str qu), .string (str fr), .bool bs, .bool true, .bool bq, .bool bf] 28) * Blk g2 (.cells #[.string (str sc2), .string (str au2), .string (str pa2), .string (str qu2), .string (str fr2), .bool false, .bool false, .bool bq2, .bool bf2] 28) * Blk g3 (.cells #[.string (str sc), .string (str au), .string (str (dotsF mg)), .string (str qu2), .string (str fr2), .bool bs, .bool true, .bool bq2, .bool bf2] 28) * Row 9 1 (.slice (some ⟨gp, 0, none⟩) (j + 1) cp) (j + 1) sv), x.w.cell? ⟨g1, 1, none⟩ = some (.string (str au)) := fun x => cell_blk (x.own.focB g1).blk rfl
        have x2_q : ∀ x : OwnW w (Old w * Blk g1 (.cells #[.string (str sc), .string (str au), .string (str pa), .string (str qu), .string (str fr), .bool bs, .bool true, .bool bq, .bool bf] 28) * Blk g2 (.cells #[.string (str sc2), .string (str au2), .string (str pa2), .string (str qu2), .string (str fr2), .bool false, .bool false, .bool bq2, .bool bf2] 28) * Blk g3 (.cells #[.string (str sc), .string (str au), .string (str (dotsF mg)), .string (str qu2), .string (str fr2), .bool bs, .bool true, .bool bq2, .bool bf2] 28) * Row 9 1 (.slice (some ⟨gp, 0, none⟩) (j + 1) cp) (j + 1) sv), x.w.cell? ⟨g1, 2, none⟩ = some (.string (str pa)) := fun x => cell_blk (x.own.focB g1).blk rfl
        have x3_q : ∀ x : OwnW w (Old w * Blk g1 (.cells #[.string (str sc), .string (str au), .string (str pa), .string (str qu), .string (str fr), .bool bs, .bool true, .bool bq, .bool bf] 28) * Blk g2 (.cells #[.string (str sc2), .string (str au2), .string (str pa2), .string (str qu2), .string (str fr2), .bool false, .bool false, .bool bq2, .bool bf2] 28) * Blk g3 (.cells #[.string (str sc), .string (str au), .string (str (dotsF mg)), .string (str qu2), .string (str fr2), .bool bs, .bool true, .bool bq2, .bool bf2] 28) * Row 9 1 (.slice (some ⟨gp, 0, none⟩) (j + 1) cp) (j + 1) sv), x.w.cell? ⟨g1, 3, none⟩ = some (.string (str qu)) := fun x => cell_blk (x.own.focB g1).blk rfl
        have x4_q : ∀ x : OwnW w (Old w * Blk g1 (.cells #[.string (str sc), .string (str au), .string (str pa), .string (str qu), .string (str fr), .bool bs, .bool true, .bool bq, .bool bf] 28) * Blk g2 (.cells #[.string (str sc2), .string (str au2), .string (str pa2), .string (str qu2), .string (str fr2), .bool false, .bool false, .bool bq2, .bool bf2] 28) * Blk g3 (.cells #[.string (str sc), .string (str au), .string (str (dotsF mg)), .string (str qu2), .string (str fr2), .bool bs, .bool true, .bool bq2, .bool bf2] 28) * Row 9 1 (.slice (some ⟨gp, 0, none⟩) (j + 1) cp) (j + 1) sv), x.w.cell? ⟨g1, 4, none⟩ = some (.string (str fr)) := fun x => cell_blk (x.own.focB g1).blk rfl
        have x5_q : ∀ x : OwnW w (Old w * Blk g1 (.cells #[.string (str sc), .string (str au), .string (str pa), .string (str qu), .string (str fr), .bool bs, .bool true, .bool bq, .bool bf] 28) * Blk g2 (.cells #[.string (str sc2), .string (str au2), .string (str pa2), .string (str qu2), .string (str fr2), .bool false, .bool false, .bool bq2, .bool bf2] 28) * Blk g3 (.cells #[.string (str sc), .string (str au), .string (str (dotsF mg)), .string (str qu2), .string (str fr2), .bool bs, .bool true, .bool bq2, .bool bf2] 28) * Row 9 1 (.slice (some ⟨gp, 0, none⟩) (j + 1) cp) (j + 1) sv), x.w.cell? ⟨g1, 5, none⟩ = some (.bool bs) := fun x => cell_blk (x.own.focB g1).blk rfl
        have x6_q : ∀ x : OwnW w (Old w * Blk g1 (.cells #[.string (str sc), .string (str au), .string (str pa), .string (str qu), .string (str fr), .bool bs, .bool true, .bool bq, .bool bf] 28) * Blk g2 (.cells #[.string (str sc2), .string (str au2), .string (str pa2), .string (str qu2), .string (str fr2), .bool false, .bool false, .bool bq2, .bool bf2] 28) * Blk g3 (.cells #[.string (str sc), .string (str au), .string (str (dotsF mg)), .string (str qu2), .string (str fr2), .bool bs, .bool true, .bool bq2, .bool bf2] 28) * Row 9 1 (.slice (some ⟨gp, 0, none⟩) (j + 1) cp) (j + 1) sv), x.w.cell? ⟨g1, 6, none⟩ = some (.bool true) := fun x => cell_blk (x.own.focB g1).blk rfl
        have x7_q : ∀ x : OwnW w (Old w * Blk g1 (.cells #[.string (str sc), .string (str au), .string (str pa), .string (str qu), .string (str fr), .bool bs, .bool true, .bool bq, .bool bf] 28) * Blk g2 (.cells #[.string (str sc2), .string (str au2), .string (str pa2), .string (str qu2), .string (str fr2), .bool false, .bool false, .bool bq2, .bool bf2] 28) * Blk g3 (.cells #[.string (str sc), .string (str au), .string (str (dotsF mg)), .string (str qu2), .string (str fr2), .bool bs, .bool true, .bool bq2, .bool bf2] 28) * Row 9 1 (.slice (some ⟨gp, 0, none⟩) (j + 1) cp) (j + 1) sv), x.w.cell? ⟨g1, 7, none⟩ = some (.bool bq) := fun x => cell_blk (x.own.focB g1).blk rfl
        have x8_q : ∀ x : OwnW w (Old w * Blk g1 (.cells #[.string (str sc), .string (str au), .string (str pa), .string (str qu), .string (str fr), .bool bs, .bool true, .bool bq, .bool bf] 28) * Blk g2 (.cells #[.string (str sc2), .string (str au2), .string (str pa2), .string (str qu2), .string (str fr2), .bool false, .bool false, .bool bq2, .bool bf2] 28) * Blk g3 (.cells #[.string (str sc), .string (str au), .string (str (dotsF mg)), .string (str qu2), .string (str fr2), .bool bs, .bool true, .bool bq2, .bool bf2] 28) * Row 9 1 (.slice (some ⟨gp, 0, none⟩) (j + 1) cp) (j + 1) sv), x.w.cell? ⟨g1, 8, none⟩ = some (.bool bf) := fun x => cell_blk (x.own.focB g1).blk rfl
        have y0_q : ∀ x : OwnW w (Old w * Blk g1 (.cells #[.string (str sc), .string (str au), .string (str pa), .string (str qu), .string (str fr), .bool bs, .bool true, .bool bq, .bool bf] 28) * Blk g2 (.cells #[.string (str sc2), .string (str au2), .string (str pa2), .string (str qu2), .string (str fr2), .bool false, .bool false, .bool bq2, .bool bf2] 28) * Blk g3 (.cells #[.string (str sc), .string (str au), .string (str (dotsF mg)), .string (str qu2), .string (str fr2), .bool bs, .bool true, .bool bq2, .bool bf2] 28) * Row 9 1 (.slice (some ⟨gp, 0, none⟩) (j + 1) cp) (j + 1) sv), x.w.cell? ⟨g2, 0, none⟩ = some (.string (str sc2)) := fun x => cell_blk (x.own.focB g2).blk rfl
        have y1_q : ∀ x : OwnW w (Old w * Blk g1 (.cells #[.string (str sc), .string (str au), .string (str pa), .string (str qu), .string (str fr), .bool bs, .bool true, .bool bq, .bool bf] 28) * Blk g2 (.cells #[.string (str sc2), .string (str au2), .string (str pa2), .string (str qu2), .string (str fr2), .bool false, .bool false, .bool bq2, .bool bf2] 28) * Blk g3 (.cells #[.string (str sc), .string (str au), .string (str (dotsF mg)), .string (str qu2), .string (str fr2), .bool bs, .bool true, .bool bq2, .bool bf2] 28) * Row 9 1 (.slice (some ⟨gp, 0, none⟩) (j + 1) cp) (j + 1) sv), x.w.cell? ⟨g2, 1, none⟩ = some (.string (str au2)) := fun x => cell_blk (x.own.focB g2).blk rfl
        have y2_q : ∀ x : OwnW w (Old w * Blk g1 (.cells #[.string (str sc), .string (str au), .string (str pa), .string (str qu), .string (str fr), .bool bs, .bool true, .bool bq, .bool bf] 28) * Blk g2 (.cells #[.string (str sc2), .string (str au2), .string (str pa2), .string (str qu2), .string (str fr2), .bool false, .bool false, .bool bq2, .bool bf2] 28) * Blk g3 (.cells #[.string (str sc), .string (str au), .string (str (dotsF mg)), .string (str qu2), .string (str fr2), .bool bs, .bool true, .bool bq2, .bool bf2] 28) * Row 9 1 (.slice (some ⟨gp, 0, none⟩) (j + 1) cp) (j + 1) sv), x.w.cell? ⟨g2, 2, none⟩ = some (.string (str pa2)) := fun x => cell_blk (x.own.focB g2).blk rfl
        have y3_q : ∀ x : OwnW w (Old w * Blk g1 (.cells #[.string (str sc), .string (str au), .string (str pa), .string (str qu), .string (str fr), .bool bs, .bool true, .bool bq, .bool bf] 28) * Blk g2 (.cells #[.string (str sc2), .string (str au2), .string (str pa2), .string (str qu2), .string (str fr2), .bool false, .bool false, .bool bq2, .bool bf2] 28) * Blk g3 (.cells #[.string (str sc), .string (str au), .string (str (dotsF mg)), .string (str qu2), .string (str fr2), .bool bs, .bool true, .bool bq2, .bool bf2] 28) * Row 9 1 (.slice (some ⟨gp, 0, none⟩) (j + 1) cp) (j + 1) sv), x.w.cell? ⟨g2, 3, none⟩ = some (.string (str qu2)) := fun x => cell_blk (x.own.focB g2).blk rfl
        have y4_q : ∀ x : OwnW w (Old w * Blk g1 (.cells #[.string (str sc), .string (str au), .string (str pa), .string (str qu), .string (str fr), .bool bs, .bool true, .bool bq, .bool bf] 28) * Blk g2 (.cells #[.string (str sc2), .string (str au2), .string (str pa2), .string (str qu2), .string (str fr2), .bool false, .bool false, .bool bq2, .bool bf2] 28) * Blk g3 (.cells #[.string (str sc), .string (str au), .string (str (dotsF mg)), .string (str qu2), .string (str fr2), .bool bs, .bool true, .bool bq2, .bool bf2] 28) * Row 9 1 (.slice (some ⟨gp, 0, none⟩) (j + 1) cp) (j + 1) sv), x.w.cell? ⟨g2, 4, none⟩ = some (.string (str fr2)) := fun x => cell_blk (x.own.focB g2).blk rfl
        have y5_q : ∀ x : OwnW w (Old w * Blk g1 (.cells #[.string (str sc), .string (str au), .string (str pa), .string (str qu), .string (str fr), .bool bs, .bool true, .bool bq, .bool bf] 28) * Blk g2 (.cells #[.string (str sc2), .string (str au2), .string (str pa2), .string (str qu2), .string (str fr2), .bool false, .bool false, .bool bq2, .bool bf2] 28) * Blk g3 (.cells #[.string (str sc), .string (str au), .string (str (dotsF mg)), .string (str qu2), .string (str fr2), .bool bs, .bool true, .bool bq2, .bool bf2] 28) * Row 9 1 (.slice (some ⟨gp, 0, none⟩) (j + 1) cp) (j + 1) sv), x.w.cell? ⟨g2, 5, none⟩ = some (.bool false) := fun x => cell_blk (x.own.focB g2).blk rfl
        have y6_q : ∀ x : OwnW w (Old w * Blk g1 (.cells #[.string (str sc), .string (str au), .string (str pa), .string (str qu), .string (str fr), .bool bs, .bool true, .bool bq, .bool bf] 28) * Blk g2 (.cells #[.string (str sc2), .string (str au2), .string (str pa2), .string (str qu2), .string (str fr2), .bool false, .bool false, .bool bq2, .bool bf2] 28) * Blk g3 (.cells #[.string (str sc), .string (str au), .string (str (dotsF mg)), .string (str qu2), .string (str fr2), .bool bs, .bool true, .bool bq2, .bool bf2] 28) * Row 9 1 (.slice (some ⟨gp, 0, none⟩) (j + 1) cp) (j + 1) sv), x.w.cell? ⟨g2, 6, none⟩ = some (.bool false) := fun x => cell_blk (x.own.focB g2).blk rfl
        have y7_q : ∀ x : OwnW w (Old w * Blk g1 (.cells #[.string (str sc), .string (str au), .string (str pa), .string (str qu), .string (str fr), .bool bs, .bool true, .bool bq, .bool bf] 28) * Blk g2 (.cells #[.string (str sc2), .string (str au2), .string (str pa2), .string (str qu2), .string (str fr2), .bool false, .bool false, .bool bq2, .bool bf2] 28) * Blk g3 (.cells #[.string (str sc), .string (str au), .string (str (dotsF mg)), .string (str qu2), .string (str fr2), .bool bs, .bool true, .bool bq2, .bool bf2] 28) * Row 9 1 (.slice (some ⟨gp, 0, none⟩) (j + 1) cp) (j + 1) sv), x.w.cell? ⟨g2, 7, none⟩ = some (.bool bq2) := fun x => cell_blk (x.own.focB g2).blk rfl
        have y8_q : ∀ x : OwnW w (Old w * Blk g1 (.cells #[.string (str sc), .string (str au), .string (str pa), .string (str qu), .string (str fr), .bool bs, .bool true, .bool bq, .bool bf] 28) * Blk g2 (.cells #[.string (str sc2), .string (str au2), .string (str pa2), .string (str qu2), .string (str fr2), .bool false, .bool false, .bool bq2, .bool bf2] 28) * Blk g3 (.cells #[.string (str sc), .string (str au), .string (str (dotsF mg)), .string (str qu2), .string (str fr2), .bool bs, .bool true, .bool bq2, .bool bf2] 28) * Row 9 1 (.slice (some ⟨gp, 0, none⟩) (j + 1) cp) (j + 1) sv), x.w.cell? ⟨g2, 8, none⟩ = some (.bool bf2) := fun x => cell_blk (x.own.focB g2).blk rfl
        have z0_q : ∀ x : OwnW w (Old w * Blk g1 (.cells #[.string (str sc), .string (str au), .string (str pa), .string (str qu), .string (str fr), .bool bs, .bool true, .bool bq, .bool bf] 28) * Blk g2 (.cells #[.string (str sc2), .string (str au2), .string (str pa2), .string (str qu2), .string (str fr2), .bool false, .bool false, .bool bq2, .bool bf2] 28) * Blk g3 (.cells #[.string (str sc), .string (str au), .string (str (dotsF mg)), .string (str qu2), .string (str fr2), .bool bs, .bool true, .bool bq2, .bool bf2] 28) * Row 9 1 (.slice (some ⟨gp, 0, none⟩) (j + 1) cp) (j + 1) sv), x.w.cell? ⟨g3, 0, none⟩ = some (.string (str sc)) := fun x => cell_blk (x.own.focB g3).blk rfl
        have z1_q : ∀ x : OwnW w (Old w * Blk g1 (.cells #[.string (str sc), .string (str au), .string (str pa), .string (str qu), .string (str fr), .bool bs, .bool true, .bool bq, .bool bf] 28) * Blk g2 (.cells #[.string (str sc2), .string (str au2), .string (str pa2), .string (str qu2), .string (str fr2), .bool false, .bool false, .bool bq2, .bool bf2] 28) * Blk g3 (.cells #[.string (str sc), .string (str au), .string (str (dotsF mg)), .string (str qu2), .string (str fr2), .bool bs, .bool true, .bool bq2, .bool bf2] 28) * Row 9 1 (.slice (some ⟨gp, 0, none⟩) (j + 1) cp) (j + 1) sv), x.w.cell? ⟨g3, 1, none⟩ = some (.string (str au)) := fun x => cell_blk (x.own.focB g3).blk rfl
        have z2_q : ∀ x : OwnW w (Old w * Blk g1 (.cells #[.string (str sc), .string (str au), .string (str pa), .string (str qu), .string (str fr), .bool bs, .bool true, .bool bq, .bool bf] 28) * Blk g2 (.cells #[.string (str sc2), .string (str au2), .string (str pa2), .string (str qu2), .string (str fr2), .bool false, .bool false, .bool bq2, .bool bf2] 28) * Blk g3 (.cells #[.string (str sc), .string (str au), .string (str (dotsF mg)), .string (str qu2), .string (str fr2), .bool bs, .bool true, .bool bq2, .bool bf2] 28) * Row 9 1 (.slice (some ⟨gp, 0, none⟩) (j + 1) cp) (j + 1) sv), x.w.cell? ⟨g3, 2, none⟩ = some (.string (str (dotsF mg))) := fun x => cell_blk (x.own.focB g3).blk rfl
        have z3_q : ∀ x : OwnW w (Old w * Blk g1 (.cells #[.string (str sc), .string (str au), .string (str pa), .string (str qu), .string (str fr), .bool bs, .bool true, .bool bq, .bool bf] 28) * Blk g2 (.cells #[.string (str sc2), .string (str au2), .string (str pa2), .string (str qu2), .string (str fr2), .bool false, .bool false, .bool bq2, .bool bf2] 28) * Blk g3 (.cells #[.string (str sc), .string (str au), .string (str (dotsF mg)), .string (str qu2), .string (str fr2), .bool bs, .bool true, .bool bq2, .bool bf2] 28) * Row 9 1 (.slice (some ⟨gp, 0, none⟩) (j + 1) cp) (j + 1) sv), x.w.cell? ⟨g3, 3, none⟩ = some (.string (str qu2)) := fun x => cell_blk (x.own.focB g3).blk rfl
        have z4_q : ∀ x : OwnW w (Old w * Blk g1 (.cells #[.string (str sc), .string (str au), .string (str pa), .string (str qu), .string (str fr), .bool bs, .bool true, .bool bq, .bool bf] 28) * Blk g2 (.cells #[.string (str sc2), .string (str au2), .string (str pa2), .string (str qu2), .string (str fr2), .bool false, .bool false, .bool bq2, .bool bf2] 28) * Blk g3 (.cells #[.string (str sc), .string (str au), .string (str (dotsF mg)), .string (str qu2), .string (str fr2), .bool bs, .bool true, .bool bq2, .bool bf2] 28) * Row 9 1 (.slice (some ⟨gp, 0, none⟩) (j + 1) cp) (j + 1) sv), x.w.cell? ⟨g3, 4, none⟩ = some (.string (str fr2)) := fun x => cell_blk (x.own.focB g3).blk rfl
        have z5_q : ∀ x : OwnW w (Old w * Blk g1 (.cells #[.string (str sc), .string (str au), .string (str pa), .string (str qu), .string (str fr), .bool bs, .bool true, .bool bq, .bool bf] 28) * Blk g2 (.cells #[.string (str sc2), .string (str au2), .string (str pa2), .string (str qu2), .string (str fr2), .bool false, .bool false, .bool bq2, .bool bf2] 28) * Blk g3 (.cells #[.string (str sc), .string (str au), .string (str (dotsF mg)), .string (str qu2), .string (str fr2), .bool bs, .bool true, .bool bq2, .bool bf2] 28) * Row 9 1 (.slice (some ⟨gp, 0, none⟩) (j + 1) cp) (j + 1) sv), x.w.cell? ⟨g3, 5, none⟩ = some (.bool bs) := fun x => cell_blk (x.own.focB g3).blk rfl
        have z6_q : ∀ x : OwnW w (Old w * Blk g1 (.cells #[.string (str sc), .string (str au), .string (str pa), .string (str qu), .string (str fr), .bool bs, .bool true, .bool bq, .bool bf] 28) * Blk g2 (.cells #[.string (str sc2), .string (str au2), .string (str pa2), .string (str qu2), .string (str fr2), .bool false, .bool false, .bool bq2, .bool bf2] 28) * Blk g3 (.cells #[.string (str sc), .string (str au), .string (str (dotsF mg)), .string (str qu2), .string (str fr2), .bool bs, .bool true, .bool bq2, .bool bf2] 28) * Row 9 1 (.slice (some ⟨gp, 0, none⟩) (j + 1) cp) (j + 1) sv), x.w.cell? ⟨g3, 6, none⟩ = some (.bool true) := fun x => cell_blk (x.own.focB g3).blk rfl
        have z7_q : ∀ x : OwnW w (Old w * Blk g1 (.cells #[.string (str sc), .string (str au), .string (str pa), .string (str qu), .string (str fr), .bool bs, .bool true, .bool bq, .bool bf] 28) * Blk g2 (.cells #[.string (str sc2), .string (str au2), .string (str pa2), .string (str qu2), .string (str fr2), .bool false, .bool false, .bool bq2, .bool bf2] 28) * Blk g3 (.cells #[.string (str sc), .string (str au), .string (str (dotsF mg)), .string (str qu2), .string (str fr2), .bool bs, .bool true, .bool bq2, .bool bf2] 28) * Row 9 1 (.slice (some ⟨gp, 0, none⟩) (j + 1) cp) (j + 1) sv), x.w.cell? ⟨g3, 7, none⟩ = some (.bool bq2) := fun x => cell_blk (x.own.focB g3).blk rfl
        have z8_q : ∀ x : OwnW w (Old w * Blk g1 (.cells #[.string (str sc), .string (str au), .string (str pa), .string (str qu), .string (str fr), .bool bs, .bool true, .bool bq, .bool bf] 28) * Blk g2 (.cells #[.string (str sc2), .string (str au2), .string (str pa2), .string (str qu2), .string (str fr2), .bool false, .bool false, .bool bq2, .bool bf2] 28) * Blk g3 (.cells #[.string (str sc), .string (str au), .string (str (dotsF mg)), .string (str qu2), .string (str fr2), .bool bs, .bool true, .bool bq2, .bool bf2] 28) * Row 9 1 (.slice (some ⟨gp, 0, none⟩) (j + 1) cp) (j + 1) sv), x.w.cell? ⟨g3, 8, none⟩ = some (.bool bf2) := fun x => cell_blk (x.own.focB g3).blk rfl
        have HD := fun (x : OwnW w (Old w * Blk g1 (.cells #[.string (str sc), .string (str au), .string (str pa), .string (str qu), .string (str fr), .bool bs, .bool true, .bool bq, .bool bf] 28) * Blk g2 (.cells #[.string (str sc2), .string (str au2), .string (str pa2), .string (str qu2), .string (str fr2), .bool false, .bool false, .bool bq2, .bool bf2] 28) * Blk g3 (.cells #[.string (str sc), .string (str au), .string (str (dotsF mg)), .string (str qu2), .string (str fr2), .bool bs, .bool true, .bool bq2, .bool bf2] 28) * Row 9 1 (.slice (some ⟨gp, 0, none⟩) (j + 1) cp) (j + 1) sv)) => uri_Dots x.own (str mg) (by rw [str_size]; omega)
        simp only [str_data] at HD
        have HD := Kp.mk HD
        go_upto_region 38 with fail
        refine wp_region_own H8.out (by kernel_rfl) (by kernel_rfl) ?_
        repeat (go_big_quiet_step ((go_at_call 11; exact own_quiet_call (HD.out _))))
        refine wpQuiet_nil ?_
        rintro _ ⟨x, rfl⟩
        go_wp2
        go_ret
        exact ⟨rfl, x.own.drop.drop.drop.drop.old⟩
      · obtain ⟨rfl, hpe0, rfl⟩ := hcase
        have x0_wr := cell_blk (w := wr) (g := g1) (j := 0) (v := .string (str sc)) (H8.out.focB g1).blk rfl
        have x1_wr := cell_blk (w := wr) (g := g1) (j := 1) (v := .string (str au)) (H8.out.focB g1).blk rfl
        have x2_wr := cell_blk (w := wr) (g := g1) (j := 2) (v := .string (str pa)) (H8.out.focB g1).blk rfl
        have x3_wr := cell_blk (w := wr) (g := g1) (j := 3) (v := .string (str qu)) (H8.out.focB g1).blk rfl
        have x4_wr := cell_blk (w := wr) (g := g1) (j := 4) (v := .string (str fr)) (H8.out.focB g1).blk rfl
        have x5_wr := cell_blk (w := wr) (g := g1) (j := 5) (v := .bool bs) (H8.out.focB g1).blk rfl
        have x6_wr := cell_blk (w := wr) (g := g1) (j := 6) (v := .bool true) (H8.out.focB g1).blk rfl
        have x7_wr := cell_blk (w := wr) (g := g1) (j := 7) (v := .bool bq) (H8.out.focB g1).blk rfl
        have x8_wr := cell_blk (w := wr) (g := g1) (j := 8) (v := .bool bf) (H8.out.focB g1).blk rfl
        have y0_wr := cell_blk (w := wr) (g := g2) (j := 0) (v := .string (str sc2)) (H8.out.focB g2).blk rfl
        have y1_wr := cell_blk (w := wr) (g := g2) (j := 1) (v := .string (str au2)) (H8.out.focB g2).blk rfl
        have y2_wr := cell_blk (w := wr) (g := g2) (j := 2) (v := .string (str pa2)) (H8.out.focB g2).blk rfl
        have y3_wr := cell_blk (w := wr) (g := g2) (j := 3) (v := .string (str qu2)) (H8.out.focB g2).blk rfl
        have y4_wr := cell_blk (w := wr) (g := g2) (j := 4) (v := .string (str fr2)) (H8.out.focB g2).blk rfl
        have y5_wr := cell_blk (w := wr) (g := g2) (j := 5) (v := .bool false) (H8.out.focB g2).blk rfl
        have y6_wr := cell_blk (w := wr) (g := g2) (j := 6) (v := .bool false) (H8.out.focB g2).blk rfl
        have y7_wr := cell_blk (w := wr) (g := g2) (j := 7) (v := .bool bq2) (H8.out.focB g2).blk rfl
        have y8_wr := cell_blk (w := wr) (g := g2) (j := 8) (v := .bool bf2) (H8.out.focB g2).blk rfl
        have z0_wr := cell_blk (w := wr) (g := g3) (j := 0) (v := .string (str sc)) (H8.out.focB g3).blk rfl
        have z1_wr := cell_blk (w := wr) (g := g3) (j := 1) (v := .string (str au)) (H8.out.focB g3).blk rfl
        have z2_wr := cell_blk (w := wr) (g := g3) (j := 2) (v := .string (str (dotsF mg))) (H8.out.focB g3).blk rfl
        have z3_wr := cell_blk (w := wr) (g := g3) (j := 3) (v := .string (str qu2)) (H8.out.focB g3).blk rfl
        have z4_wr := cell_blk (w := wr) (g := g3) (j := 4) (v := .string (str fr2)) (H8.out.focB g3).blk rfl
        have z5_wr := cell_blk (w := wr) (g := g3) (j := 5) (v := .bool bs) (H8.out.focB g3).blk rfl
        have z6_wr := cell_blk (w := wr) (g := g3) (j := 6) (v := .bool true) (H8.out.focB g3).blk rfl
        have z7_wr := cell_blk (w := wr) (g := g3) (j := 7) (v := .bool bq2) (H8.out.focB g3).blk rfl
        have z8_wr := cell_blk (w := wr) (g := g3) (j := 8) (v := .bool bf2) (H8.out.focB g3).blk rfl
        haveI : Nonempty (OwnW w (Old w * Blk g1 (.cells #[.string (str sc), .string (str au), .string (str pa), .string (str qu), .string (str fr), .bool bs, .bool true, .bool bq, .bool bf] 28) * Blk g2 (.cells #[.string (str sc2), .string (str au2), .string (str pa2), .string (str qu2), .string (str fr2), .bool false, .bool false, .bool bq2, .bool bf2] 28) * Blk g3 (.cells #[.string (str sc), .string (str au), .string (str (dotsF mg)), .string (str qu2), .string (str fr2), .bool bs, .bool true, .bool bq2, .bool bf2] 28) * Row 9 1 (.slice (some ⟨gp, 0, none⟩) (j + 1) cp) (j + 1) sv)) := ⟨⟨_, H8.out⟩⟩
        have x0_q : ∀ x : OwnW w (Old w * Blk g1 (.cells #[.string (str sc), .string (str au), .string (str pa), .string (str qu), .string (str fr), .bool bs, .bool true, .bool bq, .bool bf] 28) * Blk g2 (.cells #[.string (str sc2), .string (str au2), .string (str pa2), .string (str qu2), .string (str fr2), .bool false, .bool false, .bool bq2, .bool bf2] 28) * Blk g3 (.cells #[.string (str sc), .string (str au), .string (str (dotsF mg)), .string (str qu2), .string (str fr2), .bool bs, .bool true, .bool bq2, .bool bf2] 28) * Row 9 1 (.slice (some ⟨gp, 0, none⟩) (j + 1) cp) (j + 1) sv), x.w.cell? ⟨g1, 0, none⟩ = some (.string (str sc)) := fun x => cell_blk (x.own.focB g1).blk rfl
        have x1_q : ∀ x : OwnW w (Old w * Blk g1 (.cells #[.string (str sc), .string (str au), .string (str pa), .string (str qu), .string (str fr), .bool bs, .bool true, .bool bq, .bool bf] 28) * Blk g2 (.cells #[.string (str sc2), .string (str au2), .string (str pa2), .string (str qu2), .string (str fr2), .bool false, .bool false, .bool bq2, .bool bf2] 28) * Blk g3 (.cells #[.string (str sc), .string (str au), .string (str (dotsF mg)), .string (str qu2), .string (str fr2), .bool bs, .bool true, .bool bq2, .bool bf2] 28) * Row 9 1 (.slice (some ⟨gp, 0, none⟩) (j + 1) cp) (j + 1) sv), x.w.cell? ⟨g1, 1, none⟩ = some (.string (str au)) := fun x => cell_blk (x.own.focB g1).blk rfl
        have x2_q : ∀ x : OwnW w (Old w * Blk g1 (.cells #[.string (str sc), .string (str au), .string (str pa), .string (str qu), .string (str fr), .bool bs, .bool true, .bool bq, .bool bf] 28) * Blk g2 (.cells #[.string (str sc2), .string (str au2), .string (str pa2), .string (str qu2), .string (str fr2), .bool false, .bool false, .bool bq2, .bool bf2] 28) * Blk g3 (.cells #[.string (str sc), .string (str au), .string (str (dotsF mg)), .string (str qu2), .string (str fr2), .bool bs, .bool true, .bool bq2, .bool bf2] 28) * Row 9 1 (.slice (some ⟨gp, 0, none⟩) (j + 1) cp) (j + 1) sv), x.w.cell? ⟨g1, 2, none⟩ = some (.string (str pa)) := fun x => cell_blk (x.own.focB g1).blk rfl
        have x3_q : ∀ x : OwnW w (Old w * Blk g1 (.cells #[.string (str sc), .string (str au), .string (str pa), .string (str qu), .string (str fr), .bool bs, .bool true, .bool bq, .bool bf] 28) * Blk g2 (.cells #[.string (str sc2), .string (str au2), .string (str pa2), .string (str qu2), .string (str fr2), .bool false, .bool false, .bool bq2, .bool bf2] 28) * Blk g3 (.cells #[.string (str sc), .string (str au), .string (str (dotsF mg)), .string (str qu2), .string (str fr2), .bool bs, .bool true, .bool bq2, .bool bf2] 28) * Row 9 1 (.slice (some ⟨gp, 0, none⟩) (j + 1) cp) (j + 1) sv), x.w.cell? ⟨g1, 3, none⟩ = some (.string (str qu)) := fun x => cell_blk (x.own.focB g1).blk rfl
        have x4_q : ∀ x : OwnW w (Old w * Blk g1 (.cells #[.string (str sc), .string (str au), .string (str pa), .string (str qu), .string (str fr), .bool bs, .bool true, .bool bq, .bool bf] 28) * Blk g2 (.cells #[.string (str sc2), .string (str au2), .string (str pa2), .string (str qu2), .string (str fr2), .bool false, .bool false, .bool bq2, .bool bf2] 28) * Blk g3 (.cells #[.string (str sc), .string (str au), .string (str (dotsF mg)), .string (str qu2), .string (str fr2), .bool bs, .bool true, .bool bq2, .bool bf2] 28) * Row 9 1 (.slice (some ⟨gp, 0, none⟩) (j + 1) cp) (j + 1) sv), x.w.cell? ⟨g1, 4, none⟩ = some (.string (str fr)) := fun x => cell_blk (x.own.focB g1).blk rfl
        have x5_q : ∀ x : OwnW w (Old w * Blk g1 (.cells #[.string (str sc), .string (str au), .string (str pa), .string (str qu), .string (str fr), .bool bs, .bool true, .bool bq, .bool bf] 28) * Blk g2 (.cells #[.string (str sc2), .string (str au2), .string (str pa2), .string (str qu2), .string (str fr2), .bool false, .bool false, .bool bq2, .bool bf2] 28) * Blk g3 (.cells #[.string (str sc), .string (str au), .string (str (dotsF mg)), .string (str qu2), .string (str fr2), .bool bs, .bool true, .bool bq2, .bool bf2] 28) * Row 9 1 (.slice (some ⟨gp, 0, none⟩) (j + 1) cp) (j + 1) sv), x.w.cell? ⟨g1, 5, none⟩ = some (.bool bs) := fun x => cell_blk (x.own.focB g1).blk rfl
        have x6_q : ∀ x : OwnW w (Old w * Blk g1 (.cells #[.string (str sc), .string (str au), .string (str pa), .string (str qu), .string (str fr), .bool bs, .bool true, .bool bq, .bool bf] 28) * Blk g2 (.cells #[.string (str sc2), .string (str au2), .string (str pa2), .string (str qu2), .string (str fr2), .bool false, .bool false, .bool bq2, .bool bf2] 28) * Blk g3 (.cells #[.string (str sc), .string (str au), .string (str (dotsF mg)), .string (str qu2), .string (str fr2), .bool bs, .bool true, .bool bq2, .bool bf2] 28) * Row 9 1 (.slice (some ⟨gp, 0, none⟩) (j + 1) cp) (j + 1) sv), x.w.cell? ⟨g1, 6, none⟩ = some (.bool true) := fun x => cell_blk (x.own.focB g1).blk rfl
        have x7_q : ∀ x : OwnW w (Old w * Blk g1 (.cells #[.string (str sc), .string (str au), .string (str pa), .string (str qu), .string (str fr), .bool bs, .bool true, .bool bq, .bool bf] 28) * Blk g2 (.cells #[.string (str sc2), .string (str au2), .string (str pa2), .string (str qu2), .string (str fr2), .bool false, .bool false, .bool bq2, .bool bf2] 28) * Blk g3 (.cells #[.string (str sc), .string (str au), .string (str (dotsF mg)), .string (str qu2), .string (str fr2), .bool bs, .bool true, .bool bq2, .bool bf2] 28) * Row 9 1 (.slice (some ⟨gp, 0, none⟩) (j + 1) cp) (j + 1) sv), x.w.cell? ⟨g1, 7, none⟩ = some (.bool bq) := fun x => cell_blk (x.own.focB g1).blk rfl
        have x8_q : ∀ x : OwnW w (Old w * Blk g1 (.cells #[.string (str sc), .string (str au), .string (str pa), .string (str qu), .string (str fr), .bool bs, .bool true, .bool bq, .bool bf] 28) * Blk g2 (.cells #[.string (str sc2), .string (str au2), .string (str pa2), .string (str qu2), .string (str fr2), .bool false, .bool false, .bool bq2, .bool bf2] 28) * Blk g3 (.cells #[.string (str sc), .string (str au), .string (str (dotsF mg)), .string (str qu2), .string (str fr2), .bool bs, .bool true, .bool bq2, .bool bf2] 28) * Row 9 1 (.slice (some ⟨gp, 0, none⟩) (j + 1) cp) (j + 1) sv), x.w.cell? ⟨g1, 8, none⟩ = some (.bool bf) := fun x => cell_blk (x.own.focB g1).blk rfl
        have y0_q : ∀ x : OwnW w (Old w * Blk g1 (.cells #[.string (str sc), .string (str au), .string (str pa), .string (str qu), .string (str fr), .bool bs, .bool true, .bool bq, .bool bf] 28) * Blk g2 (.cells #[.string (str sc2), .string (str au2), .string (str pa2), .string (str qu2), .string (str fr2), .bool false, .bool false, .bool bq2, .bool bf2] 28) * Blk g3 (.cells #[.string (str sc), .string (str au), .string (str (dotsF mg)), .string (str qu2), .string (str fr2), .bool bs, .bool true, .bool bq2, .bool bf2] 28) * Row 9 1 (.slice (some ⟨gp, 0, none⟩) (j + 1) cp) (j + 1) sv), x.w.cell? ⟨g2, 0, none⟩ = some (.string (str sc2)) := fun x => cell_blk (x.own.focB g2).blk rfl
        have y1_q : ∀ x : OwnW w (Old w * Blk g1 (.cells #[.string (str sc), .string (str au), .string (str pa), .string (str qu), .string (str fr), .bool bs, .bool true, .bool bq, .bool bf] 28) * Blk g2 (.cells #[.string (str sc2), .string (str au2), .string (str pa2), .string (str qu2), .string (str fr2), .bool false, .bool false, .bool bq2, .bool bf2] 28) * Blk g3 (.cells #[.string (str sc), .string (str au), .string (str (dotsF mg)), .string (str qu2), .string (str fr2), .bool bs, .bool true, .bool bq2, .bool bf2] 28) * Row 9 1 (.slice (some ⟨gp, 0, none⟩) (j + 1) cp) (j + 1) sv), x.w.cell? ⟨g2, 1, none⟩ = some (.string (str au2)) := fun x => cell_blk (x.own.focB g2).blk rfl
        have y2_q : ∀ x : OwnW w (Old w * Blk g1 (.cells #[.string (str sc), .string (str au), .string (str pa), .string (str qu), .string (str fr), .bool bs, .bool true, .bool bq, .bool bf] 28) * Blk g2 (.cells #[.string (str sc2), .string (str au2), .string (str pa2), .string (str qu2), .string (str fr2), .bool false, .bool false, .bool bq2, .bool bf2] 28) * Blk g3 (.cells #[.string (str sc), .string (str au), .string (str (dotsF mg)), .string (str qu2), .string (str fr2), .bool bs, .bool true, .bool bq2, .bool bf2] 28) * Row 9 1 (.slice (some ⟨gp, 0, none⟩) (j + 1) cp) (j + 1) sv), x.w.cell? ⟨g2, 2, none⟩ = some (.string (str pa2)) := fun x => cell_blk (x.own.focB g2).blk rfl
        have y3_q : ∀ x : OwnW w (Old w * Blk g1 (.cells #[.string (str sc), .string (str au), .string (str pa), .string (str qu), .string (str fr), .bool bs, .bool true, .bool bq, .bool bf] 28) * Blk g2 (.cells #[.string (str sc2), .string (str au2), .string (str pa2), .string (str qu2), .string (str fr2), .bool false, .bool false, .bool bq2, .bool bf2] 28) * Blk g3 (.cells #[.string (str sc), .string (str au), .string (str (dotsF mg)), .string (str qu2), .string (str fr2), .bool bs, .bool true, .bool bq2, .bool bf2] 28) * Row 9 1 (.slice (some ⟨gp, 0, none⟩) (j + 1) cp) (j + 1) sv), x.w.cell? ⟨g2, 3, none⟩ = some (.string (str qu2)) := fun x => cell_blk (x.own.focB g2).blk rfl
        have y4_q : ∀ x : OwnW w (Old w * Blk g1 (.cells #[.string (str sc), .string (str au), .string (str pa), .string (str qu), .string (str fr), .bool bs, .bool true, .bool bq, .bool bf] 28) * Blk g2 (.cells #[.string (str sc2), .string (str au2), .string (str pa2), .string (str qu2), .string (str fr2), .bool false, .bool false, .bool bq2, .bool bf2] 28) * Blk g3 (.cells #[.string (str sc), .string (str au), .string (str (dotsF mg)), .string (str qu2), .string (str fr2), .bool bs, .bool true, .bool bq2, .bool bf2] 28) * Row 9 1 (.slice (some ⟨gp, 0, none⟩) (j + 1) cp) (j + 1) sv), x.w.cell? ⟨g2, 4, none⟩ = some (.string (str fr2)) := fun x => cell_blk (x.own.focB g2).blk rfl
        have y5_q : ∀ x : OwnW w (Old w * Blk g1 (.cells #[.string (str sc), .string (str au), .string (str pa), .string (str qu), .string (str fr), .bool bs, .bool true, .bool bq, .bool bf] 28) * Blk g2 (.cells #[.string (str sc2), .string (str au2), .string (str pa2), .string (str qu2), .string (str fr2), .bool false, .bool false, .bool bq2, .bool bf2] 28) * Blk g3 (.cells #[.string (str sc), .string (str au), .string (str (dotsF mg)), .string (str qu2), .string (str fr2), .bool bs, .bool true, .bool bq2, .bool bf2] 28) * Row 9 1 (.slice (some ⟨gp, 0, none⟩) (j + 1) cp) (j + 1) sv), x.w.cell? ⟨g2, 5, none⟩ = some (.bool false) := fun x => cell_blk (x.own.focB g2).blk rfl
        have y6_q : ∀ x : OwnW w (Old w * Blk g1 (.cells #[.string (str sc), .string (str au), .string (str pa), .string (str qu), .string (str fr), .bool bs, .bool true, .bool bq, .bool bf] 28) * Blk g2 (.cells #[.string (str sc2), .string (str au2), .string (str pa2), .string (str qu2), .string (str fr2), .bool false, .bool false, .bool bq2, .bool bf2] 28) * Blk g3 (.cells #[.string (str sc), .string (str au), .string (str (dotsF mg)), .string (str qu2), .string (str fr2), .bool bs, .bool true, .bool bq2, .bool bf2] 28) * Row 9 1 (.slice (some ⟨gp, 0, none⟩) (j + 1) cp) (j + 1) sv), x.w.cell? ⟨g2, 6, none⟩ = some (.bool false) := fun x => cell_blk (x.own.focB g2).blk rfl
        have y7_q : ∀ x : OwnW w (Old w * Blk g1 (.cells #[.string (str sc), .string (str au), .string (str pa), .string (str qu), .string (str fr), .bool bs, .bool true, .bool bq, .bool bf] 28) * Blk g2 (.cells #[.string (str sc2), .string (str au2), .string (str pa2), .string (str qu2), .string (str fr2), .bool false, .bool false, .bool bq2, .bool bf2] 28) * Blk g3 (.cells #[.string (str sc), .string (str au), .string (str (dotsF mg)), .string (str qu2), .string (str fr2), .bool bs, .bool true, .bool bq2, .bool bf2] 28) * Row 9 1 (.slice (some ⟨gp, 0, none⟩) (j + 1) cp) (j + 1) sv), x.w.cell? ⟨g2, 7, none⟩ = some (.bool bq2) := fun x => cell_blk (x.own.focB g2).blk rfl
        have y8_q : ∀ x : OwnW w (Old w * Blk g1 (.cells #[.string (str sc), .string (str au), .string (str pa), .string (str qu), .string (str fr), .bool bs, .bool true, .bool bq, .bool bf] 28) * Blk g2 (.cells #[.string (str sc2), .string (str au2), .string (str pa2), .string (str qu2), .string (str fr2), .bool false, .bool false, .bool bq2, .bool bf2] 28) * Blk g3 (.cells #[.string (str sc), .string (str au), .string (str (dotsF mg)), .string (str qu2), .string (str fr2), .bool bs, .bool true, .bool bq2, .bool bf2] 28) * Row 9 1 (.slice (some ⟨gp, 0, none⟩) (j + 1) cp) (j + 1) sv), x.w.cell? ⟨g2, 8, none⟩ = some (.bool bf2) := fun x => cell_blk (x.own.focB g2).blk rfl
        have z0_q : ∀ x : OwnW w (Old w * Blk g1 (.cells #[.string (str sc), .string (str au), .string (str pa), .string (str qu), .string (str fr), .bool bs, .bool true, .bool bq, .bool bf] 28) * Blk g2 (.cells #[.string (str sc2), .string (str au2), .string (str pa2), .string (str qu2), .string (str fr2), .bool false, .bool false, .bool bq2, .bool bf2] 28) * Blk g3 (.cells #[.string (str sc), .string (str au), .string (str (dotsF mg)), .string (str qu2), .string (str fr2), .bool bs, .bool true, .bool bq2, .bool bf2] 28) * Row 9 1 (.slice (some ⟨gp, 0, none⟩) (j + 1) cp) (j + 1) sv), x.w.cell? ⟨g3, 0, none⟩ = some (.string (str sc)) := fun x => cell_blk (x.own.focB g3).blk rfl
        have z1_q : ∀ x : OwnW w (Old w * Blk g1 (.cells #[.string (str sc), .string (str au), .string (str pa), .string (str qu), .string (str fr), .bool bs, .bool true, .bool bq, .bool bf] 28) * Blk g2 (.cells #[.string (str sc2), .string (str au2), .string (str pa2), .string (str qu2), .string (str fr2), .bool false, .bool false, .bool bq2, .bool bf2] 28) * Blk g3 (.cells #[.string (str sc), .string (str au), .string (str (dotsF mg)), .string (str qu2), .string (str fr2), .bool bs, .bool true, .bool bq2, .bool bf2] 28) * Row 9 1 (.slice (some ⟨gp, 0, none⟩) (j + 1) cp) (j + 1) sv), x.w.cell? ⟨g3, 1, none⟩ = some (.string (str au)) := fun x => cell_blk (x.own.focB g3).blk rfl
        have z2_q : ∀ x : OwnW w (Old w * Blk g1 (.cells #[.string (str sc), .string (str au), .string (str pa), .string (str qu), .string (str fr), .bool bs, .bool true, .bool bq, .bool bf] 28) * Blk g2 (.cells #[.string (str sc2), .string (str au2), .string (str pa2), .string (str qu2), .string (str fr2), .bool false, .bool false, .bool bq2, .bool bf2] 28) * Blk g3 (.cells #[.string (str sc), .string (str au), .string (str (dotsF mg)), .string (str qu2), .string (str fr2), .bool bs, .bool true, .bool bq2, .bool bf2] 28) * Row 9 1 (.slice (some ⟨gp, 0, none⟩) (j + 1) cp) (j + 1) sv), x.w.cell? ⟨g3, 2, none⟩ = some (.string (str (dotsF mg))) := fun x => cell_blk (x.own.focB g3).blk rfl
        have z3_q : ∀ x : OwnW w (Old w * Blk g1 (.cells #[.string (str sc), .string (str au), .string (str pa), .string (str qu), .string (str fr), .bool bs, .bool true, .bool bq, .bool bf] 28) * Blk g2 (.cells #[.string (str sc2), .string (str au2), .string (str pa2), .string (str qu2), .string (str fr2), .bool false, .bool false, .bool bq2, .bool bf2] 28) * Blk g3 (.cells #[.string (str sc), .string (str au), .string (str (dotsF mg)), .string (str qu2), .string (str fr2), .bool bs, .bool true, .bool bq2, .bool bf2] 28) * Row 9 1 (.slice (some ⟨gp, 0, none⟩) (j + 1) cp) (j + 1) sv), x.w.cell? ⟨g3, 3, none⟩ = some (.string (str qu2)) := fun x => cell_blk (x.own.focB g3).blk rfl
        have z4_q : ∀ x : OwnW w (Old w * Blk g1 (.cells #[.string (str sc), .string (str au), .string (str pa), .string (str qu), .string (str fr), .bool bs, .bool true, .bool bq, .bool bf] 28) * Blk g2 (.cells #[.string (str sc2), .string (str au2), .string (str pa2), .string (str qu2), .string (str fr2), .bool false, .bool false, .bool bq2, .bool bf2] 28) * Blk g3 (.cells #[.string (str sc), .string (str au), .string (str (dotsF mg)), .string (str qu2), .string (str fr2), .bool bs, .bool true, .bool bq2, .bool bf2] 28) * Row 9 1 (.slice (some ⟨gp, 0, none⟩) (j + 1) cp) (j + 1) sv), x.w.cell? ⟨g3, 4, none⟩ = some (.string (str fr2)) := fun x => cell_blk (x.own.focB g3).blk rfl
        have z5_q : ∀ x : OwnW w (Old w * Blk g1 (.cells #[.string (str sc), .string (str au), .string (str pa), .string (str qu), .string (str fr), .bool bs, .bool true, .bool bq, .bool bf] 28) * Blk g2 (.cells #[.string (str sc2), .string (str au2), .string (str pa2), .string (str qu2), .string (str fr2), .bool false, .bool false, .bool bq2, .bool bf2] 28) * Blk g3 (.cells #[.string (str sc), .string (str au), .string (str (dotsF mg)), .string (str qu2), .string (str fr2), .bool bs, .bool true, .bool bq2, .bool bf2] 28) * Row 9 1 (.slice (some ⟨gp, 0, none⟩) (j + 1) cp) (j + 1) sv), x.w.cell? ⟨g3, 5, none⟩ = some (.bool bs) := fun x => cell_blk (x.own.focB g3).blk rfl
        have z6_q : ∀ x : OwnW w (Old w * Blk g1 (.cells #[.string (str sc), .string (str au), .string (str pa), .string (str qu), .string (str fr), .bool bs, .bool true, .bool bq, .bool bf] 28) * Blk g2 (.cells #[.string (str sc2), .string (str au2), .string (str pa2), .string (str qu2), .string (str fr2), .bool false, .bool false, .bool bq2, .bool bf2] 28) * Blk g3 (.cells #[.string (str sc), .string (str au), .string (str (dotsF mg)), .string (str qu2), .string (str fr2), .bool bs, .bool true, .bool bq2, .bool bf2] 28) * Row 9 1 (.slice (some ⟨gp, 0, none⟩) (j + 1) cp) (j + 1) sv), x.w.cell? ⟨g3, 6, none⟩ = some (.bool true) := fun x => cell_blk (x.own.focB g3).blk rfl
        have z7_q : ∀ x : OwnW w (Old w * Blk g1 (.cells #[.string (str sc), .string (str au), .string (str pa), .string (str qu), .string (str fr), .bool bs, .bool true, .bool bq, .bool bf] 28) * Blk g2 (.cells #[.string (str sc2), .string (str au2), .string (str pa2), .string (str qu2), .string (str fr2), .bool false, .bool false, .bool bq2, .bool bf2] 28) * Blk g3 (.cells #[.string (str sc), .string (str au), .string (str (dotsF mg)), .string (str qu2), .string (str fr2), .bool bs, .bool true, .bool bq2, .bool bf2] 28) * Row 9 1 (.slice (some ⟨gp, 0, none⟩) (j + 1) cp) (j + 1) sv), x.w.cell? ⟨g3, 7, none⟩ = some (.bool bq2) := fun x => cell_blk (x.own.focB g3).blk rfl
        have z8_q : ∀ x : OwnW w (Old w * Blk g1 (.cells #[.string (str sc), .string (str au), .string (str pa), .string (str qu), .string (str fr), .bool bs, .bool true, .bool bq, .bool bf] 28) * Blk g2 (.cells #[.string (str sc2), .string (str au2), .string (str pa2), .string (str qu2), .string (str fr2), .bool false, .bool false, .bool bq2, .bool bf2] 28) * Blk g3 (.cells #[.string (str sc), .string (str au), .string (str (dotsF mg)), .string (str qu2), .string (str fr2), .bool bs, .bool true, .bool bq2, .bool bf2] 28) * Row 9 1 (.slice (some ⟨gp, 0, none⟩) (j + 1) cp) (j + 1) sv), x.w.cell? ⟨g3, 8, none⟩ = some (.bool bf2) := fun x => cell_blk (x.own.focB g3).blk rfl
        have HD := fun (x : OwnW w (Old w * Blk g1 (.cells #[.string (str sc), .string (str au), .string (str pa), .string (str qu), .string (str fr), .bool bs, .bool true, .bool bq, .bool bf] 28) * Blk g2 (.cells #[.string (str sc2), .string (str au2), .string (str pa2), .string (str qu2), .string (str fr2), .bool false, .bool false, .bool bq2, .bool bf2] 28) * Blk g3 (.cells #[.string (str sc), .string (str au), .string (str (dotsF mg)), .string (str qu2), .string (str fr2), .bool bs, .bool true, .bool bq2, .bool bf2] 28) * Row 9 1 (.slice (some ⟨gp, 0, none⟩) (j + 1) cp) (j + 1) sv)) => uri_Dots x.own (str mg) (by rw [str_size]; omega)
        simp only [str_data] at HD
        have HD := Kp.mk HD
        go_upto_region 38 with fail
        refine wp_region_own H8.out (by kernel_rfl) (by kernel_rfl) ?_
        repeat (go_big_quiet_step ((go_at_call 11; exact own_quiet_call (HD.out _))))
        refine wpQuiet_nil ?_
        rintro _ ⟨x, rfl⟩
        go_wp2
        go_ret
        exact ⟨rfl, x.own.drop.drop.drop.drop.old⟩
      · obtain ⟨rfl, rfl⟩ := hcase
        have x0_wr := cell_blk (w := wr) (g := g1) (j := 0) (v := .string (str sc)) (H8.out.focB g1).blk rfl
        have x1_wr := cell_blk (w := wr) (g := g1) (j := 1) (v := .string (str au)) (H8.out.focB g1).blk rfl
        have x2_wr := cell_blk (w := wr) (g := g1) (j := 2) (v := .string (str pa)) (H8.out.focB g1).blk rfl
        have x3_wr := cell_blk (w := wr) (g := g1) (j := 3) (v := .string (str qu)) (H8.out.focB g1).blk rfl
        have x4_wr := cell_blk (w := wr) (g := g1) (j := 4) (v := .string (str fr)) (H8.out.focB g1).blk rfl
        have x5_wr := cell_blk (w := wr) (g := g1) (j := 5) (v := .bool bs) (H8.out.focB g1).blk rfl
        have x6_wr := cell_blk (w := wr) (g := g1) (j := 6) (v := .bool false) (H8.out.focB g1).blk rfl
        have x7_wr := cell_blk (w := wr) (g := g1) (j := 7) (v := .bool bq) (H8.out.focB g1).blk rfl
        have x8_wr := cell_blk (w := wr) (g := g1) (j := 8) (v := .bool bf) (H8.out.focB g1).blk rfl
        have y0_wr := cell_blk (w := wr) (g := g2) (j := 0) (v := .string (str sc2)) (H8.out.focB g2).blk rfl
        have y1_wr := cell_blk (w := wr) (g := g2) (j := 1) (v := .string (str au2)) (H8.out.focB g2).blk rfl
        have y2_wr := cell_blk (w := wr) (g := g2) (j := 2) (v := .string (str pa2)) (H8.out.focB g2).blk rfl
        have y3_wr := cell_blk (w := wr) (g := g2) (j := 3) (v := .string (str qu2)) (H8.out.focB g2).blk rfl
        have y4_wr := cell_blk (w := wr) (g := g2) (j := 4) (v := .string (str fr2)) (H8.out.focB g2).blk rfl
        have y5_wr := cell_blk (w := wr) (g := g2) (j := 5) (v := .bool false) (H8.out.focB g2).blk rfl
        have y6_wr := cell_blk (w := wr) (g := g2) (j := 6) (v := .bool false) (H8.out.focB g2).blk rfl
        have y7_wr := cell_blk (w := wr) (g := g2) (j := 7) (v := .bool bq2) (H8.out.focB g2).blk rfl
        have y8_wr := cell_blk (w := wr) (g := g2) (j := 8) (v := .bool bf2) (H8.out.focB g2).blk rfl
        have z0_wr := cell_blk (w := wr) (g := g3) (j := 0) (v := .string (str sc)) (H8.out.focB g3).blk rfl
        have z1_wr := cell_blk (w := wr) (g := g3) (j := 1) (v := .string (str au)) (H8.out.focB g3).blk rfl
        have z2_wr := cell_blk (w := wr) (g := g3) (j := 2) (v := .string (str (dotsF mg))) (H8.out.focB g3).blk rfl
        have z3_wr := cell_blk (w := wr) (g := g3) (j := 3) (v := .string (str qu2)) (H8.out.focB g3).blk rfl
        have z4_wr := cell_blk (w := wr) (g := g3) (j := 4) (v := .string (str fr2)) (H8.out.focB g3).blk rfl
        have z5_wr := cell_blk (w := wr) (g := g3) (j := 5) (v := .bool bs) (H8.out.focB g3).blk rfl
        have z6_wr := cell_blk (w := wr) (g := g3) (j := 6) (v := .bool false) (H8.out.focB g3).blk rfl
        have z7_wr := cell_blk (w := wr) (g := g3) (j := 7) (v := .bool bq2) (H8.out.focB g3).blk rfl
        have z8_wr := cell_blk (w := wr) (g := g3) (j := 8) (v := .bool bf2) (H8.out.focB g3).blk rfl
        haveI : Nonempty (OwnW w (Old w * Blk g1 (.cells #[.string (str sc), .string (str au), .string (str pa), .string (str qu), .string (str fr), .bool bs, .bool false, .bool bq, .bool bf] 28) * Blk g2 (.cells #[.string (str sc2), .string (str au2), .string (str pa2), .string (str qu2), .string (str fr2), .bool false, .bool false, .bool bq2, .bool bf2] 28) * Blk g3 (.cells #[.string (str sc), .string (str au), .string (str (dotsF mg)), .string (str qu2), .string (str fr2), .bool bs, .bool false, .bool bq2, .bool bf2] 28) * Row 9 1 (.slice (some ⟨gp, 0, none⟩) (j + 1) cp) (j + 1) sv)) := ⟨⟨_, H8.out⟩⟩
        have x0_q : ∀ x : OwnW w (Old w * Blk g1 (.cells #[.string (str sc), .string (str au), .string (str pa), .string (str qu), .string (str fr), .bool bs, .bool false, .bool bq, .bool bf] 28) * Blk g2 (.cells #[.string (str sc2), .string (str au2), .string (str pa2), .string (str qu2), .string (str fr2), .bool false, .bool false, .bool bq2, .bool bf2] 28) * Blk g3 (.cells #[.string (str sc), .string (str au), .string (str (dotsF mg)), .string (str qu2), .string (str fr2), .bool bs, .bool false, .bool bq2, .bool bf2] 28) * Row 9 1 (.slice (some ⟨gp, 0, none⟩) (j + 1) cp) (j + 1) sv), x.w.cell? ⟨g1, 0, none⟩ = some (.string (str sc)) := fun x => cell_blk (x.own.focB g1).blk rfl
        have x1_q : ∀ x : OwnW w (Old w * Blk g1 (.cells #[.string (str sc), .string (str au), .string (str pa), .string (str qu), .string (str fr), .bool bs, .bool false, .bool bq, .bool bf] 28) * Blk g2 (.cells #[.string (str sc2), .string (str au2), .string (str pa2), .string (str qu2), .string (str fr2), .bool false, .bool false, .bool bq2, .bool bf2] 28) * Blk g3 (.cells #[.string (str sc), .string (str au), .string (str (dotsF mg)), .string (str qu2), .string (str fr2), .bool bs, .bool false, .bool bq2, .bool bf2] 28) * Row 9 1 (.slice (some ⟨gp, 0, none⟩) (j + 1) cp) (j + 1) sv), x.w.cell? ⟨g1, 1, none⟩ = some (.string (str au)) := fun x => cell_blk (x.own.focB g1).blk rfl
        have x2_q : ∀ x : OwnW w (Old w * Blk g1 (.cells #[.string (str sc), .string (str au), .string (str pa), .string (str qu), .string (str fr), .bool bs, .bool false, .bool bq, .bool bf] 28) * Blk g2 (.cells #[.string (str sc2), .string (str au2), .string (str pa2), .string (str qu2), .string (str fr2), .bool false, .bool false, .bool bq2, .bool bf2] 28) * Blk g3 (.cells #[.string (str sc), .string (str au), .string (str (dotsF mg)), .string (str qu2), .string (str fr2), .bool bs, .bool false, .bool bq2, .bool bf2] 28) * Row 9 1 (.slice (some ⟨gp, 0, none⟩) (j + 1) cp) (j + 1) sv), x.w.cell? ⟨g1, 2, none⟩ = some (.string (str pa)) := fun x => cell_blk (x.own.focB g1).blk rfl
        have x3_q : ∀ x : OwnW w (Old w * Blk g1 (.cells #[.string (str sc), .string (str au), .string (str pa), .string (str qu), .string (str fr), .bool bs, .bool false, .bool bq, .bool bf] 28) * Blk g2 (.cells #[.string (str sc2), .string (str au2), .string (str pa2), .string (str qu2), .string (str fr2), .bool false, .bool false, .bool bq2, .bool bf2] 28) * Blk g3 (.cells #[.string (str sc), .string (str au), .string (str (dotsF mg)), .string (str qu2), .string (str fr2), .bool bs, .bool false, .bool bq2, .bool bf2] 28) * Row 9 1 (.slice (some ⟨gp, 0, none⟩) (j + 1) cp) (j + 1) sv), x.w.cell? ⟨g1, 3, none⟩ = some (.string (str qu)) := fun x => cell_blk (x.own.focB g1).blk rfl
        have x4_q : ∀ x : OwnW w (Old w * Blk g1 (.cells #[.string (str sc), .string (str au), .string (str pa), .string (str qu), .string (str fr), .bool bs, .bool false, .bool bq, .bool bf] 28) * Blk g2 (.cells #[.string (str sc2), .string (str au2), .string (str pa2), .string (str qu2), .string (str fr2), .bool false, .bool false, .bool bq2, .bool bf2] 28) * Blk g3 (.cells #[.string (str sc), .string (str au), .string (str (dotsF mg)), .string (str qu2), .string (str fr2), .bool bs, .bool false, .bool bq2, .bool bf2] 28) * Row 9 1 (.slice (some ⟨gp, 0, none⟩) (j + 1) cp) (j + 1) sv), x.w.cell? ⟨g1, 4, none⟩ = some (.string (str fr)) := fun x => cell_blk (x.own.focB g1).blk rfl
        have x5_q : ∀ x : OwnW w (Old w * Blk g1 (.cells #[.string (str sc), .string (str au), .string (str pa), .string (str qu), .string (str fr), .bool bs, .bool false, .bool bq, .bool bf] 28) * Blk g2 (.cells #[.string (str sc2), .string (str au2), .string (str pa2), .string (str qu2), .string (str fr2), .bool false, .bool false, .bool bq2, .bool bf2] 28) * Blk g3 (.cells #[.string (str sc), .string (str au), .string (str (dotsF mg)), .string (str qu2), .string (str fr2), .bool bs, .bool false, .bool bq2, .bool bf2] 28) * Row 9 1 (.slice (some ⟨gp, 0, none⟩) (j + 1) cp) (j + 1) sv), x.w.cell? ⟨g1, 5, none⟩ = some (.bool bs) := fun x => cell_blk (x.own.focB g1).blk rfl
        have x6_q : ∀ x : OwnW w (Old w * Blk g1 (.cells #[.string (str sc), .string (str au), .string (str pa), .string (str qu), .string (str fr), .bool bs, .bool false, .bool bq, .bool bf] 28) * Blk g2 (.cells #[.string (str sc2), .string (str au2), .string (str pa2), .string (str qu2), .string (str fr2), .bool false, .bool false, .bool bq2, .bool bf2] 28) * Blk g3 (.cells #[.string (str sc), .string (str au), .string (str (dotsF mg)), .string (str qu2), .string (str fr2), .bool bs, .bool false, .bool bq2, .bool bf2] 28) * Row 9 1 (.slice (some ⟨gp, 0, none⟩) (j + 1) cp) (j + 1) sv), x.w.cell? ⟨g1, 6, none⟩ = some (.bool false) := fun x => cell_blk (x.own.focB g1).blk rfl
        have x7_q : ∀ x : OwnW w (Old w * Blk g1 (.cells #[.string (str sc), .string (str au), .string (str pa), .string (str qu), .string (str fr), .bool bs, .bool false, .bool bq, .bool bf] 28) * Blk g2 (.cells #[.string (str sc2), .string (str au2), .string (str pa2), .string (str qu2), .string (str fr2), .bool false, .bool false, .bool bq2, .bool bf2] 28) * Blk g3 (.cells #[.string (str sc), .string (str au), .string (str (dotsF mg)), .string (str qu2), .string (str fr2), .bool bs, .bool false, .bool bq2, .bool bf2] 28) * Row 9 1 (.slice (some ⟨gp, 0, none⟩) (j + 1) cp) (j + 1) sv), x.w.cell? ⟨g1, 7, none⟩ = some (.bool bq) := fun x => cell_blk (x.own.focB g1).blk rfl
        have x8_q : ∀ x : OwnW w (Old w * Blk g1 (.cells #[.string (str sc), .string (str au), .string (str pa), .string (str qu), .string (str fr), .bool bs, .bool false, .bool bq, .bool bf] 28) * Blk g2 (.cells #[.string (str sc2), .string (str au2), .string (str pa2), .string (str qu2), .string (str fr2), .bool false, .bool false, .bool bq2, .bool bf2] 28) * Blk g3 (.cells #[.string (str sc), .string (str au), .string (str (dotsF mg)), .string (str qu2), .string (str fr2), .bool bs, .bool false, .bool bq2, .bool bf2] 28) * Row 9 1 (.slice (some ⟨gp, 0, none⟩) (j + 1) cp) (j + 1) sv), x.w.cell? ⟨g1, 8, none⟩ = some (.bool bf) := fun x => cell_blk (x.own.focB g1).blk rfl
        have y0_q : ∀ x : OwnW w (Old w * Blk g1 (.cells #[.string (str sc), .string (str au), .string (str pa), .string (str qu), .string (str fr), .bool bs, .bool false, .bool bq, .bool bf] 28) * Blk g2 (.cells #[.string (str sc2), .string (str au2), .string (str pa2), .string (str qu2), .string (str fr2), .bool false, .bool false, .bool bq2, .bool bf2] 28) * Blk g3 (.cells #[.string (str sc), .string (str au), .string (str (dotsF mg)), .string (str qu2), .string (str fr2), .bool bs, .bool false, .bool bq2, .bool bf2] 28) * Row 9 1 (.slice (some ⟨gp, 0, none⟩) (j + 1) cp) (j + 1) sv), x.w.cell? ⟨g2, 0, none⟩ = some (.string (str sc2)) := fun x => cell_blk (x.own.focB g2).blk rfl
        have y1_q : ∀ x : OwnW w (Old w * Blk g1 (.cells #[.string (str sc), .string (str au), .string (str pa), .string (str qu), .string (str fr), .bool bs, .bool false, .bool bq, .bool bf] 28) * Blk g2 (.cells #[.string (str sc2), .string (str au2), .string (str pa2), .string (str qu2), .string (str fr2), .bool false, .bool false, .bool bq2, .bool bf2] 28) * Blk g3 (.cells #[.string (str sc), .string (str au), .string (str (dotsF mg)), .string (str qu2), .string (str fr2), .bool bs, .bool false, .bool bq2, .bool bf2] 28) * Row 9 1 (.slice (some ⟨gp, 0, none⟩) (j + 1) cp) (j + 1) sv), x.w.cell? ⟨g2, 1, none⟩ = some (.string (str au2)) := fun x => cell_blk (x.own.focB g2).blk rfl
        have y2_q : ∀ x : OwnW w (Old w * Blk g1 (.cells #[.string (str sc), .string (str au), .string (str pa), .string (str qu), .string (str fr), .bool bs, .bool false, .bool bq, .bool bf] 28) * Blk g2 (.cells #[.string (str sc2), .string (str au2), .string (str pa2), .string (str qu2), .string (str fr2), .bool false, .bool false, .bool bq2, .bool bf2] 28) * Blk g3 (.cells #[.string (str sc), .string (str au), .string (str (dotsF mg)), .string (str qu2), .string (str fr2), .bool bs, .bool false, .bool bq2, .bool bf2] 28) * Row 9 1 (.slice (some ⟨gp, 0, none⟩) (j + 1) cp) (j + 1) sv), x.w.cell? ⟨g2, 2, none⟩ = some (.string (str pa2)) := fun x => cell_blk (x.own.focB g2).blk rfl
        have y3_q : ∀ x : OwnW w (Old w * Blk g1 (.cells #[.string (str sc), .string (str au), .string (str pa), .string (str qu), .string (str fr), .bool bs, .bool false, .bool bq, .bool bf] 28) * Blk g2 (.cells #[.string (str sc2), .string (str au2), .string (str pa2), .string (str qu2), .string (str fr2), .bool false, .bool false, .bool bq2, .bool bf2] 28) * Blk g3 (.cells #[.string (str sc), .string (str au), .string (str (dotsF mg)), .string (str qu2), .string (str fr2), .bool bs, .bool false, .bool bq2, .bool bf2] 28) * Row 9 1 (.slice (some ⟨gp, 0, none⟩) (j + 1) cp) (j + 1) sv), x.w.cell? ⟨g2, 3, none⟩ = some (.string (str qu2)) := fun x => cell_blk (x.own.focB g2).blk rfl
        have y4_q : ∀ x : OwnW w (Old w * Blk g1 (.cells #[.string (str sc), .string (str au), .string (str pa), .string (str qu), .string (str fr), .bool bs, .bool false, .bool bq, .bool bf] 28) * Blk g2 (.cells #[.string (str sc2), .string (str au2), .string (str pa2), .string (str qu2), .string (str fr2), .bool false, .bool false, .bool bq2, .bool bf2] 28) * Blk g3 (.cells #[.string (str sc), .string (str au), .string (str (dotsF mg)), .string (str qu2), .string (str fr2), .bool bs, .bool false, .bool bq2, .bool bf2] 28) * Row 9 1 (.slice (some ⟨gp, 0, none⟩) (j + 1) cp) (j + 1) sv), x.w.cell? ⟨g2, 4, none⟩ = some (.string (str fr2)) := fun x => cell_blk (x.own.focB g2).blk rfl
        have y5_q : ∀ x : OwnW w (Old w * Blk g1 (.cells #[.string (str sc), .string (str au), .string (str pa), .string (str qu), .string (str fr), .bool bs, .bool false, .bool bq, .bool bf] 28) * Blk g2 (.cells #[.string (str sc2), .string (str au2), .string (str pa2), .string (str qu2), .string (str fr2), .bool false, .bool false, .bool bq2, .bool bf2] 28) * Blk g3 (.cells #[.string (str sc), .string (str au), .string (str (dotsF mg)), .string (str qu2), .string (str fr2), .bool bs, .bool false, .bool bq2, .bool bf2] 28) * Row 9 1 (.slice (some ⟨gp, 0, none⟩) (j + 1) cp) (j + 1) sv), x.w.cell? ⟨g2, 5, none⟩ = some (.bool false) := fun x => cell_blk (x.own.focB g2).blk rfl
        have y6_q : ∀ x : OwnW w (Old w * Blk g1 (.cells #[.string (str sc), .string (str au), .string (str pa), .string (str qu), .string (str fr), .bool bs, .bool false, .bool bq, .bool bf] 28) * Blk g2 (.cells #[.string (str sc2), .string (str au2), .string (str pa2), .string (str qu2), .string (str fr2), .bool false, .bool false, .bool bq2, .bool bf2] 28) * Blk g3 (.cells #[.string (str sc), .string (str au), .string (str (dotsF mg)), .string (str qu2), .string (str fr2), .bool bs, .bool false, .bool bq2, .bool bf2] 28) * Row 9 1 (.slice (some ⟨gp, 0, none⟩) (j + 1) cp) (j + 1) sv), x.w.cell? ⟨g2, 6, none⟩ = some (.bool false) := fun x => cell_blk (x.own.focB g2).blk rfl
        have y7_q : ∀ x : OwnW w (Old w * Blk g1 (.cells #[.string (str sc), .string (str au), .string (str pa), .string (str qu), .string (str fr), .bool bs, .bool false, .bool bq, .bool bf] 28) * Blk g2 (.cells #[.string (str sc2), .string (str au2), .string (str pa2), .string (str qu2), .string (str fr2), .bool false, .bool false, .bool bq2, .bool bf2] 28) * Blk g3 (.cells #[.string (str sc), .string (str au), .string (str (dotsF mg)), .string (str qu2), .string (str fr2), .bool bs, .bool false, .bool bq2, .bool bf2] 28) * Row 9 1 (.slice (some ⟨gp, 0, none⟩) (j + 1) cp) (j + 1) sv), x.w.cell? ⟨g2, 7, none⟩ = some (.bool bq2) := fun x => cell_blk (x.own.focB g2).blk rfl
        have y8_q : ∀ x : OwnW w (Old w * Blk g1 (.cells #[.string (str sc), .string (str au), .string (str pa), .string (str qu), .string (str fr), .bool bs, .bool false, .bool bq, .bool bf] 28) * Blk g2 (.cells #[.string (str sc2), .string (str au2), .string (str pa2), .string (str qu2), .string (str fr2), .bool false, .bool false, .bool bq2, .bool bf2] 28) * Blk g3 (.cells #[.string (str sc), .string (str au), .string (str (dotsF mg)), .string (str qu2), .string (str fr2), .bool bs, .bool false, .bool bq2, .bool bf2] 28) * Row 9 1 (.slice (some ⟨gp, 0, none⟩) (j + 1) cp) (j + 1) sv), x.w.cell? ⟨g2, 8, none⟩ = some (.bool bf2) := fun x => cell_blk (x.own.focB g2).blk rfl
        have z0_q : ∀ x : OwnW w (Old w * Blk g1 (.cells #[.string (str sc), .string (str au), .string (str pa), .string (str qu), .string (str fr), .bool bs, .bool false, .bool bq, .bool bf] 28) * Blk g2 (.cells #[.string (str sc2), .string (str au2), .string (str pa2), .string (str qu2), .string (str fr2), .bool false, .bool false, .bool bq2, .bool bf2] 28) * Blk g3 (.cells #[.string (str sc), .string (str au), .string (str (dotsF mg)), .string (str qu2), .string (str fr2), .bool bs, .bool false, .bool bq2, .bool bf2] 28) * Row 9 1 (.slice (some ⟨gp, 0, none⟩) (j + 1) cp) (j + 1) sv), x.w.cell? ⟨g3, 0, none⟩ = some (.string (str sc)) := fun x => cell_blk (x.own.focB g3).blk rfl
        have z1_q : ∀ x : OwnW w (Old w * Blk g1 (.cells #[.string (str sc), .string (str au), .string (str pa), .string (str qu), .string (str fr), .bool bs, .bool false, .bool bq, .bool bf] 28) * Blk g2 (.cells #[.string (str sc2), .string (str au2), .string (str pa2), .string (str qu2), .string (str fr2), .bool false, .bool false, .bool bq2, .bool bf2] 28) * Blk g3 (.cells #[.string (str sc), .string (str au), .string (str (dotsF mg)), .string (str qu2), .string (str fr2), .bool bs, .bool false, .bool bq2, .bool bf2] 28) * Row 9 1 (.slice (some ⟨gp, 0, none⟩) (j + 1) cp) (j + 1) sv), x.w.cell? ⟨g3, 1, none⟩ = some (.string (str au)) := fun x => cell_blk (x.own.focB g3).blk rfl
        have z2_q : ∀ x : OwnW w (Old w * Blk g1 (.cells #[.string (str sc), .string (str au), .string (str pa), .string (str qu), .string (str fr), .bool bs, .bool false, .bool bq, .bool bf] 28) * Blk g2 (.cells #[.string (str sc2), .string (str au2), .string (str pa2), .string (str qu2), .string (str fr2), .bool false, .bool false, .bool bq2, .bool bf2] 28) * Blk g3 (.cells #[.string (str sc), .string (str au), .string (str (dotsF mg)), .string (str qu2), .string (str fr2), .bool bs, .bool false, .bool bq2, .bool bf2] 28) * Row 9 1 (.slice (some ⟨gp, 0, none⟩) (j + 1) cp) (j + 1) sv), x.w.cell? ⟨g3, 2, none⟩ = some (.string (str (dotsF mg))) := fun x => cell_blk (x.own.focB g3).blk rfl
        have z3_q : ∀ x : OwnW w (Old w * Blk g1 (.cells #[.string (str sc), .string (str au), .string (str pa), .string (str qu), .string (str fr), .bool bs, .bool false, .bool bq, .bool bf] 28) * Blk g2 (.cells #[.string (str sc2), .string (str au2), .string (str pa2), .string (str qu2), .string (str fr2), .bool false, .bool false, .bool bq2, .bool bf2] 28) * Blk g3 (.cells #[.string (str sc), .string (str au), .string (str (dotsF mg)), .string (str qu2), .string (str fr2), .bool bs, .bool false, .bool bq2, .bool bf2] 28) * Row 9 1 (.slice (some ⟨gp, 0, none⟩) (j + 1) cp) (j + 1) sv), x.w.cell? ⟨g3, 3, none⟩ = some (.string (str qu2)) := fun x => cell_blk (x.own.focB g3).blk rfl
        have z4_q : ∀ x : OwnW w (Old w * Blk g1 (.cells #[.string (str sc), .string (str au), .string (str pa), .string (str qu), .string (str fr), .bool bs, .bool false, .bool bq, .bool bf] 28) * Blk g2 (.cells #[.string (str sc2), .string (str au2), .string (str pa2), .string (str qu2), .string (str fr2), .bool false, .bool false, .bool bq2, .bool bf2] 28) * Blk g3 (.cells #[.string (str sc), .string (str au), .string (str (dotsF mg)), .string (str qu2), .string (str fr2), .bool bs, .bool false, .bool bq2, .bool bf2] 28) * Row 9 1 (.slice (some ⟨gp, 0, none⟩) (j + 1) cp) (j + 1) sv), x.w.cell? ⟨g3, 4, none⟩ = some (.string (str fr2)) := fun x => cell_blk (x.own.focB g3).blk rfl
        have z5_q : ∀ x : OwnW w (Old w * Blk g1 (.cells #[.string (str sc), .string (str au), .string (str pa), .string (str qu), .string (str fr), .bool bs, .bool false, .bool bq, .bool bf] 28) * Blk g2 (.cells #[.string (str sc2), .string (str au2), .string (str pa2), .string (str qu2), .string (str fr2), .bool false, .bool false, .bool bq2, .bool bf2] 28) * Blk g3 (.cells #[.string (str sc), .string (str au), .string (str (dotsF mg)), .string (str qu2), .string (str fr2), .bool bs, .bool false, .bool bq2, .bool bf2] 28) * Row 9 1 (.slice (some ⟨gp, 0, none⟩) (j + 1) cp) (j + 1) sv), x.w.cell? ⟨g3, 5, none⟩ = some (.bool bs) := fun x => cell_blk (x.own.focB g3).blk rfl
        have z6_q : ∀ x : OwnW w (Old w * Blk g1 (.cells #[.string (str sc), .string (str au), .string (str pa), .string (str qu), .string (str fr), .bool bs, .bool false, .bool bq, .bool bf] 28) * Blk g2 (.cells #[.string (str sc2), .string (str au2), .string (str pa2), .string (str qu2), .string (str fr2), .bool false, .bool false, .bool bq2, .bool bf2] 28) * Blk g3 (.cells #[.string (str sc), .string (str au), .string (str (dotsF mg)), .string (str qu2), .string (str fr2), .bool bs, .bool false, .bool bq2, .bool bf2] 28) * Row 9 1 (.slice (some ⟨gp, 0, none⟩) (j + 1) cp) (j + 1) sv), x.w.cell? ⟨g3, 6, none⟩ = some (.bool false) := fun x => cell_blk (x.own.focB g3).blk rfl
        have z7_q : ∀ x : OwnW w (Old w * Blk g1 (.cells #[.string (str sc), .string (str au), .string (str pa), .string (str qu), .string (str fr), .bool bs, .bool false, .bool bq, .bool bf] 28) * Blk g2 (.cells #[.string (str sc2), .string (str au2), .string (str pa2), .string (str qu2), .string (str fr2), .bool false, .bool false, .bool bq2, .bool bf2] 28) * Blk g3 (.cells #[.string (str sc), .string (str au), .string (str (dotsF mg)), .string (str qu2), .string (str fr2), .bool bs, .bool false, .bool bq2, .bool bf2] 28) * Row 9 1 (.slice (some ⟨gp, 0, none⟩) (j + 1) cp) (j + 1) sv), x.w.cell? ⟨g3, 7, none⟩ = some (.bool bq2) := fun x => cell_blk (x.own.focB g3).blk rfl
        have z8_q : ∀ x : OwnW w (Old w * Blk g1 (.cells #[.string (str sc), .string (str au), .string (str pa), .string (str qu), .string (str fr), .bool bs, .bool false, .bool bq, .bool bf] 28) * Blk g2 (.cells #[.string (str sc2), .string (str au2), .string (str pa2), .string (str qu2), .string (str fr2), .bool false, .bool false, .bool bq2, .bool bf2] 28) * Blk g3 (.cells #[.string (str sc), .string (str au), .string (str (dotsF mg)), .string (str qu2), .string (str fr2), .bool bs, .bool false, .bool bq2, .bool bf2] 28) * Row 9 1 (.slice (some ⟨gp, 0, none⟩) (j + 1) cp) (j + 1) sv), x.w.cell? ⟨g3, 8, none⟩ = some (.bool bf2) := fun x => cell_blk (x.own.focB g3).blk rfl
        have HD := fun (x : OwnW w (Old w * Blk g1 (.cells #[.string (str sc), .string (str au), .string (str pa), .string (str qu), .string (str fr), .bool bs, .bool false, .bool bq, .bool bf] 28) * Blk g2 (.cells #[.string (str sc2), .string (str au2), .string (str pa2), .string (str qu2), .string (str fr2), .bool false, .bool false, .bool bq2, .bool bf2] 28) * Blk g3 (.cells #[.string (str sc), .string (str au), .string (str (dotsF mg)), .string (str qu2), .string (str fr2), .bool bs, .bool false, .bool bq2, .bool bf2] 28) * Row 9 1 (.slice (some ⟨gp, 0, none⟩) (j + 1) cp) (j + 1) sv)) => uri_Dots x.own (str mg) (by rw [str_size]; omega)
        simp only [str_data] at HD
        have HD := Kp.mk HD
        go_upto_region 38 with fail
        refine wp_region_own H8.out (by kernel_rfl) (by kernel_rfl) ?_
        repeat (go_big_quiet_step ((go_at_call 11; exact own_quiet_call (HD.out _))))
        refine wpQuiet_nil ?_
        rintro _ ⟨x, rfl⟩
        go_wp2
        go_ret
        exact ⟨rfl, x.own.drop.drop.drop.drop.old⟩
end Go.Proofs.YtcoaecdgodfodaaSep
