/- Own work: LinkOwns: the walk. -/
import Derived.Test.YtcoaecdgodfodaaDoorLinkD
import Derived.Test.YtcoaecdgodfodaaDoorQuiet
namespace Go.Proofs.YtcoaecdgodfodaaDoorSep
open Go.RowKit Go.Lib Go.Proofs Go.Shelf
theorem goal_alike (a b : List UInt8) : ∀ w, (Go.binOp .eql 35 (.agg #[.string (str a), .string (str b)]) (.agg #[.string (str a), .string (str b)])).run Tryd.prog w = .ok (.bool true) w := fun w =>
  (goal_eql a b a b w).trans (congrArg (fun b => Result.ok (Value.bool b) w) (by simp))
theorem goal_same (a b : List UInt8) : ∀ w, (Go.binOp .neq 35 (.agg #[.string (str a), .string (str b)]) (.agg #[.string (str a), .string (str b)])).run Tryd.prog w = .ok (.bool false) w := fun w => by
  have h := goal_alike a b w
  rw [run_eql_struct] at h
  rw [run_neq_struct]
  revert h
  rcases (Op.equalIn 10000 35 (.agg #[.string (str a), .string (str b)]) (.agg #[.string (str a), .string (str b)])).run Tryd.prog w with ⟨b, w'⟩ | ⟨h, w'⟩
  · intro h
    simp only [Result.andThen_ok, Result.ok.injEq, Value.bool.injEq] at h ⊢
    exact ⟨by rw [h.1]; rfl, h.2⟩
  · intro h
    simp [Result.andThen] at h
theorem goal_zero : ∀ w, (Go.binOp .eql 35 (.agg #[.string ⟨#[]⟩, .string ⟨#[]⟩]) (.agg #[.string ⟨#[]⟩, .string ⟨#[]⟩])).run Tryd.prog w = .ok (.bool true) w := goal_alike [] []
set_option maxRecDepth 100000 in
set_option maxHeartbeats 4000000 in
theorem owns_big (l v : List UInt8) (w : World) (m : Int) (hm : MaxL w (Old w) m) (hb : ¬ (l.length ≤ 100 ∧ v.length ≤ 200)) :
    Calls Tryd.prog 4 #[.string (str l), .string (str v)] w fun e w' => e = .returned (.bool true) ∧ Below w.heap.size w w' := by
  have hsl : (str l).size = l.length := str_size l
  have hsv : (str v).size = v.length := str_size v
  have HH := Kp.mk (link_head hm (own_start w))
  by_cases h1 : 100 < l.length
  · have t1 : decide ((100 : Int) < ((str l).size : Int)) = true := decide_eq_true (by omega)
    have t1' : 100 < (str l).size := by omega
    clear hm hsl hsv h1 hb
    go_enter Tryd.func4, Tryd.ntmps4
    go_wp2_with fail
    refine HH.out.mono ?_
    rintro e w1 ⟨rfl, H1⟩
    replace H1 := Kp.mk H1
    clear HH
    go_wp2
    go_ret
    exact ⟨rfl, H1.out.old⟩
  · have t1 : decide ((100 : Int) < ((str l).size : Int)) = false := decide_eq_false (by omega)
    have t1' : ¬ 100 < (str l).size := by omega
    have t2 : decide ((200 : Int) < ((str v).size : Int)) = true := decide_eq_true (by omega)
    have t2' : 200 < (str v).size := by omega
    clear hm hsl hsv h1 hb
    go_enter Tryd.func4, Tryd.ntmps4
    go_wp2_with fail
    refine HH.out.mono ?_
    rintro e w1 ⟨rfl, H1⟩
    replace H1 := Kp.mk H1
    clear HH
    go_wp2
    go_ret
    exact ⟨rfl, H1.out.old⟩
set_option maxRecDepth 100000 in
set_option maxHeartbeats 4000000 in
theorem owns_out (l v : List UInt8) (w : World) (m : Int) (hm : MaxL w (Old w) m) (hl : l.length ≤ 100) (hv : v.length ≤ 200) (ho : ((parseF v).hs || (parseF v).ha) = true) :
    Calls Tryd.prog 4 #[.string (str l), .string (str v)] w fun e w' => e = .returned (.bool true) ∧ Below w.heap.size w w' := by
  have hsl : (str l).size = l.length := str_size l
  have hsv : (str v).size = v.length := str_size v
  have HH := Kp.mk (link_head hm (own_start w))
  have t1 : decide ((100 : Int) < ((str l).size : Int)) = false := decide_eq_false (by omega)
  have t1' : ¬ 100 < (str l).size := by omega
  have t2 : decide ((200 : Int) < ((str v).size : Int)) = false := decide_eq_false (by omega)
  have t2' : ¬ 200 < (str v).size := by omega
  have HS := fun w1 (h : Own w w1 (Old w)) => link_Own hm h l v (by omega) (by omega)
  rw [ownF_out l v ho] at HS
  unfold OwnEnd ownT goalV at HS
  have hPa := fun w1 (R1 : HP) (h : Own w w1 R1) => uri_Parse h (str v) (by omega)
  rw [str_data] at hPa
  obtain ⟨x, hx⟩ : ∃ x, parseF v = x := ⟨_, rfl⟩
  rw [hx] at hPa ho
  clear hx
  obtain ⟨sc, au, pa, qu, fr, bs, ba, bq, bf⟩ := x
  dsimp only at ho
  unfold refV at hPa
  dsimp only at hPa
  have hz := goal_zero
  replace HS := Kp.mk HS
  replace hPa := Kp.mk hPa
  clear hm hsl hsv hl hv
  obtain ⟨hc, hd⟩ : (bs = true ∨ (bs = false ∧ ba = true)) ∧ True := ⟨by revert ho; cases bs <;> cases ba <;> simp, trivial⟩
  rcases hc with rfl | ⟨rfl, rfl⟩
  · go_enter Tryd.func4, Tryd.ntmps4
    go_wp2_with fail
    refine HH.out.mono ?_
    rintro e w1 ⟨rfl, H1⟩
    have HX := Kp.mk (HS.out _ H1)
    clear HH H1 HS ho
    go_wp2_with fail
    refine HX.out.mono ?_
    rintro e w2 ⟨rfl, H2⟩
    have HY := Kp.mk (hPa.out _ _ (H2.alloc (.cells #[.string (str []), .string (str [])] 35)))
    clear HX H2 hPa
    generalize hg6 : w2.heap.size = g6 at HY
    replace hg6 := Kp.mk hg6
    go_wp2_with fail
    refine HY.out.mono ?_
    rintro e w3 ⟨rfl, H3⟩
    rw [hg6.out]
    have k0 : (w3.alloc (refO sc au pa qu fr true ba bq bf)).cell? ⟨g6, 0, none⟩ = some (.string ⟨#[]⟩) := cell_blk ((H3.alloc _).focB g6).blk rfl
    have k1 : (w3.alloc (refO sc au pa qu fr true ba bq bf)).cell? ⟨g6, 1, none⟩ = some (.string ⟨#[]⟩) := cell_blk ((H3.alloc _).focB g6).blk rfl
    have H4 := Kp.mk ((H3.drop).box (refO sc au pa qu fr true ba bq bf))
    unfold refO at k0 k1 H4
    clear HY H3 hg6
    go_wp2
    go_ret
    exact ⟨rfl, H4.out.old⟩
  · go_enter Tryd.func4, Tryd.ntmps4
    go_wp2_with fail
    refine HH.out.mono ?_
    rintro e w1 ⟨rfl, H1⟩
    have HX := Kp.mk (HS.out _ H1)
    clear HH H1 HS ho
    go_wp2_with fail
    refine HX.out.mono ?_
    rintro e w2 ⟨rfl, H2⟩
    have HY := Kp.mk (hPa.out _ _ (H2.alloc (.cells #[.string (str []), .string (str [])] 35)))
    clear HX H2 hPa
    generalize hg6 : w2.heap.size = g6 at HY
    replace hg6 := Kp.mk hg6
    go_wp2_with fail
    refine HY.out.mono ?_
    rintro e w3 ⟨rfl, H3⟩
    rw [hg6.out]
    have k0 : (w3.alloc (refO sc au pa qu fr false true bq bf)).cell? ⟨g6, 0, none⟩ = some (.string ⟨#[]⟩) := cell_blk ((H3.alloc _).focB g6).blk rfl
    have k1 : (w3.alloc (refO sc au pa qu fr false true bq bf)).cell? ⟨g6, 1, none⟩ = some (.string ⟨#[]⟩) := cell_blk ((H3.alloc _).focB g6).blk rfl
    have H4 := Kp.mk ((H3.drop).box (refO sc au pa qu fr false true bq bf))
    unfold refO at k0 k1 H4
    clear HY H3 hg6
    go_wp2
    go_ret
    exact ⟨rfl, H4.out.old⟩
set_option maxRecDepth 100000 in
set_option maxHeartbeats 4000000 in
theorem owns_bad (l v : List UInt8) (w : World) (m : Int) (hm : MaxL w (Old w) m) (hl : l.length ≤ 100) (hv : v.length ≤ 200) (ho : ((parseF v).hs || (parseF v).ha) = false)
    (h2 : ¬ ((targetF l (parseF v)).2.2 = 0 ∧ rightF (targetF l (parseF v)).1 = true)) :
    Calls Tryd.prog 4 #[.string (str l), .string (str v)] w fun e w' => e = .returned (.bool true) ∧ Below w.heap.size w w' := by
  have hsl : (str l).size = l.length := str_size l
  have hsv : (str v).size = v.length := str_size v
  have HH := Kp.mk (link_head hm (own_start w))
  have t1 : decide ((100 : Int) < ((str l).size : Int)) = false := decide_eq_false (by omega)
  have t1' : ¬ 100 < (str l).size := by omega
  have t2 : decide ((200 : Int) < ((str v).size : Int)) = false := decide_eq_false (by omega)
  have t2' : ¬ 200 < (str v).size := by omega
  have HS := fun w1 (h : Own w w1 (Old w)) => link_Own hm h l v (by omega) (by omega)
  rw [ownF_bad l v ho h2] at HS
  unfold OwnEnd ownT goalV at HS
  have hpl := parseF_len v
  have hPa := fun w1 (R1 : HP) (h : Own w w1 R1) => uri_Parse h (str v) (by omega)
  rw [str_data] at hPa
  obtain ⟨x, hx⟩ : ∃ x, parseF v = x := ⟨_, rfl⟩
  rw [hx] at hPa ho hpl h2
  clear hx
  obtain ⟨sc, au, pa, qu, fr, bs, ba, bq, bf⟩ := x
  dsimp only at ho hpl
  obtain ⟨rfl, rfl⟩ : bs = false ∧ ba = false := by revert ho; cases bs <;> cases ba <;> simp
  have htl := (target_len l ⟨sc, au, pa, qu, fr, false, false, bq, bf⟩).1
  have HTg := fun w1 (R1 : HP) (h : Own w w1 R1) => uri_Target decodeOk h l ⟨sc, au, pa, qu, fr, false, false, bq, bf⟩ (by omega) (by dsimp only; omega) (by dsimp only; omega)
  unfold TgtEnd at HTg
  obtain ⟨t, ht⟩ : ∃ t, targetF l ⟨sc, au, pa, qu, fr, false, false, bq, bf⟩ = t := ⟨_, rfl⟩
  rw [ht] at HTg htl h2
  clear ht
  obtain ⟨f, p, te⟩ := t
  dsimp only at HTg htl h2
  have HR := fun w1 (R1 : HP) (hm1 : MaxL w R1 m) (h : Own w w1 R1) => path_Right hm1 h f (by omega)
  unfold refV at hPa HTg
  dsimp only at hPa HTg
  have hz := goal_zero
  have e0 : (str []).toList = [] := str_toList []
  have e0' : (str []).toList.isEmpty = true := by rw [e0]; rfl
  replace HS := Kp.mk HS
  replace hPa := Kp.mk hPa
  replace HTg := Kp.mk HTg
  replace hm := Kp.mk hm
  replace HR := Kp.mk HR
  clear ho htl hpl hsl hsv hl hv
  go_enter Tryd.func4, Tryd.ntmps4
  go_wp2_with fail
  refine HH.out.mono ?_
  rintro e w1 ⟨rfl, H1⟩
  have HX := Kp.mk (HS.out _ H1)
  clear HH H1 HS
  go_wp2_with fail
  refine HX.out.mono ?_
  rintro e w2 ⟨rfl, H2⟩
  have HY := Kp.mk (hPa.out _ _ (H2.alloc (.cells #[.string (str []), .string (str [])] 35)))
  clear HX H2 hPa
  generalize hg6 : w2.heap.size = g6 at HY
  replace hg6 := Kp.mk hg6
  go_wp2_with fail
  refine HY.out.mono ?_
  rintro e w3 ⟨rfl, H3⟩
  rw [hg6.out]
  have H4 := H3.alloc (refO sc au pa qu fr false false bq bf)
  have HX := Kp.mk (HTg.out _ _ H4)
  unfold refO at HX H4
  clear HY H3 hg6 HTg
  obtain ⟨g9, hg9⟩ : ∃ g9, Kp (w3.heap.size = g9) := ⟨_, ⟨rfl⟩⟩
  rw [hg9.out] at HX H4
  replace H4 := Kp.mk H4
  go_upto_region 9 with fail
  rw [hg9.out]
  go_wp2_with (refine own_load_row g9 H4.out rfl 28 (.tmp 9) rfl rfl _ Tryd.underlying28 rfl (by kernel_rfl) ?_)
  refine HX.out.mono ?_
  rintro e w4 ⟨rfl, H5⟩
  have HY := Kp.mk (HR.out _ _ hm.out.more.more H5)
  clear HX H4 HR hg9
  have k0 : w4.cell? ⟨g6, 0, none⟩ = some (.string ⟨#[]⟩) := cell_blk (H5.focB g6).blk rfl
  have k1 : w4.cell? ⟨g6, 1, none⟩ = some (.string ⟨#[]⟩) := cell_blk (H5.focB g6).blk rfl
  replace H5 := Kp.mk H5
  by_cases h0 : te = 0
  · subst h0
    obtain hq : rightF f = false := by simpa using h2
    rw [hq] at HY
    clear hq h2 k0 k1
    go_wp2_with fail
    refine HY.out.mono ?_
    rintro e w6 ⟨rfl, H6⟩
    have k0 : w6.cell? ⟨g6, 0, none⟩ = some (.string ⟨#[]⟩) := cell_blk (H6.focB g6).blk rfl
    have k1 : w6.cell? ⟨g6, 1, none⟩ = some (.string ⟨#[]⟩) := cell_blk (H6.focB g6).blk rfl
    replace H6 := Kp.mk H6
    go_wp2
    go_ret
    exact ⟨rfl, H6.out.drop.drop.old⟩
  · have f1 : (te == 0) = false := by simpa using h0
    have f2 : (te != 0) = true := by simpa using h0
    clear h2 HY
    go_wp2
    go_ret
    exact ⟨rfl, H5.out.drop.drop.old⟩
end Go.Proofs.YtcoaecdgodfodaaDoorSep
