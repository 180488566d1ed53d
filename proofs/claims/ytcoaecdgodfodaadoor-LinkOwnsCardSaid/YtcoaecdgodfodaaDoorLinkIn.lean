/- Own work: LinkOwns where a link leads to a file: the walk. -/
import Derived.Test.YtcoaecdgodfodaaDoorLinkOwns
import Derived.Test.YtcoaecdgodfodaaDoorQuietL
namespace Go.Proofs.YtcoaecdgodfodaaDoorSep
open Go.RowKit Go.Lib Go.Proofs Go.Shelf
theorem ref_query (a b c d e : ByteArray) (x y z u : Bool) (w : World) : (Instr.field 28 (.agg #[.string a, .string b, .string c, .string d, .string e, .bool x, .bool y, .bool z, .bool u]) 3).run Tryd.prog w = .ok (.string d) w := by kernel_rfl
theorem ref_hq (a b c d e : ByteArray) (x y z u : Bool) (w : World) : (Instr.field 28 (.agg #[.string a, .string b, .string c, .string d, .string e, .bool x, .bool y, .bool z, .bool u]) 7).run Tryd.prog w = .ok (.bool z) w := by kernel_rfl
set_option maxRecDepth 100000 in
set_option maxHeartbeats 4000000 in
theorem owns_in (l v : List UInt8) (w : World) (m : Int) (hm : MaxL w (Old w) m) (hl : l.length ≤ 100) (hv : v.length ≤ 200) (ho : ((parseF v).hs || (parseF v).ha) = false)
    (f p : List UInt8) (h2 : targetF l (parseF v) = (f, p, 0)) (h3 : rightF f = true) :
    Calls Tryd.prog 4 #[.string (str l), .string (str v)] w fun e w' => e = .returned (.bool true) ∧ Below w.heap.size w w' := by
  have hsl : (str l).size = l.length := str_size l
  have hsv : (str v).size = v.length := str_size v
  have HH := Kp.mk (link_head hm (own_start w))
  have t1 : decide ((100 : Int) < ((str l).size : Int)) = false := decide_eq_false (by omega)
  have t1' : ¬ 100 < (str l).size := by omega
  have t2 : decide ((200 : Int) < ((str v).size : Int)) = false := decide_eq_false (by omega)
  have t2' : ¬ 200 < (str v).size := by omega
  have HS := fun w1 (h : Own w w1 (Old w)) => link_Own hm h l v (by omega) (by omega)
  rw [ownF_in l v ho f p h2 h3] at HS
  unfold OwnEnd ownT goalV at HS
  dsimp only at HS
  have hql := parse_queryLen v
  have hpp := (target_len l (parseF v)).2
  rw [h2] at hpp
  dsimp only at hpp
  have hfl := right_len h3
  have hpl := parseF_len v
  have htr := toR_len (p := p) (r := parseF v) hfl.2
  have htl2 := textF_len (toR f p (parseF v))
  have hagain := own_again h3 p v [120, 47, 121, 46, 104, 116, 109, 108]
  have hpagain := parse_again h3 p v
  have hS2 : (textF (toR f p (parseF v))).length ≤ 3000 := by omega
  obtain ⟨S, hS⟩ : ∃ S, textF (toR f p (parseF v)) = S := ⟨_, rfl⟩
  rw [hS] at HS hagain hpagain hS2
  have HS3 := fun w1 (R1 : HP) (hm1 : MaxL w R1 m) (h : Own w w1 R1) => link_Own hm1 h [120, 47, 121, 46, 104, 116, 109, 108] S (by decide) hS2
  rw [hagain] at HS3
  unfold OwnEnd ownT goalV at HS3
  dsimp only at HS3
  have hPS := fun w1 (R1 : HP) (h : Own w w1 R1) => uri_Parse h (str S) (by rw [str_size]; omega)
  rw [str_data, hpagain] at hPS
  clear htr htl2 hS hagain hpagain hS2
  have hPa := fun w1 (R1 : HP) (h : Own w w1 R1) => uri_Parse h (str v) (by omega)
  rw [str_data] at hPa
  obtain ⟨x, hx⟩ : ∃ x, parseF v = x := ⟨_, rfl⟩
  rw [hx] at hPa ho hpl h2 hPS hql hpp
  clear hx
  obtain ⟨sc, au, pa, qu, fr, bs, ba, bq, bf⟩ := x
  dsimp only at ho hpl
  obtain ⟨rfl, rfl⟩ : bs = false ∧ ba = false := by revert ho; cases bs <;> cases ba <;> simp
  have htl := (target_len l ⟨sc, au, pa, qu, fr, false, false, bq, bf⟩).1
  have HTg := fun w1 (R1 : HP) (h : Own w w1 R1) => uri_Target decodeOk h l ⟨sc, au, pa, qu, fr, false, false, bq, bf⟩ (by omega) (by dsimp only; omega) (by dsimp only; omega)
  unfold TgtEnd at HTg
  rw [h2] at HTg htl
  dsimp only at HTg htl
  have HR := fun w1 (R1 : HP) (hm1 : MaxL w R1 m) (h : Own w w1 R1) => path_Right hm1 h f (by omega)
  rw [h3] at HR
  have htoR : toR f p ⟨sc, au, pa, qu, fr, false, false, bq, bf⟩ = ⟨[], [], 47 :: encF true f, qu, if p = [] then [] else encF false p, false, false, bq, !decide (p = [])⟩ := rfl
  rw [htoR] at hPS
  obtain ⟨fr2, hfr2⟩ : ∃ fr2, (if p = [] then [] else encF false p) = fr2 := ⟨_, rfl⟩
  obtain ⟨bf2, hbf2⟩ : ∃ bf2, (!decide (p = [])) = bf2 := ⟨_, rfl⟩
  rw [hfr2, hbf2] at hPS
  obtain ⟨pa2, hpa2⟩ : ∃ pa2, 47 :: encF true f = pa2 := ⟨_, rfl⟩
  rw [hpa2] at hPS
  clear htoR hfr2 hbf2 hpa2 h2 hql hpp hfl
  unfold refV at hPa HTg hPS
  dsimp only at hPa HTg hPS
  have hz := goal_alike f p
  have hn := goal_same f p
  replace HS3 := Kp.mk HS3
  replace hPS := Kp.mk hPS
  replace HS := Kp.mk HS
  replace hPa := Kp.mk hPa
  replace HTg := Kp.mk HTg
  replace hm := Kp.mk hm
  replace HR := Kp.mk HR
  clear ho htl hpl hsl hsv hl hv
  go_enter Tryd.func4, Tryd.ntmps4
  go_wp2_with fail
  refine HH.out.mono ?_
  rintro e w1 ⟨rfl, H1⟩
  have HX := Kp.mk (HS.out _ H1)
  clear HH H1 HS
  go_wp2_with fail
  refine HX.out.mono ?_
  rintro e w2 ⟨rfl, H2⟩
  have HY := Kp.mk (hPa.out _ _ (H2.alloc (.cells #[.string (str f), .string (str p)] 35)))
  clear HX H2 hPa
  generalize hg6 : w2.heap.size = g6 at HY
  replace hg6 := Kp.mk hg6
  go_wp2_with fail
  refine HY.out.mono ?_
  rintro e w3 ⟨rfl, H3⟩
  rw [hg6.out]
  have H4 := H3.alloc (refO sc au pa qu fr false false bq bf)
  have HX := Kp.mk (HTg.out _ _ H4)
  unfold refO at HX H4
  clear HY H3 hg6 HTg
  obtain ⟨g9, hg9⟩ : ∃ g9, Kp (w3.heap.size = g9) := ⟨_, ⟨rfl⟩⟩
  rw [hg9.out] at HX H4
  replace H4 := Kp.mk H4
  go_upto_region 9 with fail
  rw [hg9.out]
  go_wp2_with (refine own_load_row g9 H4.out rfl 28 (.tmp 9) rfl rfl _ Tryd.underlying28 rfl (by kernel_rfl) ?_)
  refine HX.out.mono ?_
  rintro e w4 ⟨rfl, H5⟩
  have HY := Kp.mk (HR.out _ _ hm.out.more.more H5)
  clear HX H4 HR hg9
  replace H5 := Kp.mk H5
  go_wp2_with fail
  refine HY.out.mono ?_
  rintro e w6 ⟨rfl, H6⟩
  have k0 : w6.cell? ⟨g6, 0, none⟩ = some (.string (str f)) := cell_blk (H6.focB g6).blk rfl
  have k1 : w6.cell? ⟨g6, 1, none⟩ = some (.string (str p)) := cell_blk (H6.focB g6).blk rfl
  have HX := Kp.mk (HS3.out _ _ hm.out.more.more H6)
  clear HY H5 H6
  go_wp2_with fail
  refine HX.out.mono ?_
  rintro e w7 ⟨rfl, H7⟩
  have H8 := H7.alloc (.cells #[.string (str f), .string (str p)] 35)
  clear HX H7 k0 k1 HS3
  obtain ⟨g14, hg14⟩ : ∃ g14, Kp (w7.heap.size = g14) := ⟨_, ⟨rfl⟩⟩
  rw [hg14.out] at H8
  go_upto_region 15 with fail
  rw [hg14.out]
  generalize w7.alloc (.cells #[.string (str f), .string (str p)] 35) = w8 at H8 ⊢
  haveI : Nonempty (OwnW w (Old w * Blk g6 (.cells #[.string (str f), .string (str p)] 35) * Blk g9 (.cells #[.string (str sc), .string (str au), .string (str pa), .string (str qu), .string (str fr), .bool false, .bool false, .bool bq, .bool bf] 28) * Blk g14 (.cells #[.string (str f), .string (str p)] 35))) := ⟨⟨_, H8⟩⟩
  have HD : Kp (∀ x : OwnW w (Old w * Blk g6 (.cells #[.string (str f), .string (str p)] 35) * Blk g9 (.cells #[.string (str sc), .string (str au), .string (str pa), .string (str qu), .string (str fr), .bool false, .bool false, .bool bq, .bool bf] 28) * Blk g14 (.cells #[.string (str f), .string (str p)] 35)), Calls Tryd.prog 8 #[.string (str S)] x.w fun e w' => e = .returned (.agg #[.string (str []), .string (str []), .string (str pa2), .string (str qu), .string (str fr2), .bool false, .bool false, .bool bq, .bool bf2]) ∧ Own w w' (Old w * Blk g6 (.cells #[.string (str f), .string (str p)] 35) * Blk g9 (.cells #[.string (str sc), .string (str au), .string (str pa), .string (str qu), .string (str fr), .bool false, .bool false, .bool bq, .bool bf] 28) * Blk g14 (.cells #[.string (str f), .string (str p)] 35))) := ⟨fun x => hPS.out _ _ x.own⟩
  have c3 : ∀ x : OwnW w (Old w * Blk g6 (.cells #[.string (str f), .string (str p)] 35) * Blk g9 (.cells #[.string (str sc), .string (str au), .string (str pa), .string (str qu), .string (str fr), .bool false, .bool false, .bool bq, .bool bf] 28) * Blk g14 (.cells #[.string (str f), .string (str p)] 35)), x.w.cell? ⟨g9, 3, none⟩ = some (.string (str qu)) := fun x => cell_blk (x.own.focB g9).blk rfl
  have c7 : ∀ x : OwnW w (Old w * Blk g6 (.cells #[.string (str f), .string (str p)] 35) * Blk g9 (.cells #[.string (str sc), .string (str au), .string (str pa), .string (str qu), .string (str fr), .bool false, .bool false, .bool bq, .bool bf] 28) * Blk g14 (.cells #[.string (str f), .string (str p)] 35)), x.w.cell? ⟨g9, 7, none⟩ = some (.bool bq) := fun x => cell_blk (x.own.focB g9).blk rfl
  have q3 := fun w => ref_query (str []) (str []) (str pa2) (str qu) (str fr2) false false bq bf2 w
  have q7 := fun w => ref_hq (str []) (str []) (str pa2) (str qu) (str fr2) false false bq bf2 w
  clear hPS hg14 hm h3
  refine wp_region_own H8 (by kernel_rfl) (by kernel_rfl) ?_
  repeat (first | (go_big_quiet_want; (refine own_quiet_load g14 35 (.tmp 14) rfl rfl _ Tryd.underlying35 rfl (by rfl) ?_); go_simp; go_big_quiet_on) | (go_big_quiet_want; (refine own_quiet_load g6 35 (.tmp 6) rfl rfl _ Tryd.underlying35 rfl (by rfl) ?_); go_simp; go_big_quiet_on) | (go_big_quiet_step ((go_at_call 8; exact own_quiet_call (HD.out _)))))
  refine wpQuiet_nil ?_
  rintro _ ⟨x, rfl⟩
  go_wp2
  go_ret
  exact ⟨rfl, x.own.drop.drop.drop.old⟩
theorem linkOwns_walk (a : ByteArray) (_ : a.size ≤ 140737488351232) (b : ByteArray) (_ : b.size ≤ 140737488351232) (w : World) (hm : ∃ m, w.cell? ⟨0, 0, none⟩ = some (.int .i64 m)) :
    Calls Tryd.prog 4 #[.string a, .string b] w fun e w' => e = .returned (.bool true) ∧ Below w.heap.size w w' := by
  obtain ⟨m, hm⟩ := hm
  replace hm := maxL_of hm
  rw [← str_of a, ← str_of b]
  generalize a.data.toList = l
  generalize b.data.toList = v
  by_cases hb : l.length ≤ 100 ∧ v.length ≤ 200
  · obtain ⟨hl, hv⟩ := hb
    rcases ho : ((parseF v).hs || (parseF v).ha) with _ | _
    · by_cases h2 : (targetF l (parseF v)).2.2 = 0 ∧ rightF (targetF l (parseF v)).1 = true
      · obtain ⟨⟨f, p, te⟩, ht⟩ : ∃ t, targetF l (parseF v) = t := ⟨_, rfl⟩
        rw [ht] at h2
        obtain ⟨h3, h4⟩ := h2
        dsimp only at h3 h4
        subst h3
        exact owns_in l v w m hm hl hv ho f p ht h4
      · exact owns_bad l v w m hm hl hv ho h2
    · exact owns_out l v w m hm hl hv ho
  · exact owns_big l v w m hm hb
end Go.Proofs.YtcoaecdgodfodaaDoorSep
