/- Own work: link.Own, by a walk: where a link leads out, or nowhere. -/
import Derived.Test.YtcoaecdgodfodaaDoorLinkS
import Derived.Test.YtcoaecdgodfodaaDoorLinkR
namespace Go.Proofs.YtcoaecdgodfodaaDoorSep
open Go.RowKit Go.Lib Go.Proofs Go.Shelf
/-- A goal's cells. -/
def goalO (f p : List UInt8) : Obj := .cells #[.string (str f), .string (str p)] 35
def OwnEnd (W0 : World) (R : HP) (o : OwnM) (e : Ending) (w' : World) : Prop := e = .returned (.tuple (ownT o)) ∧ Own W0 w' R
set_option maxRecDepth 100000 in
set_option maxHeartbeats 4000000 in
theorem own_out {W0 w : World} {R : HP} (H : Own W0 w R) (l v : List UInt8) (hv : v.length ≤ 3000) (ho : ((parseF v).hs || (parseF v).ha) = true) :
    Calls Tryd.prog 13 #[.string (str l), .string (str v)] w (OwnEnd W0 R (ownF l v)) := by
  have HPa := Kp.mk (uri_Parse (H.alloc (goalO [] [])) (str v) (by rw [str_size]; omega))
  rw [str_data] at HPa
  rw [ownF_out l v ho]
  obtain ⟨x, hx⟩ : ∃ x, parseF v = x := ⟨_, rfl⟩
  rw [hx] at HPa ho
  clear hx
  obtain ⟨sc, au, pa, qu, fr, bs, ba, bq, bf⟩ := x
  have HI := fun w1 (R1 : HP) (h : Own W0 w1 R1) => uri_Inside h ⟨sc, au, pa, qu, fr, bs, ba, bq, bf⟩
  dsimp only at HI ho
  have hi : (!bs && !ba) = false := by revert ho; cases bs <;> cases ba <;> simp
  rw [hi] at HI
  unfold refV at HPa HI
  unfold goalO at HPa
  dsimp only at HPa HI
  replace HI := Kp.mk HI
  clear ho hi H
  go_enter Tryd.func13, Tryd.ntmps13
  go_wp2_with fail
  refine HPa.out.mono ?_
  rintro e w1 ⟨rfl, H1⟩
  have H3 := H1.alloc (refO sc au pa qu fr bs ba bq bf)
  have HY := Kp.mk (HI.out _ _ H3)
  unfold refO at HY
  clear HPa H1 HI H3
  generalize w.heap.size = g5 at HY ⊢
  obtain ⟨g, hg⟩ : ∃ g, Kp (w1.heap.size = g) := ⟨_, ⟨rfl⟩⟩
  rw [hg.out] at HY
  go_wp2_with fail
  refine HY.out.mono ?_
  rintro e w3 ⟨rfl, H4⟩
  rw [hg.out]
  replace H4 := Kp.mk (H4.focB g5)
  clear HY hg
  go_wp2_with (refine own_store_row g5 #[.string ⟨#[]⟩, .string ⟨#[]⟩] H4.out rfl 35 (.tmp 5) (.tmp 19) rfl rfl rfl (by kernel_rfl) (by rfl) (by simp [Value.oneCell']) ?_)
  intro w4 H5
  go_wp2
  refine bodyPost_ret (results_four rfl _ _ _ ⟨g5, 0, none⟩ rfl _ (run_loadVar_row _ g5 35 35 _ (0, 0) _ H5.blk Tryd.underlying35 rfl (by kernel_rfl))) rfl ?_
  exact ⟨rfl, H5.drop.drop⟩
set_option maxRecDepth 100000 in
set_option maxHeartbeats 4000000 in
theorem own_bad {W0 w : World} {R : HP} {m : Int} (hm : MaxL W0 R m) (H : Own W0 w R) (l v : List UInt8) (hl : l.length ≤ 1000) (hv : v.length ≤ 3000) (ho : ((parseF v).hs || (parseF v).ha) = false)
    (h2 : ¬ ((targetF l (parseF v)).2.2 = 0 ∧ rightF (targetF l (parseF v)).1 = true)) :
    Calls Tryd.prog 13 #[.string (str l), .string (str v)] w (OwnEnd W0 R (ownF l v)) := by
  have hpl := parseF_len v
  have HPa := Kp.mk (uri_Parse (H.alloc (goalO [] [])) (str v) (by rw [str_size]; omega))
  rw [str_data] at HPa
  rw [ownF_bad l v ho h2]
  obtain ⟨x, hx⟩ : ∃ x, parseF v = x := ⟨_, rfl⟩
  rw [hx] at HPa ho hpl h2
  clear hx
  obtain ⟨sc, au, pa, qu, fr, bs, ba, bq, bf⟩ := x
  have HI := fun w1 (R1 : HP) (h : Own W0 w1 R1) => uri_Inside h ⟨sc, au, pa, qu, fr, bs, ba, bq, bf⟩
  dsimp only at HI ho hpl
  obtain ⟨rfl, rfl⟩ : bs = false ∧ ba = false := by revert ho; cases bs <;> cases ba <;> simp
  have htl := (target_len l ⟨sc, au, pa, qu, fr, false, false, bq, bf⟩).1
  have HTg := fun w1 (R1 : HP) (h : Own W0 w1 R1) => uri_Target decodeOk h l ⟨sc, au, pa, qu, fr, false, false, bq, bf⟩ (by omega) (by dsimp only; omega) (by dsimp only; omega)
  unfold TgtEnd at HTg
  obtain ⟨t, ht⟩ : ∃ t, targetF l ⟨sc, au, pa, qu, fr, false, false, bq, bf⟩ = t := ⟨_, rfl⟩
  rw [ht] at HTg htl h2
  clear ht
  obtain ⟨f, p, te⟩ := t
  dsimp only at HTg htl h2
  have hlf : f.length ≤ 100000 := by omega
  have HR := fun w1 (R1 : HP) (hm1 : MaxL W0 R1 m) (h : Own W0 w1 R1) => path_Right hm1 h f hlf
  unfold refV at HPa HI HTg
  unfold goalO at HPa
  dsimp only at HPa HI HTg
  replace HI := Kp.mk HI
  replace HTg := Kp.mk HTg
  replace hm := Kp.mk hm
  replace HR := Kp.mk HR
  clear ho H htl hlf hpl
  go_enter Tryd.func13, Tryd.ntmps13
  go_wp2_with fail
  refine HPa.out.mono ?_
  rintro e w1 ⟨rfl, H1⟩
  have H3 := H1.alloc (refO sc au pa qu fr false false bq bf)
  have HY := Kp.mk (HI.out _ _ H3)
  unfold refO at HY
  clear HPa H1 HI H3
  generalize w.heap.size = g5 at HY ⊢
  obtain ⟨g, hg⟩ : ∃ g, Kp (w1.heap.size = g) := ⟨_, ⟨rfl⟩⟩
  rw [hg.out] at HY
  go_wp2_with fail
  refine HY.out.mono ?_
  rintro e w3 ⟨rfl, H4⟩
  rw [hg.out]
  have HX := Kp.mk (HTg.out _ _ H4)
  replace H4 := Kp.mk H4
  clear HY hg HTg
  go_wp2_with (refine own_load_row g H4.out rfl 28 (.tmp 8) rfl rfl _ Tryd.underlying28 rfl (by kernel_rfl) ?_)
  refine HX.out.mono ?_
  rintro e w4 ⟨rfl, H5⟩
  have HY := Kp.mk (HR.out _ _ hm.out.more.more H5)
  replace H5 := Kp.mk H5
  clear HX H4 HR
  by_cases h0 : te = 0
  · subst h0
    obtain hq : rightF f = false := by simpa using h2
    rw [hq] at HY
    clear hq h2
    go_wp2_with fail
    refine HY.out.mono ?_
    rintro e w6 ⟨rfl, H6⟩
    replace H6 := Kp.mk (H6.focB g5)
    go_wp2_with (refine own_store_row g5 #[.string ⟨#[]⟩, .string ⟨#[]⟩] H6.out rfl 35 (.tmp 5) (.tmp 34) rfl rfl rfl (by kernel_rfl) (by rfl) (by simp [Value.oneCell']) ?_)
    intro w4 H5
    go_wp2
    refine bodyPost_ret (results_four rfl _ _ _ ⟨g5, 0, none⟩ rfl _ (run_loadVar_row _ g5 35 35 _ (0, 0) _ H5.blk Tryd.underlying35 rfl (by kernel_rfl))) rfl ?_
    exact ⟨rfl, H5.drop.drop⟩
  · have f1 : (te == 0) = false := by simpa using h0
    have f2 : (te != 0) = true := by simpa using h0
    have H6 := Kp.mk (H5.out.focB g5)
    clear h2 HY
    go_wp2_with (refine own_store_row g5 #[.string ⟨#[]⟩, .string ⟨#[]⟩] H6.out rfl 35 (.tmp 5) (.tmp 34) rfl rfl rfl (by kernel_rfl) (by rfl) (by simp [Value.oneCell']) ?_)
    intro w4 H5
    go_wp2
    refine bodyPost_ret (results_four rfl _ _ _ ⟨g5, 0, none⟩ rfl _ (run_loadVar_row _ g5 35 35 _ (0, 0) _ H5.blk Tryd.underlying35 rfl (by kernel_rfl))) rfl ?_
    exact ⟨rfl, H5.drop.drop⟩
end Go.Proofs.YtcoaecdgodfodaaDoorSep
