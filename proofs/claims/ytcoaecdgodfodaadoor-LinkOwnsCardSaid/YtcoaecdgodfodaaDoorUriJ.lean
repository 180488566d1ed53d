/- Own work: uri.Resolve, by a walk: a path from the root. -/
import Derived.Test.YtcoaecdgodfodaaDoorUriH
import Derived.Deep.CutRange
namespace Go.Proofs.YtcoaecdgodfodaaDoorSep
open Go.RowKit Go.Lib Go.Proofs

set_option maxHeartbeats 4000000 in
theorem resolve_abs {W0 w : World} {R : HP} (H : Own W0 w R) (b r : RefL) (hr : r.path.length ≤ 1000000000) (hh : r.hs = false) (ha : r.ha = false) (hp : r.path.head? = some 47) :
    Calls Tryd.prog 9 #[.agg (refV b), .agg (refV r)] w (ResEnd W0 R b r) := by
  obtain ⟨sc, au, pa, qu, fr, bs, ba, bq, bf⟩ := b
  obtain ⟨sc2, au2, pa2, qu2, fr2, bs2, ba2, bq2, bf2⟩ := r
  dsimp only at hr hh ha hp
  subst hh ha
  obtain ⟨t2, ht2⟩ : ∃ t2, pa2 = 47 :: t2 := by
    cases pa2 with
    | nil => cases hp
    | cons c t => exact ⟨t, by simpa using hp⟩
  have hpe : pa2.isEmpty = false := by rw [ht2]; rfl
  have hpl : (str pa2).toList = pa2 := str_toList pa2
  have hps : (str pa2).size = pa2.length := str_size pa2
  have hp0 : 0 < pa2.length := by rw [ht2]; simp
  have hix : ∀ h, ((str pa2)[0]'h) = 47 := by
    intro h
    subst ht2
    rfl
  have hpn : ¬ pa2 = [] := by rw [ht2]; simp
  have hres : Kp (resolveF ⟨sc, au, pa, qu, fr, bs, ba, bq, bf⟩ ⟨sc2, au2, pa2, qu2, fr2, false, false, bq2, bf2⟩ = ⟨sc, au, dotsF pa2, qu2, fr2, bs, ba, bq2, bf2⟩) := ⟨by rw [resolveF]; simp [hpn, hp]⟩
  have H1 := ((((H.alloc (refO sc au pa qu fr bs ba bq bf)).alloc (refO sc2 au2 pa2 qu2 fr2 false false bq2 bf2)).alloc (refO [] [] [] [] [] false false false false)).alloc (refO [] au [] [] fr2 false ba false bf2)).drew.drew
  simp only [World.size_alloc] at H1
  have HD := uri_Dots H1 (str pa2) (by rw [str_size]; omega)
  rw [str_data] at HD
  have HD := Kp.mk HD
  unfold refO at HD
  clear H1
  unfold refV
  dsimp only
  go_enter Tryd.func9, Tryd.ntmps9
  clear hp ht2 hpn
  go_wp2
  go_region
  go_wp2
  generalize hg : w.heap.size = g at HD ⊢
  refine Go.wp_mono (Q := QN ?A0 (fun wx => Kp (Own W0 wx (R * Blk g (.cells #[.string (str sc), .string (str au), .string (str pa), .string (str qu), .string (str fr), .bool bs, .bool ba, .bool bq, .bool bf] 28) * Blk (g + 1 + 1) (.cells #[.string ⟨#[]⟩, .string ⟨#[]⟩, .string ⟨#[]⟩, .string ⟨#[]⟩, .string ⟨#[]⟩, .bool false, .bool false, .bool false, .bool false] 28) * Blk (g + 1 + 1 + 1) (.cells #[.string ⟨#[]⟩, .string (str au), .string (str (dotsF pa2)), .string (str qu2), .string (str fr2), .bool false, .bool ba, .bool bq2, .bool bf2] 28))))) ?first ?rest
  case first =>
    go_region_law (go_simp; (go_at_call 22; refine HD.out.mono ?_; rintro e w1 ⟨rfl, H2⟩; have k2 := cell_blk (j := 2) (v := .string (str pa2)) (H2.focB (g + 1)).blk rfl; have k3 := cell_blk (j := 3) (v := .string (str qu2)) (H2.focB (g + 1)).blk rfl; have k7 := cell_blk (j := 7) (v := .bool bq2) (H2.focB (g + 1)).blk rfl; have o2 := cell_blk (j := 2) (v := .string ⟨#[]⟩) (H2.focB (g + 1 + 1 + 1)).blk rfl; have o3 := cell_blk (j := 3) (v := .string ⟨#[]⟩) (H2.focB (g + 1 + 1 + 1)).blk rfl; have o7 := cell_blk (j := 7) (v := .bool false) (H2.focB (g + 1 + 1 + 1)).blk rfl; have zf : ∀ j, w1.frozen? ⟨g + 1 + 1 + 1, j, none⟩ = false := fun j => frz_blk (H2.focB (g + 1 + 1 + 1)).blk))
    all_goals
      have H3 := (((H2.focB (g + 1 + 1 + 1)).set 2 (.string (str (dotsF pa2)))).set 3 (.string (str qu2))).set 7 (.bool bq2)
      have H4 := Kp.mk ((H3.focB (g + 1)).drop)
      refine And.intro ?_ H4
      exact rfl
  case rest =>
    rintro (_ | _ | _ | _ | _ | _) act wx HQ
    all_goals first | (exact HQ.elim) | skip
    obtain ⟨rfl, HO⟩ := HQ
    have k0 := cell_blk (j := 0) (v := .string (str sc)) (HO.out.focB g).blk rfl
    have k5 := cell_blk (j := 5) (v := .bool bs) (HO.out.focB g).blk rfl
    have o0 := cell_blk (j := 0) (v := .string ⟨#[]⟩) HO.out.blk rfl
    have o5 := cell_blk (j := 5) (v := .bool false) HO.out.blk rfl
    have zf : ∀ j, wx.frozen? ⟨g + 1 + 1 + 1, j, none⟩ = false := fun j => frz_blk HO.out.blk
    go_wp2
    go_region
    have H5 : Own W0 ((wx.setCell ⟨g + 1 + 1 + 1, 0, none⟩ (.string (str sc))).setCell ⟨g + 1 + 1 + 1, 5, none⟩ (.bool bs)).drew (_ * Blk (g + 1 + 1 + 1) (.cells #[.string (str sc), .string (str au), .string (str (dotsF pa2)), .string (str qu2), .string (str fr2), .bool bs, .bool ba, .bool bq2, .bool bf2] 28)) := ((HO.out.set 0 (.string (str sc))).set 5 (.bool bs)).drew
    clear k0 k5 o0 o5 zf
    generalize ((wx.setCell ⟨g + 1 + 1 + 1, 0, none⟩ (.string (str sc))).setCell ⟨g + 1 + 1 + 1, 5, none⟩ (.bool bs)).drew = w2 at H5 ⊢
    have H5 := Kp.mk H5
    go_wp2_with (refine own_load_row (g + 1 + 1 + 1) H5.out rfl 28 (.tmp 5) rfl rfl _ Tryd.underlying28 rfl (by kernel_rfl) ?_; go_must (refine own_store_row (g + 1 + 1) #[.string (str sc), .string (str au), .string (str (dotsF pa2)), .string (str qu2), .string (str fr2), .bool bs, .bool ba, .bool bq2, .bool bf2] H5.out rfl 28 (.tmp 4) (.tmp 113) rfl rfl rfl (by kernel_rfl) (by rfl) (by simp [Value.oneCell']) ?_))
    intro w3 H6
    go_wp2
    refine bodyPost_ret (results_cell_row rfl _ _ (g + 1 + 1) 28 _ (0, 0) _ rfl H6.blk Tryd.underlying28 rfl (by kernel_rfl)) rfl ?_
    unfold ResEnd
    rw [hres.out]
    exact ⟨rfl, H6.drop.drop.drop⟩
end Go.Proofs.YtcoaecdgodfodaaDoorSep
