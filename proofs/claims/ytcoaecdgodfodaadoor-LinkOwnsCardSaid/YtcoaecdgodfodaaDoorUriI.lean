/- Own work: uri.Resolve, by a walk: no path. -/
import Derived.Test.YtcoaecdgodfodaaDoorUriH
import Derived.Deep.CutRange
namespace Go.Proofs.YtcoaecdgodfodaaDoorSep
open Go.RowKit Go.Lib Go.Proofs

set_option maxHeartbeats 4000000 in
theorem resolve_empty {W0 w : World} {R : HP} (H : Own W0 w R) (b r : RefL) (hh : r.hs = false) (ha : r.ha = false) (hp : r.path = []) :
    Calls Tryd.prog 9 #[.agg (refV b), .agg (refV r)] w (ResEnd W0 R b r) := by
  obtain ⟨sc, au, pa, qu, fr, bs, ba, bq, bf⟩ := b
  obtain ⟨sc2, au2, pa2, qu2, fr2, bs2, ba2, bq2, bf2⟩ := r
  dsimp only at hh ha hp
  subst hh ha hp
  have he : (str []).toList.isEmpty = true := by rw [str_toList]; rfl
  cases bq2
  · have hres : Kp (resolveF ⟨sc, au, pa, qu, fr, bs, ba, bq, bf⟩ ⟨sc2, au2, [], qu2, fr2, false, false, false, bf2⟩ = ⟨sc, au, pa, qu, fr2, bs, ba, bq, bf2⟩) := ⟨rfl⟩
    have H1 := ((((H.alloc (refO sc au pa qu fr bs ba bq bf)).alloc (refO sc2 au2 [] qu2 fr2 false false false bf2)).alloc (refO [] [] [] [] [] false false false false)).alloc (refO sc au pa qu fr2 bs ba bq bf2)).drew.drew.drew.drew
    simp only [World.size_alloc] at H1
    have H1 := Kp.mk H1
    unfold refV
    dsimp only
    go_enter Tryd.func9, Tryd.ntmps9
    go_wp2
    go_region
    go_wp2
    go_region
    go_wp2
    go_region
    go_wp2
    go_region
    go_wp2_with (refine own_load_row (w.heap.size + 1 + 1 + 1) H1.out rfl 28 (.tmp 5) rfl rfl _ Tryd.underlying28 rfl (by kernel_rfl) ?_; go_must (refine own_store_row (w.heap.size + 1 + 1) #[.string (str sc), .string (str au), .string (str pa), .string (str qu), .string (str fr2), .bool bs, .bool ba, .bool bq, .bool bf2] H1.out rfl 28 (.tmp 4) (.tmp 113) rfl rfl rfl (by kernel_rfl) (by rfl) (by simp [Value.oneCell']) ?_))
    intro w3 H6
    go_wp2
    refine bodyPost_ret (results_cell_row rfl _ _ (w.heap.size + 1 + 1) 28 _ (0, 0) _ rfl H6.blk Tryd.underlying28 rfl (by kernel_rfl)) rfl ?_
    unfold ResEnd
    rw [hres.out]
    exact ⟨rfl, H6.drop.drop.drop.drop⟩
  · have hres : Kp (resolveF ⟨sc, au, pa, qu, fr, bs, ba, bq, bf⟩ ⟨sc2, au2, [], qu2, fr2, false, false, true, bf2⟩ = ⟨sc, au, pa, qu2, fr2, bs, ba, true, bf2⟩) := ⟨rfl⟩
    have H1 := ((((H.alloc (refO sc au pa qu fr bs ba bq bf)).alloc (refO sc2 au2 [] qu2 fr2 false false true bf2)).alloc (refO [] [] [] [] [] false false false false)).alloc (refO sc au pa qu2 fr2 bs ba true bf2)).drew.drew.drew
    simp only [World.size_alloc] at H1
    have H1 := Kp.mk H1
    unfold refV
    dsimp only
    go_enter Tryd.func9, Tryd.ntmps9
    go_wp2
    go_region
    go_wp2
    go_region
    go_wp2
    go_region
    go_wp2_with (refine own_load_row (w.heap.size + 1 + 1 + 1) H1.out rfl 28 (.tmp 5) rfl rfl _ Tryd.underlying28 rfl (by kernel_rfl) ?_; go_must (refine own_store_row (w.heap.size + 1 + 1) #[.string (str sc), .string (str au), .string (str pa), .string (str qu2), .string (str fr2), .bool bs, .bool ba, .bool true, .bool bf2] H1.out rfl 28 (.tmp 4) (.tmp 113) rfl rfl rfl (by kernel_rfl) (by rfl) (by simp [Value.oneCell']) ?_))
    intro w3 H6
    go_wp2
    refine bodyPost_ret (results_cell_row rfl _ _ (w.heap.size + 1 + 1) 28 _ (0, 0) _ rfl H6.blk Tryd.underlying28 rfl (by kernel_rfl)) rfl ?_
    unfold ResEnd
    rw [hres.out]
    exact ⟨rfl, H6.drop.drop.drop.drop⟩
end Go.Proofs.YtcoaecdgodfodaaDoorSep
