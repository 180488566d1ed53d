/- Own work: uri.Resolve, by walks. -/
import Derived.Test.YtcoaecdgodfodaaDoorUriF
namespace Go.Proofs.YtcoaecdgodfodaaDoorSep
open Go.RowKit Go.Lib Go.Proofs

def resolveF (b r : RefL) : RefL :=
  if r.hs then ⟨r.scheme, r.auth, dotsF r.path, r.query, r.frag, true, r.ha, r.hq, r.hf⟩
  else if r.ha then ⟨b.scheme, r.auth, dotsF r.path, r.query, r.frag, b.hs, true, r.hq, r.hf⟩
  else if r.path = [] then ⟨b.scheme, b.auth, b.path, if r.hq then r.query else b.query, r.frag, b.hs, b.ha, if r.hq then true else b.hq, r.hf⟩
  else if r.path.head? = some 47 then ⟨b.scheme, b.auth, dotsF r.path, r.query, r.frag, b.hs, b.ha, r.hq, r.hf⟩
  else ⟨b.scheme, b.auth, dotsF (mergeF b r.path), r.query, r.frag, b.hs, b.ha, r.hq, r.hf⟩
def refO (sc au pa qu fr : List UInt8) (bs ba bq bf : Bool) : Obj := .cells #[.string (str sc), .string (str au), .string (str pa), .string (str qu), .string (str fr), .bool bs, .bool ba, .bool bq, .bool bf] 28
def ResEnd (W0 : World) (R : HP) (b r : RefL) (e : Ending) (w' : World) : Prop := e = .returned (.agg (refV (resolveF b r))) ∧ Own W0 w' R
set_option maxHeartbeats 2000000 in
theorem resolve_scheme {W0 w : World} {R : HP} (H : Own W0 w R) (b r : RefL) (hr : r.path.length ≤ 1000000000) (hh : r.hs = true) :
    Calls Tryd.prog 9 #[.agg (refV b), .agg (refV r)] w (ResEnd W0 R b r) := by
  obtain ⟨sc, au, pa, qu, fr, bs, ba, bq, bf⟩ := b
  obtain ⟨sc2, au2, pa2, qu2, fr2, bs2, ba2, bq2, bf2⟩ := r
  dsimp only at hr hh
  subst hh
  have hres : Kp (resolveF ⟨sc, au, pa, qu, fr, bs, ba, bq, bf⟩ ⟨sc2, au2, pa2, qu2, fr2, true, ba2, bq2, bf2⟩ = ⟨sc2, au2, dotsF pa2, qu2, fr2, true, ba2, bq2, bf2⟩) := ⟨rfl⟩
  unfold refV
  dsimp only
  go_enter Tryd.func9, Tryd.ntmps9
  go_wp2
  go_region
  go_wp2
  have H1 := ((((H.alloc (refO sc au pa qu fr bs ba bq bf)).alloc (refO sc2 au2 pa2 qu2 fr2 true ba2 bq2 bf2)).alloc (refO [] [] [] [] [] false false false false)).alloc (refO sc2 au2 [] [] fr2 true ba2 false bf2)).drew.drew
  simp only [World.size_alloc] at H1
  have HD := uri_Dots H1 (str pa2) (by rw [str_size]; omega)
  rw [str_data] at HD
  have HD := Kp.mk HD
  unfold refO at HD
  generalize hg : w.heap.size = g at HD ⊢
  clear H1
  go_region_law (go_simp; (go_at_call 22; refine HD.out.mono ?_; rintro e w1 ⟨rfl, H2⟩; have k2 := cell_blk (j := 2) (v := .string (str pa2)) (H2.focB (g + 1)).blk rfl; have k3 := cell_blk (j := 3) (v := .string (str qu2)) (H2.focB (g + 1)).blk rfl; have k7 := cell_blk (j := 7) (v := .bool bq2) (H2.focB (g + 1)).blk rfl; have o2 := cell_blk (j := 2) (v := .string ⟨#[]⟩) (H2.focB (g + 1 + 1 + 1)).blk rfl; have o3 := cell_blk (j := 3) (v := .string ⟨#[]⟩) (H2.focB (g + 1 + 1 + 1)).blk rfl; have o7 := cell_blk (j := 7) (v := .bool false) (H2.focB (g + 1 + 1 + 1)).blk rfl; have zf : ∀ j, w1.frozen? ⟨g + 1 + 1 + 1, j, none⟩ = false := fun j => frz_blk (H2.focB (g + 1 + 1 + 1)).blk))
  all_goals
    have H3 := (((H2.focB (g + 1 + 1 + 1)).set 2 (.string (str (dotsF pa2)))).set 3 (.string (str qu2))).set 7 (.bool bq2)
    have H4 : Own W0 (((w1.setCell ⟨g + 1 + 1 + 1, 2, none⟩ (.string (str (dotsF pa2)))).setCell ⟨g + 1 + 1 + 1, 3, none⟩ (.string (str qu2))).setCell ⟨g + 1 + 1 + 1, 7, none⟩ (.bool bq2)) (_ * Blk (g + 1 + 1 + 1) (.cells #[.string (str sc2), .string (str au2), .string (str (dotsF pa2)), .string (str qu2), .string (str fr2), .bool true, .bool ba2, .bool bq2, .bool bf2] 28)) := H3
    clear k2 k3 k7 o2 o3 o7 zf H3 H2
    generalize ((w1.setCell ⟨g + 1 + 1 + 1, 2, none⟩ (.string (str (dotsF pa2)))).setCell ⟨g + 1 + 1 + 1, 3, none⟩ (.string (str qu2))).setCell ⟨g + 1 + 1 + 1, 7, none⟩ (.bool bq2) = w2 at H4 ⊢
    have H4 := Kp.mk H4
    go_wp2_with (refine own_load_row (g + 1 + 1 + 1) H4.out rfl 28 (.tmp 5) rfl rfl _ Tryd.underlying28 rfl (by kernel_rfl) ?_; go_must (refine own_store_row (g + 1 + 1) #[.string (str sc2), .string (str au2), .string (str (dotsF pa2)), .string (str qu2), .string (str fr2), .bool true, .bool ba2, .bool bq2, .bool bf2] H4.out rfl 28 (.tmp 4) (.tmp 89) rfl rfl rfl (by kernel_rfl) (by rfl) (by simp [Value.oneCell']) ?_))
    intro w3 H5
    go_wp2
    refine bodyPost_ret (results_cell_row rfl _ _ (g + 1 + 1) 28 _ (0, 0) _ rfl H5.blk Tryd.underlying28 rfl (by kernel_rfl)) rfl ?_
    unfold ResEnd
    rw [hres.out]
    exact ⟨rfl, H5.drop.drop.drop.drop⟩
end Go.Proofs.YtcoaecdgodfodaaDoorSep
