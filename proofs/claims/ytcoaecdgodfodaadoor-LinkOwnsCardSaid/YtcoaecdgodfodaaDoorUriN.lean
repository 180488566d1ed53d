/- Own work: uri.Resolve at every two references. -/
import Derived.Test.YtcoaecdgodfodaaDoorUriI
import Derived.Test.YtcoaecdgodfodaaDoorUriJ
import Derived.Test.YtcoaecdgodfodaaDoorUriK
namespace Go.Proofs.YtcoaecdgodfodaaDoorSep
open Go.RowKit Go.Lib Go.Proofs

theorem uri_Resolve {W0 w : World} {R : HP} (H : Own W0 w R) (b r : RefL) (hb : b.path.length ≤ 1000000000) (hr : r.path.length ≤ 1000000000) :
    Calls Tryd.prog 9 #[.agg (refV b), .agg (refV r)] w (ResEnd W0 R b r) := by
  cases hh : r.hs with
  | true => exact resolve_scheme H b r hr hh
  | false =>
    cases ha : r.ha with
    | true => exact resolve_auth H b r hr hh ha
    | false =>
      by_cases hp : r.path = []
      · exact resolve_empty H b r hh ha hp
      · by_cases h2 : r.path.head? = some 47
        · exact resolve_abs H b r hr hh ha h2
        · exact resolve_rel H b r hb hr hh ha hp h2
theorem uri_Inside {W0 w : World} {R : HP} (H : Own W0 w R) (r : RefL) : Calls Tryd.prog 16 #[.agg (refV r)] w fun e w' => e = .returned (.bool (!r.hs && !r.ha)) ∧ Own W0 w' R := by
  obtain ⟨sc, au, pa, qu, fr, bs, ba, bq, bf⟩ := r
  have HA := H.alloc (refO sc au pa qu fr bs ba bq bf)
  have HA := Kp.mk HA
  unfold refV
  dsimp only
  cases bs
  all_goals
    go_enter Tryd.func16, Tryd.ntmps16
    go_wp2
    go_ret
    exact ⟨rfl, HA.out.drop⟩
end Go.Proofs.YtcoaecdgodfodaaDoorSep
