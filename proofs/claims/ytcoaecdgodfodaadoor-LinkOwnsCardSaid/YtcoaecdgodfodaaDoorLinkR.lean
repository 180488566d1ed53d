/- Own work: four results, the second of which is a cell. -/
import Derived.Test.YtcoaecdgodfodaaDoorMetaC
import Derived.Test.YtcoaecdgodfodaaDoorBig
namespace Go.Proofs.YtcoaecdgodfodaaDoorSep
open Go.RowKit Go.Lib Go.Proofs Go.Shelf
theorem results_four {fn : Func} {t u v q : Tmp} {ty : TypeId} (h : fn.results = #[.tmp t, .cell u ty, .tmp v, .tmp q]) (tmps : Array Value) (P : Program) (w : World) (a : Addr) (hu : tmps.getD u undef = .pointer (some a)) (x : Value) (hx : (loadVar ty a).run P w = .ok x w) :
    (results fn tmps).run P w = .ok (.tuple #[tmps.getD t undef, x, tmps.getD v undef, tmps.getD q undef]) w := by
  have hu' : tmps[u]?.getD undef = .pointer (some a) := by simpa using hu
  simp [results, h, hu', asAddr, hx]
end Go.Proofs.YtcoaecdgodfodaaDoorSep
