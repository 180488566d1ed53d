/- Own work: texts as values. -/
import Derived.Test.YtbijlkbfndkdcaaDoorStr
namespace Go.Proofs.YtbijlkbfndkdcaaDoorSep
open Go.RowKit Go.Lib Go.Proofs
/-- Texts as values. -/
def SV (l : List (List UInt8)) : List Value := l.map fun x => .string (str x)
theorem SV_append (a b : List (List UInt8)) : SV (a ++ b) = SV a ++ SV b := by simp [SV]
theorem SV_one (a : List (List UInt8)) : ∀ u ∈ SV a, u.oneCell' = true := by
  intro u hu
  simp only [SV, List.mem_map] at hu
  obtain ⟨b, _, rfl⟩ := hu
  rfl
theorem SV_length (a : List (List UInt8)) : (SV a).length = a.length := by simp [SV]
end Go.Proofs.YtbijlkbfndkdcaaDoorSep
