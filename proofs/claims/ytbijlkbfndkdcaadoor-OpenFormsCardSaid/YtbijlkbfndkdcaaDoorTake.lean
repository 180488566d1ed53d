/- Own work: the head of a slice. No program in it. -/
import Derived.Test.YtbijlkbfndkdcaaDoorBytes
namespace Go.Proofs.YtbijlkbfndkdcaaDoorSep
open Go.RowKit Go.Lib Go.Proofs

theorem run_take_l {P : Program} {t e : TypeId} {i : TypeInfo} (ht : P.underlying t = some (.slice e)) (hi : P.info? e = some i) (A : Option Addr) (n c m : Nat) (h1 : m ≤ n) (h2 : n ≤ c) (k : IntKind) : ∀ w, (Instr.slice t (.slice A n c) none (some (.int k (m : Int))) none).run P w = .ok (.slice A m c) w := by
  intro w
  have hel : P.elem t = e := by simp [Program.elem, ht]
  have hu : P.underlying t = some (.slice (P.elem t)) := by rw [hel]; exact ht
  have ha : (A.map fun x => x.add 0) = A := by cases A <;> simp [Addr.add]
  rw [run_slice_h w t A n c hu k (m : Int) (by omega) (by omega), hel]
  simp [sizeOf, typeInfo, hi, sliced, Result.andThen, ha]
end Go.Proofs.YtbijlkbfndkdcaaDoorSep
