/- Own work: a region that draws its order, whose operations only read, and whose callees keep what is owned: one walk of the order of the text. No program in it. -/
import Derived.Test.YtbijlkbfndkdcaaDoorBig
namespace Go.Proofs.YtbijlkbfndkdcaaDoorSep
open Go.RowKit Go.Lib Go.Proofs

/-- A world in which this is owned. -/
structure OwnW (W0 : World) (Y : HP) where
  w : World
  own : Own W0 w Y
section
variable {P : Program} {W0 w : World} {Y : HP} {a : Act} {Q : Exit → Act → World → Prop}
theorem wp_region_own {id : Nat} {l : List Oper} (H : Own W0 w Y) (hm : P.follows .mixedOrders = true) (hB : Region.lexB .any l.toArray = true)
    (h : wpQuiet P l.toArray (fun w' => ∃ x : OwnW W0 Y, w' = x.w) (fun a' => ∀ w', (∃ x : OwnW W0 Y, w' = x.w) → Q .normal a' w') l a) : (Code.region id l.toArray true).wp P Q a w :=
  wp_region_quiet (C := fun w' => ∃ x : OwnW W0 Y, w' = x.w) hm hB ⟨⟨_, H.drew⟩, rfl⟩ (by simpa using h)
theorem own_quiet_call {f : FuncId} {args : Array Value} {v : Value} {x : OwnW W0 Y} (h : Calls P f args x.w fun e w' => e = .returned v ∧ Own W0 w' Y) :
    Calls P f args x.w fun e w'' => e = .returned v ∧ ∃ y : OwnW W0 Y, w'' = y.w :=
  h.mono fun _ w' ⟨he, hw⟩ => ⟨he, ⟨w', hw⟩, rfl⟩
end
end Go.Proofs.YtbijlkbfndkdcaaDoorSep
