/- Own work: what an iterator over a table hands, and what it needs. -/
import Derived.Test.YtllapldkcfhklaaDoorRange
import Derived.Test.YtllapldkcfhklaaDoorNTabO
namespace Go.Proofs.YtllapldkcfhklaaDoorSep
open Go.RowKit Go.Lib Go.Proofs

abbrev NV := Int × Value
def encNV (x : NV) : Array Value := #[.int .i64 x.1, x.2]
def NvOk (K : List Int) (V : List Value) (pre : List NV) (x : NV) : Prop := ∃ rest, K.zip V = pre ++ x :: rest
structure NvNeed (B g : Nat) (vk vv : Value) (K : List Int) (V : List Value) (W : World) : Prop where
  box : W.cell? ⟨B, 0, none⟩ = some (.pointer (some ⟨g, 0, none⟩))
  fk : W.cell? ⟨g, 0, none⟩ = some vk
  fv : W.cell? ⟨g, 1, none⟩ = some vv
  keys : Sl W vk 1 K.length (IV K)
  vals : Sl W vv 1 K.length V
def leftNV (n : Nat) : Value → Nat
  | .int _ k => n - k.toNat
  | _ => 0
end Go.Proofs.YtllapldkcfhklaaDoorSep
