/- Own work: what an iterator over a table hands, and what it needs. -/
import Derived.Test.YtllapldkcfhklaaDoorRange
import Derived.Test.YtllapldkcfhklaaDoorTabO
namespace Go.Proofs.YtllapldkcfhklaaDoorSep
open Go.RowKit Go.Lib Go.Proofs

abbrev KV := List UInt8 × Value
def encKV (x : KV) : Array Value := #[.string (str x.1), x.2]
def KvOk (K : List (List UInt8)) (V : List Value) (pre : List KV) (x : KV) : Prop := ∃ rest, K.zip V = pre ++ x :: rest
structure KvNeed (B g : Nat) (vk vv : Value) (K : List (List UInt8)) (V : List Value) (W : World) : Prop where
  box : W.cell? ⟨B, 0, none⟩ = some (.pointer (some ⟨g, 0, none⟩))
  fk : W.cell? ⟨g, 0, none⟩ = some vk
  fv : W.cell? ⟨g, 1, none⟩ = some vv
  keys : Sl W vk 1 K.length (SV K)
  vals : Sl W vv 1 K.length V
def leftKV (n : Nat) : Value → Nat
  | .int _ k => n - k.toNat
  | _ => 0
end Go.Proofs.YtllapldkcfhklaaDoorSep
