/- Own work: structs in memory are read and written whole. No program in it. -/
import Derived.Test.YtbijlkbfndkdcaaDoorLaw
import Derived.Laws.Rows
import Derived.Laws.Tables
namespace Go.Proofs.YtbijlkbfndkdcaaDoorSep
open Go.RowKit Go.Lib Go.Proofs

section
variable {W0 w : World} {P : Program} {ops : Array Oper} {rest : List Oper} {o : Oper} {a : Act} {Q : Exit → Act → World → Prop} {X Y : HP} {cs old : Array Value} {t : TypeId}
theorem own_load_row (g : Nat) (H0 : Own W0 w Y) [hF : FocBlk Y g (.cells cs t) X] (hgd : o.guard = none) (ty : TypeId) (x : Operand) (ho : o.op = .load ty x) (hx : a.eval x = .pointer (some ⟨g, 0, none⟩))
    (d : TypeDesc) (hu : P.underlying ty = some d) (hd : (match d with | .struct _ | .array _ _ => true | _ => false) = true) (hi : (P.info? ty).map (·.size) = some cs.size)
    (h : wpList P ops Q rest (a.put o.dst (.agg cs)) w) : wpList P ops Q (o :: rest) a w :=
  wpList_load_row hgd ty x ho g hx t cs (0, 0) d (H0.focB g).blk hu hd hi h
theorem own_store_row (g : Nat) (cells : Array Value) (H0 : Own W0 w Y) [hF : FocBlk Y g (.cells old t) X] (hgd : o.guard = none) (ty : TypeId) (x y : Operand) (ho : o.op = .store ty x y) (hx : a.eval x = .pointer (some ⟨g, 0, none⟩)) (hy : a.eval y = .agg cells)
    (hi : (P.info? ty).map (·.size) = some cells.size) (hold : old.size = cells.size) (h1 : cells.all (·.oneCell') = true)
    (h : ∀ w', Own W0 w' (X * Blk g (.cells cells t)) → wpList P ops Q rest (a.put o.dst undef) w') : wpList P ops Q (o :: rest) a w :=
  wpList_store_row hgd ty x y ho g cells hx hy t old (H0.focB g).blk hi hold h1
    (h _ ((H0.focB g).put (setRow_heap w g old cells t (0, 0) (H0.focB g).blk) (fun k hk _ => setRow_other w g k cells hk) rfl rfl rfl))
end
theorem cell_blk {w : World} {g j : Nat} {cs : Array Value} {t : TypeId} {fr : Nat × Nat} {v : Value} (h : w.heap[g]? = some (.cells cs t fr)) (hv : cs[j]? = some v) : w.cell? ⟨g, j, none⟩ = some v := by
  rw [cell_of_row w g j cs t fr h]; exact hv
theorem frz_blk {w : World} {g j : Nat} {cs : Array Value} {t : TypeId} (h : w.heap[g]? = some (.cells cs t (0, 0))) : w.frozen? ⟨g, j, none⟩ = false := by
  simp [World.frozen?, h]
end Go.Proofs.YtbijlkbfndkdcaaDoorSep
