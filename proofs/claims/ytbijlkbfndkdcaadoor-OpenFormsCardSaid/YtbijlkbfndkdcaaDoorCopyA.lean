/- Own work: an append within a region that draws its order, by its equation. No program in it. -/
import Derived.Test.YtbijlkbfndkdcaaDoorCopy
namespace Go.Proofs.YtbijlkbfndkdcaaDoorSep
open Go.RowKit Go.Lib

section
variable {P : Program} {ops : Array Oper} {o : Oper} {a : Act} {w : World} {K : Act → World → Prop} {Q : Exit → Act → World → Prop} {E : Prop}
theorem step_append_eq (hw : Region.wanted o (yielded ops a.tmps) = true) (d x : Operand) (t t' : TypeId) (ho : o.op = .call { callee := .builtin .append, args := #[d, x], argTypes := #[t, t'] }) (v u : Value) (hd : a.eval d = v) (hx : a.eval x = u) {v' : Value} {w' : World}
    (hr : (Builtin.append_ #[t, t'] o.type #[v, u]).run P w = .ok v' w') (h : K (a.put o.dst v') w') : if Region.wanted o (yielded ops a.tmps) = true then Oper.wp P o a w K Q else E := by
  rw [if_pos hw]
  unfold Oper.wp execOp
  simp only [ho, resolve, invoke, builtin, Sem.run_bind, Sem.run_pure, Result.andThen_ok, List.map_toArray, List.map_cons, List.map_nil, hd, hx, hr]
  exact h
end
end Go.Proofs.YtbijlkbfndkdcaaDoorSep
