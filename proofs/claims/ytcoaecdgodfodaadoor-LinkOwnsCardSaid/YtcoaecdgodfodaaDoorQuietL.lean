/- Own work: a struct read whole within a region that draws its order. No program in it. -/
import Derived.Test.YtcoaecdgodfodaaDoorQuiet
namespace Go.Proofs.YtcoaecdgodfodaaDoorSep
open Go.RowKit Go.Lib Go.Proofs

theorem own_quiet_load {P : Program} {W0 : World} {Y X : HP} {a : Act} {o : Oper} {K : Act → Prop} {cs : Array Value} {t : TypeId} (g : Nat) [hF : FocBlk Y g (.cells cs t) X] (ty : TypeId) (x : Operand) (ho : o.op = .load ty x) (hx : a.eval x = .pointer (some ⟨g, 0, none⟩))
    (d : TypeDesc) (hu : P.underlying ty = some d) (hd : (match d with | .struct _ | .array _ _ => true | _ => false) = true) (hi : (P.info? ty).map (·.size) = some cs.size) (hk : K (a.put o.dst (.agg cs))) : o.quiet P a (fun w' => ∃ x : OwnW W0 Y, w' = x.w) K := by
  refine ⟨.agg cs, ?_, hk⟩
  rintro w ⟨y, rfl⟩
  unfold Oper.quietAt execOp
  simp only [ho, hx, Instr.loadAt, Instr.sureAddr, Sem.run_bind, Sem.run_pure, Result.andThen_ok, run_loadVar_row y.w g t ty cs (0, 0) d (y.own.focB g).blk hu hd hi]
  exact ⟨rfl, rfl⟩
end Go.Proofs.YtcoaecdgodfodaaDoorSep
