/- Own work: the law's names, opened; what the program's second table of names holds. -/
import Derived.Test.YtbijlkbfndkdcaaDoorOpU
import Derived.Test.YtbijlkbfndkdcaaDoorOpQ
import Derived.Test.YtbijlkbfndkdcaaDoorOpenT
namespace Go.Proofs.YtbijlkbfndkdcaaDoorSep
open Go.RowKit Go.Lib Go.Proofs Go.ChangeShapes Go.WideShapes
theorem open_ops {H : Type} {enc : TypeId × Value → H} {W : World} {base : Nat} {spare : Nat → Bool} {held : Bool} {v : Value} {d : DataW H} {ps : List MemPlace} {b : Nat}
    (hv : Value.okWide Tryd.prog W .any b 22 v) (h : DataW.Trod enc Tryd.prog W base spare held 22 v d ps) :
    ∃ L : List Nm, Sl W v 2 L.length (namesC L) ∧ ∀ o ∈ L, (o.1.length = o.1.length) := by
  obtain ⟨L, h1, h2⟩ := open_slice_of (sz := 2) (fun (x : Nm) => [Value.string (str x.1), Value.int .i64 x.2]) (fun x => x.1.length = x.1.length) (by decide) Tryd.underlying22 (by kernel_rfl) (fun fuel cs x hx => by
    have hl := struct_len Tryd.underlying25 hx
    obtain ⟨n0, y0, f0⟩ := field_at Tryd.underlying25 hx (i := 0) rfl
    obtain ⟨n1, y1, f1⟩ := field_at Tryd.underlying25 hx (i := 1) rfl
    rw [show Tryd.prog.cellsOf 25 = 2 by kernel_rfl] at hl
    match cs, hl with
    | [c0, c1], _ =>
      have q1 : Tryd.prog.cellsOf 3 = 1 := by kernel_rfl
      have q2 : Tryd.prog.cellsOf 9 = 1 := by kernel_rfl
      replace f0 : DataW.trod enc Tryd.prog W base spare held n0 9 [c0] = some y0 := by simpa [q2] using f0
      replace f1 : DataW.trod enc Tryd.prog W base spare held n1 3 [c1] = some y1 := by simpa [q1] using f1
      obtain ⟨s1, e0, _⟩ := DataW.trod_string Tryd.underlying9 f0
      obtain ⟨k, e1, _⟩ := DataW.trod_int Tryd.underlying3 f1
      injection e0 with e0
      injection e1 with e1
      subst e0 e1
      exact ⟨(s1.data.toList, k), by rw [str_of], by simp, rfl⟩) hv h
  exact ⟨L, h1, fun o ho => (h2 o ho).2⟩
theorem both_laid {W : World} (h : laidMetH Tryd.prog [("woodcut/open.usual", _root_.Go.Proofs.YtbijlkbfndkdcaaDoor.Rows.laid_woodcut_open_usual), ("woodcut/open.implied", _root_.Go.Proofs.YtbijlkbfndkdcaaDoor.Rows.laid_woodcut_open_implied)] W) :
    ∃ u uI, (W.cell? ⟨1, 0, none⟩ = some u ∧ Sl W u 1 9 (SV usualT)) ∧ W.cell? ⟨0, 0, none⟩ = some uI ∧ Sl W uI 1 10 (SV implT) := by
  rw [MakeChecks.laidMetH_plain _ _ _ (by kernel_rfl)] at h
  obtain ⟨ps, ⟨g, t, cs, fuel, p, q, hg, ht, hv, hd, ⟨g2, t2, cs2, fuel2, p2, q2, hg2, ht2, hv2, hd2, _, _⟩, _⟩, _, _⟩ := h
  obtain rfl := Option.some.inj ((show Tryd.prog.globalNamed "woodcut/open.usual" = some 1 by kernel_rfl).symm.trans hg)
  obtain rfl := Option.some.inj ((show (Tryd.prog.globals[1]?).map (·.type) = some 31 by kernel_rfl).symm.trans ht)
  obtain rfl := Option.some.inj ((show Tryd.prog.globalNamed "woodcut/open.implied" = some 0 by kernel_rfl).symm.trans hg2)
  obtain rfl := Option.some.inj ((show (Tryd.prog.globals[0]?).map (·.type) = some 31 by kernel_rfl).symm.trans ht2)
  obtain ⟨u, h1, h2⟩ := laid_names (L := usualT) (fun r => World.var?_cell hg hv r) hd
  obtain ⟨uI, h3, h4⟩ := laid_names (L := implT) (fun r => World.var?_cell hg2 hv2 r) hd2
  exact ⟨u, uI, ⟨h1, h2⟩, h3, h4⟩
theorem Implied.of {W : World} {u : Value} (h : W.cell? ⟨0, 0, none⟩ = some u ∧ Sl W u 1 10 (SV implT)) : Implied W (Old W) u := fun _ H =>
  have hb := H.old
  ⟨(hb.cell (World.block_lt_of_cell? W _ h.1)).trans h.1, h.2.below hb⟩
end Go.Proofs.YtbijlkbfndkdcaaDoorSep
