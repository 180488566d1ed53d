/- Own work: elements whose look goes on: a row of them; Mark, Last, by walks. -/
import Derived.Test.YtbijlkbfndkdcaaDoorOfB
import Derived.Test.YtbijlkbfndkdcaaDoorOpD
namespace Go.Proofs.YtbijlkbfndkdcaaDoorSep
open Go.RowKit Go.Lib Go.Proofs
/-- An element whose look goes on, or a mark (node -1). -/
structure FormM where
  node : Int
  k : Int
  name : List UInt8
  av : Value
  A : List At
def FormM.cells (f : FormM) : List Value := [.int .i64 f.node, .int .i64 f.k, .string (str f.name), f.av, .bool false, .string ⟨#[]⟩, .string ⟨#[]⟩, .string ⟨#[]⟩, .bool false, .bool false, .bool false]
def formsC (L : List FormM) : List Value := L.flatMap FormM.cells
theorem formsC_len (L : List FormM) : (formsC L).length = L.length * 11 := by
  induction L with
  | nil => rfl
  | cons x L ih =>
    rw [formsC] at ih
    rw [formsC, List.flatMap_cons, List.length_append, ih, List.length_cons]
    simp [FormM.cells]
    omega
theorem formsC_get (L : List FormM) (i j : Nat) (x : FormM) (h : L[i]? = some x) (hj : j < 11) : (formsC L)[i * 11 + j]? = x.cells[j]? := by
  induction L generalizing i with
  | nil => simp at h
  | cons y L ih =>
    rw [formsC, List.flatMap_cons]
    have hy : y.cells.length = 11 := rfl
    cases i with
    | zero =>
      simp only [List.getElem?_cons_zero, Option.some.injEq] at h
      subst h
      rw [Nat.zero_mul, Nat.zero_add, List.getElem?_append_left (by omega)]
    | succ i =>
      rw [List.getElem?_cons_succ] at h
      have := ih i h
      rw [List.getElem?_append_right (by rw [hy]; omega), hy, show (i + 1) * 11 + j - 11 = i * 11 + j by omega]
      exact this
theorem formsC_snoc (L : List FormM) (x : FormM) : formsC (L ++ [x]) = formsC L ++ x.cells := by simp [formsC]
theorem info_form : (Tryd.prog.info? 55).map (fun i => (i.zero, i.size, i.bytes)) = some (some (.agg #[.int .i64 0, .int .i64 0, .string ByteArray.empty, .slice none 0 0, .bool false, .string ByteArray.empty, .string ByteArray.empty, .string ByteArray.empty, .bool false, .bool false, .bool false]), 11, 120) := by kernel_rfl
def formsO (v : Value) : Obj := .cells #[v] 45
def markM : FormM := ⟨-1, 0, [], .slice none 0 0, []⟩
section
variable {W0 w : World} {R : HP} {g : Nat} {fv : Value} {fs : List FormM}
/-- The cells of one of a row. -/
theorem Own.formAt {P : HP} (H : Own W0 w (P * Row 55 11 fv fs.length (formsC fs))) (i : Nat) (x : FormM) (hx : fs[i]? = some x) : ∃ gf c, fv = .slice (some ⟨gf, 0, none⟩) fs.length c ∧ fs.length ≤ c ∧ c ≤ maxLen ∧ ∀ (j : Nat) (u : Value), j < 11 → x.cells[j]? = some u → w.cell? ⟨gf, i * 11 + j, none⟩ = some u := by
  have hi := (List.getElem?_eq_some_iff.1 hx).1
  obtain ⟨gf, cap, cur, rfl, h1, h2, h3, h4, HB⟩ := H.openN (by omega)
  exact ⟨gf, cap, rfl, h1, h2, fun j u hj hu => cell_blk HB.blk (take_cell h4 (by omega) ((formsC_get fs i j x hx hj).trans hu))⟩
set_option maxHeartbeats 1000000 in
theorem forms_Mark (H : Own W0 w (R * Row 55 11 fv fs.length (formsC fs) * Blk g (formsO fv))) (hl : fs.length ≤ 1000) :
    Calls Tryd.prog 16 #[.pointer (some ⟨g, 0, none⟩)] w fun e w' => e = .returned (.tuple #[]) ∧ ∃ fv', Own W0 w' (R * Row 55 11 fv' (fs ++ [markM]).length (formsC (fs ++ [markM])) * Blk g (formsO fv')) := by
  obtain ⟨_, A, c, rfl, _⟩ := (H.rot.sl (by decide))
  have k1 := cell_blk (j := 0) (v := .slice A fs.length c) H.blk rfl
  have HB := H.box (.cells #[.int .i64 (-1), .int .i64 0, .string ⟨#[]⟩, .slice none 0 0, .bool false, .string ⟨#[]⟩, .string ⟨#[]⟩, .string ⟨#[]⟩, .bool false, .bool false, .bool false] 55)
  have hsl := sl_box w #[.int .i64 (-1), .int .i64 0, .string ⟨#[]⟩, .slice none 0 0, .bool false, .string ⟨#[]⟩, .string ⟨#[]⟩, .string ⟨#[]⟩, .bool false, .bool false, .bool false] 55 11 1 rfl (by decide)
  replace HB := Kp.mk HB
  replace hsl := Kp.mk hsl
  clear H
  go_enter Tryd.func16, Tryd.ntmps16
  go_wp2_with (at_builtin; go_must (refine own_append (v := .slice A fs.length c) (vx := .slice (some ⟨w.heap.size, 0, none⟩) 1 1) HB.out rfl (.tmp 7) (.tmp 9) 45 (.agg #[.int .i64 0, .int .i64 0, .string ByteArray.empty, .slice none 0 0, .bool false, .string ByteArray.empty, .string ByteArray.empty, .string ByteArray.empty, .bool false, .bool false, .bool false]) 120 1 (FormM.cells markM) rfl Tryd.underlying45 info_form rfl (by decide) rfl rfl hsl.out (by simp [Value.oneCell', FormM.cells, markM]) ?c2 ?c3 ?_))
  case c2 => unfold maxLen; omega
  case c3 => omega
  intro v2 w2 H2 hz2 _
  obtain ⟨_, A2, c2, hv2, _⟩ := H2.sl (by decide)
  subst hv2
  have f1 := frz_blk (j := 0) (H2.focB g).blk
  have k2 := cell_blk (j := 0) (v := .slice A fs.length c) (H2.focB g).blk rfl
  have H3 := Kp.mk ((H2.focB g).set 0 (.slice A2 (fs.length + 1) c2))
  clear H2 HB hsl
  go_wp2
  go_end0
  refine ⟨rfl, .slice A2 (fs.length + 1) c2, ?_⟩
  rw [formsC_snoc, List.length_append, List.length_singleton]
  exact H3.out
end
end Go.Proofs.YtbijlkbfndkdcaaDoorSep
