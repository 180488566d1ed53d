/- Own work: what the law OpenForms holds: its calls. -/
import Derived.Test.YtbijlkbfndkdcaaDoorOnB
import Derived.Test.YtbijlkbfndkdcaaDoorCutG
import Derived.Test.YtbijlkbfndkdcaaDoorTake
import Derived.Deep.CutBlock
namespace Go.Proofs.YtbijlkbfndkdcaaDoorSep
open Go.RowKit Go.Lib Go.Proofs
/-- What the law holds, and what the elements are, alike. -/
structure LawS (w wr : World) (g : Nat) (ov : Value) (own : List StM) : Prop where
  ex : ∃ (F : HP) (fs : List FormM) (fv : Value), Rel own fs ∧ HeldFs w F fs ∧ (∀ w9, Own w w9 F → Below w.heap.size w w9) ∧ Own w wr (FormsH (F * Row 52 4 ov own.length (stepsC own)) g fv fs)
def stepO (s : StM) : Obj := .cells #[.int .i64 s.K, .int .i64 s.N, .string (str s.name), .string (str s.val)] 52
def XH (F : HP) (g gs : Nat) (fv ov : Value) (s : StM) (own : List StM) (fs : List FormM) : HP := FormsH (F * Row 52 4 ov own.length (stepsC own)) g fv fs * Blk gs (stepO s)
section
variable {w wr : World} {F : HP} {g gs : Nat} {fv ov : Value} {s : StM} {own : List StM} {fs : List FormM}
theorem Own.xsb (H : Own w wr (XH F g gs fv ov s own fs)) : wr.cell? ⟨gs, 0, none⟩ = some (.int .i64 s.K) ∧ wr.cell? ⟨gs, 1, none⟩ = some (.int .i64 s.N) ∧ wr.cell? ⟨gs, 2, none⟩ = some (.string (str s.name)) ∧ wr.cell? ⟨gs, 3, none⟩ = some (.string (str s.val)) := by
  have h := (show Own w wr (_ * Blk gs (stepO s)) from H).blk
  exact ⟨cell_blk h rfl, cell_blk h rfl, cell_blk h rfl, cell_blk h rfl⟩
theorem Own.xfb (H : Own w wr (XH F g gs fv ov s own fs)) : wr.cell? ⟨g, 0, none⟩ = some fv :=
  cell_blk (show Own w wr (_ * Blk g (formsO fv) * Blk gs (stepO s)) from H).drop.blk rfl
theorem Own.xrows (H : Own w wr (XH F g gs fv ov s own fs)) : Own w wr (F * Row 55 11 fv fs.length (formsC fs) * Blk g (formsO fv) * Blk gs (stepO s) * Row 52 4 ov own.length (stepsC own)) := H.eq (by unfold XH FormsH; ac_rfl)
theorem Own.xforms (H : Own w wr (XH F g gs fv ov s own fs)) : Own w wr (F * Row 52 4 ov own.length (stepsC own) * Blk g (formsO fv) * Blk gs (stepO s) * Row 55 11 fv fs.length (formsC fs)) := H.eq (by unfold XH FormsH; ac_rfl)
theorem Own.xbase (H : Own w wr (XH F g gs fv ov s own fs)) : Own w wr F := (show Own w wr (F * _ * _ * _ * _) from H).drop.drop.drop.drop
/-- The cells of one that the law holds. -/
theorem Own.xat {A : Option Addr} {n c : Nat} (H : Own w wr (XH F g gs fv (.slice A n c) s own fs)) (q : Nat) (o : StM) (ho : own[q]? = some o) : ∃ g4, A = some ⟨g4, 0, none⟩ ∧ n = own.length ∧ own.length ≤ c ∧ c ≤ maxLen ∧ wr.cell? ⟨g4, q * 4, none⟩ = some (.int .i64 o.K) ∧ wr.cell? ⟨g4, q * 4 + 1, none⟩ = some (.int .i64 o.N) ∧ wr.cell? ⟨g4, q * 4 + 2, none⟩ = some (.string (str o.name)) ∧ wr.cell? ⟨g4, q * 4 + 3, none⟩ = some (.string (str o.val)) := by
  obtain ⟨gf, c1, hv, hc1, hc2, hcl⟩ := (Own.xrows H).stepAt q o ho
  injection hv with e1 e2 e3
  subst e1 e3
  exact ⟨gf, rfl, e2, hc1, hc2, hcl 0 _ (by omega) rfl, hcl 1 _ (by omega) rfl, hcl 2 _ (by omega) rfl, hcl 3 _ (by omega) rfl⟩
theorem Own.xlaw (H : Own w wr (XH F g gs fv ov s own fs)) (hR : Rel own fs) (HF : HeldFs w F fs) (hE : ∀ w9, Own w w9 F → Below w.heap.size w w9) : LawS w wr g ov own := ⟨F, fs, fv, hR, HF, hE, (show Own w wr (FormsH (F * Row 52 4 ov own.length (stepsC own)) g fv fs * Blk gs (stepO s)) from H).drop⟩
def XRest (F : HP) (g gs : Nat) (fv : Value) (s : StM) (fs : List FormM) : HP := F * Row 55 11 fv fs.length (formsC fs) * Blk g (formsO fv) * Blk gs (stepO s)
theorem Own.xout (H : Own w wr (XH F g gs fv ov s own fs)) : Own w wr (XRest F g gs fv s fs * Row 52 4 ov own.length (stepsC own)) := H.eq (by unfold XRest XH FormsH; ac_rfl)
theorem Own.xin {ow2 : List StM} (H : Own w wr (XRest F g gs fv s fs * Row 52 4 ov ow2.length (stepsC ow2))) : Own w wr (XH F g gs fv ov s ow2 fs) := H.eq (by unfold XRest XH FormsH; ac_rfl)
theorem Own.xsnoc {x : StM} (H : Own w wr (XRest F g gs fv s fs * Row 52 4 ov (own.length + 1) (stepsC own ++ x.cells))) : Own w wr (XH F g gs fv ov s (own ++ [x]) fs) := Own.xin (H.eq (by rw [stepsC_snoc, List.length_append, List.length_singleton]))
theorem Own.xcut {i : Nat} (hi : i < own.length) (H : Own w wr (XRest F g gs fv s fs * Row 52 4 ov (i + (own.length - (i + 1))) (stepsC (own.take i) ++ stepsC (own.drop (i + 1))))) : Own w wr (XH F g gs fv ov s (cutJ own i) fs) :=
  Own.xin (H.eq (by rw [cutJ_len _ _ hi, cutJ, stepsC_append, show i + (own.length - (i + 1)) = own.length - 1 by omega]))
theorem Own.xshrink {A : Option Addr} {m c : Nat} (hm : m < own.length) (H : Own w wr (XH F g gs fv (.slice A (m + 1) c) s (own.take (m + 1)) fs)) : Own w wr (XH F g gs fv (.slice A m c) s (own.take m) fs) := by
  have hl1 : (own.take (m + 1)).length = m + 1 := by rw [List.length_take]; omega
  have hl2 : (own.take m).length = m := by rw [List.length_take]; omega
  have h := H.xout
  rw [hl1] at h
  have h2 := h.shrinkS (m := m) (by omega)
  rw [stepsC_take _ _ (by omega), List.take_take, Nat.min_eq_left (by omega)] at h2
  exact Own.xin (by rw [hl2]; exact h2)
theorem HeldFs.sub {W0 : World} {R : HP} {fs gs : List FormM} (h : HeldFs W0 R fs) (hs : ∀ f ∈ gs, f ∈ fs) : HeldFs W0 R gs := fun f hf => h f (hs f hf)
theorem remF_hit {n : Int} {fs : List FormM} {i : Nat} (h : idF n fs = (i : Int)) : remF n fs = cutJ fs i := by
  rw [remF, h, if_pos (by omega), Int.toNat_natCast, cutJ]
theorem remF_miss {n : Int} {fs : List FormM} (h : idF n fs < 0) : remF n fs = fs := by rw [remF, if_neg (by omega)]
theorem cutJ_sub {α : Type} {l : List α} {i : Nat} : ∀ x ∈ cutJ l i, x ∈ l := fun x hx => by
  rcases List.mem_append.1 hx with h | h
  · exact List.mem_of_mem_take h
  · exact List.mem_of_mem_drop h
theorem idF_neg (fs : List FormM) : idF (-1) fs = -1 := idF_miss (by rw [List.any_eq_false]; intro f _; simp [atP])
def oneA (b : Nat) (v : List UInt8) : HP := Blk b (.cells #[.string ⟨#[97]⟩, .string (str v)] 42)
def xO (n : Int) (nm : List UInt8) (b : Nat) (v : List UInt8) : FormM := ⟨n, 2, nm, .slice (some ⟨b, 0, none⟩) 1 1, [(aT, v)]⟩
theorem held_one {W0 : World} {R : HP} (n : Int) (nm : List UInt8) (b : Nat) (v : List UInt8) : HeldFs W0 (R * oneA b v) [xO n nm b v] := fun f hf => by
  rw [List.mem_singleton.1 hf]
  exact ⟨held_blk (sz := 2) (m := 1) (by decide) rfl (by decide), Nat.le_of_ble_eq_true rfl, rfl⟩
theorem x_add {n : Int} {nm v : List UInt8} {b : Nat} (H : Own w wr (XH F g gs fv ov s own fs * oneA b v)) (hl : fs.length ≤ 1000) (HF : HeldFs w F fs) :
    Calls Tryd.prog 15 #[.pointer (some ⟨g, 0, none⟩), .int .i64 n, .agg #[.int .i64 2, .string (str nm), .slice (some ⟨b, 0, none⟩) 1 1, .bool false, .string ⟨#[]⟩, .string ⟨#[]⟩, .string ⟨#[]⟩, .bool false, .bool false, .bool false]] wr fun e w' => e = .returned (.tuple #[]) ∧ ∃ fv', Own w w' (XH (F * oneA b v) g gs fv' ov s own (formAdd fs (xO n nm b v))) := by
  have h := forms_Add (R := F * Row 52 4 ov own.length (stepsC own) * Blk gs (stepO s) * oneA b v) (g := g) (fv := fv) (fs := fs) (H.eq (by unfold XH FormsH; ac_rfl)) hl HF.more.more.more (xO n nm b v) (held_one n nm b v)
  refine h.mono ?_
  rintro e w' ⟨rfl, fv', h2⟩
  exact ⟨rfl, fv', h2.eq (by unfold XH FormsH; ac_rfl)⟩
theorem x_mark (H : Own w wr (XH F g gs fv ov s own fs)) (hl : fs.length ≤ 1000) :
    Calls Tryd.prog 16 #[.pointer (some ⟨g, 0, none⟩)] wr fun e w' => e = .returned (.tuple #[]) ∧ ∃ fv', Own w w' (XH F g gs fv' ov s own (fs ++ [markM])) := by
  refine (forms_Mark (R := F * Row 52 4 ov own.length (stepsC own) * Blk gs (stepO s)) (g := g) (fv := fv) (fs := fs) (H.eq (by unfold XH FormsH; ac_rfl)) hl).mono ?_
  rintro e w' ⟨rfl, fv', h2⟩
  exact ⟨rfl, fv', h2.eq (by unfold XH FormsH; ac_rfl)⟩
theorem x_remove (H : Own w wr (XH F g gs fv ov s own fs)) (hl : fs.length ≤ 1000) (HF : HeldFs w F fs) (n : Int) :
    Calls Tryd.prog 19 #[.pointer (some ⟨g, 0, none⟩), .int .i64 n] wr fun e w' => e = .returned (.tuple #[]) ∧ ∃ fv', Own w w' (XH F g gs fv' ov s own (remF n fs)) := by
  refine (forms_Remove (R := F * Row 52 4 ov own.length (stepsC own) * Blk gs (stepO s)) (g := g) (fv := fv) (fs := fs) (H.eq (by unfold XH FormsH; ac_rfl)) hl HF.more.more n).mono ?_
  rintro e w' ⟨rfl, fv', h2⟩
  exact ⟨rfl, fv', h2.eq (by unfold XH FormsH; ac_rfl)⟩
theorem x_clear (H : Own w wr (XH F g gs fv ov s own fs)) (hl : fs.length ≤ 1000) (HF : HeldFs w F fs) :
    Calls Tryd.prog 20 #[.pointer (some ⟨g, 0, none⟩)] wr fun e w' => e = .returned (.tuple #[]) ∧ ∃ fv', Own w w' (XH F g gs fv' ov s own (clrF fs)) := by
  refine (forms_Clear (R := F * Row 52 4 ov own.length (stepsC own) * Blk gs (stepO s)) (g := g) (fv := fv) (fs := fs) (H.eq (by unfold XH FormsH; ac_rfl)) hl (fv_of H.xbase HF)).mono ?_
  rintro e w' ⟨rfl, fv', h2⟩
  exact ⟨rfl, fv', h2.eq (by unfold XH FormsH; ac_rfl)⟩
theorem x_last (H : Own w wr (XH F g gs fv ov s own fs)) (hl : fs.length ≤ 1000) (nm : List UInt8) :
    Calls Tryd.prog 18 #[fv, .string (str nm)] wr fun e w' => e = .returned (.int .i64 (goL nm fs fs.length)) ∧ w' = wr := forms_Last H.xforms hl nm
theorem x_at (H : Own w wr (XH F g gs fv ov s own fs)) (hl : fs.length ≤ 1000) (HF : HeldFs w F fs) (n : Int) :
    Calls Tryd.prog 17 #[fv, .int .i64 n] wr fun e w' => e = .returned (.int .i64 (idF n fs)) ∧ Own w w' (XH F g gs fv ov s own fs) := by
  refine (forms_At H.xforms hl (fv_of H.xbase HF) n).mono ?_
  rintro e w' ⟨rfl, h2⟩
  exact ⟨rfl, h2.eq (by unfold XH FormsH; ac_rfl)⟩
/-- The cells of one of the elements. -/
theorem Own.xfat {A : Option Addr} {n c : Nat} (H : Own w wr (XH F g gs (.slice A n c) ov s own fs)) (q : Nat) (f : FormM) (hf : fs[q]? = some f) : ∃ g5, A = some ⟨g5, 0, none⟩ ∧ n = fs.length ∧ fs.length ≤ c ∧ c ≤ maxLen ∧ wr.cell? ⟨g5, q * 11, none⟩ = some (.int .i64 f.node) ∧ wr.cell? ⟨g5, q * 11 + 2, none⟩ = some (.string (str f.name)) := by
  obtain ⟨gf, c1, hv, hc1, hc2, hcl⟩ := H.xforms.formAt q f hf
  injection hv with e1 e2 e3
  subst e1 e3
  exact ⟨gf, rfl, e2, hc1, hc2, hcl 0 _ (by omega) rfl, hcl 2 _ (by omega) rfl⟩
end
end Go.Proofs.YtbijlkbfndkdcaaDoorSep
