/- Own work: elements that are alike: plain; a tag is added. -/
import Derived.Test.YtbijlkbfndkdcaaDoorOfG
import Derived.Test.YtbijlkbfndkdcaaDoorOpG
namespace Go.Proofs.YtbijlkbfndkdcaaDoorSep
open Go.RowKit Go.Lib Go.Proofs
def tagT (v : List UInt8) : List At := [(bT, cT), (aT, v)]
theorem al_same (v : List UInt8) : alikeA (tagA v) (tagA v) = true := by simp [alikeA, tagA, hitA, getAt, aT, bT]
theorem al_ta (v : List UInt8) : alikeA (tagT v) (tagA v) = true := by simp [alikeA, tagA, tagT, hitA, getAt, aT, bT]
theorem al_at (v : List UInt8) : alikeA (tagA v) (tagT v) = true := by simp [alikeA, tagA, tagT, hitA, getAt, aT, bT]
theorem al_no {u v : List UInt8} (h : u ≠ v) : alikeA (tagA u) (tagA v) = false := by simp [alikeA, tagA, hitA, getAt, aT, bT, Ne.symm h]
def xA (i : Int) (nm : List UInt8) (b : Nat) (v : List UInt8) : FormM := ⟨i, 2, nm, .slice (some ⟨b, 0, none⟩) 2 2, tagA v⟩
def xT (i : Int) (nm : List UInt8) (b : Nat) (v : List UInt8) : FormM := ⟨i, 2, nm, .slice (some ⟨b, 0, none⟩) 2 2, tagT v⟩
section
variable (nm v u : List UInt8) (b1 b2 b3 b4 : Nat)
theorem add_1 : formAdd [] (xA 1 nm b1 v) = [xA 1 nm b1 v] := rfl
theorem f_2 : formAdd [xA 1 nm b1 v] (xT 2 nm b2 v) = [xA 1 nm b1 v, xT 2 nm b2 v] := by simp [formAdd, cutS, goS, sameF, xA, xT, al_at]
theorem f_3 : formAdd [xA 1 nm b1 v, xT 2 nm b2 v] (xA 3 nm b3 v) = [xA 1 nm b1 v, xT 2 nm b2 v, xA 3 nm b3 v] := by simp [formAdd, cutS, goS, sameF, xA, xT, al_same, al_ta]
theorem f_4 : formAdd [xA 1 nm b1 v, xT 2 nm b2 v, xA 3 nm b3 v] (xA 4 nm b4 v) = [xT 2 nm b2 v, xA 3 nm b3 v, xA 4 nm b4 v] := by simp [formAdd, cutS, goS, sameF, xA, xT, al_same, al_ta]
theorem g_2 : formAdd [xA 1 nm b1 v, markM] (xT 2 nm b2 v) = [xA 1 nm b1 v, markM, xT 2 nm b2 v] := by simp [formAdd, cutS, goS, xA, xT, markM]
theorem g_3 : formAdd [xA 1 nm b1 v, markM, xT 2 nm b2 v] (xA 3 nm b3 v) = [xA 1 nm b1 v, markM, xT 2 nm b2 v, xA 3 nm b3 v] := by simp [formAdd, cutS, goS, sameF, xA, xT, markM, al_ta]
theorem g_4 : formAdd [xA 1 nm b1 v, markM, xT 2 nm b2 v, xA 3 nm b3 v] (xA 4 nm b4 v) = [xA 1 nm b1 v, markM, xT 2 nm b2 v, xA 3 nm b3 v, xA 4 nm b4 v] := by simp [formAdd, cutS, goS, sameF, xA, xT, markM, al_ta, al_same]
theorem h_2 (h : u ≠ v) : formAdd [xA 1 nm b1 v] (xA 2 nm b2 u) = [xA 1 nm b1 v, xA 2 nm b2 u] := by simp [formAdd, cutS, goS, sameF, xA, al_no h.symm]
theorem h_3 (h : u ≠ v) : formAdd [xA 1 nm b1 v, xA 2 nm b2 u] (xA 3 nm b3 v) = [xA 1 nm b1 v, xA 2 nm b2 u, xA 3 nm b3 v] := by simp [formAdd, cutS, goS, sameF, xA, al_no h, al_same]
theorem h_4 (h : u ≠ v) : formAdd [xA 1 nm b1 v, xA 2 nm b2 u, xA 3 nm b3 v] (xA 4 nm b4 v) = [xA 1 nm b1 v, xA 2 nm b2 u, xA 3 nm b3 v, xA 4 nm b4 v] := by simp [formAdd, cutS, goS, sameF, xA, al_no h, al_same]
theorem idF_f1 : idF 1 [xT 2 nm b2 v, xA 3 nm b3 v, xA 4 nm b4 v] = -1 := by simp [idF, atP, xA, xT, List.findIdx?_cons]
theorem idF_f2 : idF 2 [xT 2 nm b2 v, xA 3 nm b3 v, xA 4 nm b4 v] = 0 := by simp [idF, atP, xT, List.findIdx?_cons]
theorem last_f : goL nm [xT 2 nm b2 v, xA 3 nm b3 v, xA 4 nm b4 v] 3 = 4 := by simp [goL, xA]
theorem idF_one (fs : List FormM) : idF 1 (xA 1 nm b1 v :: fs) = 0 := by simp [idF, atP, xA, List.findIdx?_cons]
end
theorem HeldFs.more {W0 : World} {R Y : HP} {fs : List FormM} (h : HeldFs W0 R fs) : HeldFs W0 (R * Y) fs := fun f hf => ⟨(h f hf).1.more, (h f hf).2⟩
theorem HeldFs.append {W0 : World} {R : HP} {fs gs : List FormM} (h : HeldFs W0 R fs) (h2 : HeldFs W0 R gs) : HeldFs W0 R (fs ++ gs) := fun f hf => (List.mem_append.1 hf).elim (h f) (h2 f)
theorem cutS_sub {fs : List FormM} {r : Int × Nat} : ∀ f ∈ cutS fs r, f ∈ fs := by
  intro f hf
  rw [cutS] at hf
  split at hf
  · rcases List.mem_append.1 hf with h | h
    · exact List.mem_of_mem_take h
    · exact List.mem_of_mem_drop h
  · exact hf
theorem HeldFs.add {W0 : World} {R : HP} {fs : List FormM} {x : FormM} (h : HeldFs W0 R fs) (h2 : HeldFs W0 R [x]) : HeldFs W0 R (formAdd fs x) :=
  HeldFs.append (fun f hf => h f (cutS_sub f hf)) h2
theorem held_tag {W0 : World} {R : HP} (i : Int) (nm : List UInt8) (b : Nat) (v : List UInt8) : HeldFs W0 (R * tagB b v) [xA i nm b v] := fun f hf => by
  rw [List.mem_singleton.1 hf]
  exact ⟨held_blk (sz := 2) (m := 2) (by decide) rfl (by decide), Nat.le_of_ble_eq_true rfl, rfl⟩
theorem held_mark {W0 : World} {R : HP} : HeldFs W0 R [markM] := fun f hf => by
  rw [List.mem_singleton.1 hf]
  exact ⟨fun w _ => Sl.nil w 2, Nat.le_of_ble_eq_true rfl, rfl⟩
theorem FormsH.inside {W0 w : World} {R B : HP} {g : Nat} {fv : Value} {fs : List FormM} (H : Own W0 w (FormsH R g fv fs * B)) : Own W0 w (FormsH (R * B) g fv fs) :=
  H.eq (by unfold FormsH; ac_rfl)
/-- A tag is added. -/
theorem add_tag {W0 w : World} {R : HP} {g b : Nat} {fv : Value} {fs : List FormM} {v : List UInt8} (H : Own W0 w (FormsH R g fv fs * tagB b v)) (hl : fs.length ≤ 1000) (HF : HeldFs W0 R fs) (i : Int) (nm : List UInt8) :
    Calls Tryd.prog 15 #[.pointer (some ⟨g, 0, none⟩), .int .i64 i, tagV nm b] w fun e w' => e = .returned (.tuple #[]) ∧ ∃ fv', Own W0 w' (FormsH (R * tagB b v) g fv' (formAdd fs (xA i nm b v))) :=
  forms_Add (FormsH.inside H) hl HF.more (xA i nm b v) (held_tag i nm b v)
end Go.Proofs.YtbijlkbfndkdcaaDoorSep
