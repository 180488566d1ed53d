/- Own work: Forms.At, by a walk; the law OpenAlike's tag. -/
import Derived.Test.YtbijlkbfndkdcaaDoorOfF
namespace Go.Proofs.YtbijlkbfndkdcaaDoorSep
open Go.RowKit Go.Lib Go.Proofs
section
variable {W0 w : World} {R : HP} {fv : Value} {fs : List FormM}
def FvH (fs : List FormM) : Prop := ∀ f ∈ fs, ∃ (Af : Option Addr) (nf cf : Nat), f.av = .slice Af nf cf
set_option maxHeartbeats 2000000 in
theorem idx_forms {gn : Nat} {n : Int} (H : Own W0 w (R * Row 55 11 fv fs.length (formsC fs) * Blk gn (.cells #[.int .i64 n] 3))) (hl : fs.length ≤ 1000) (hav : FvH fs) :
    Calls Tryd.prog 32 #[fv, .func (.func 33) #[] #[.pointer (some ⟨gn, 0, none⟩)]] w fun e w' => e = .returned (.int .i64 (idF n fs)) ∧ Own W0 w' (R * Row 55 11 fv fs.length (formsC fs) * Blk gn (.cells #[.int .i64 n] 3)) := by
  obtain ⟨_, A0, c0, rfl, _⟩ := H.drop.sl (by decide)
  obtain ⟨T, hT⟩ : ∃ T, Kp (idF n fs = T) := ⟨_, ⟨rfl⟩⟩
  rw [hT.out]
  replace H := Kp.mk H
  replace hav := Kp.mk hav
  go_enter Tryd.func32, Tryd.ntmps32
  go_wp2
  go_loopg [8] fs.length (fun gk v wr => ∃ pos : Nat, v = .int .i64 pos ∧ pos ≤ fs.length ∧ Kp (gk + pos = fs.length) ∧ Kp ((fs.take pos).any (atP n) = false) ∧ Kp (Own W0 wr (R * Row 55 11 (.slice A0 fs.length c0) fs.length (formsC fs) * Blk gn (.cells #[.int .i64 n] 3))))
  case atStart => exact ⟨0, rfl, Nat.zero_le _, ⟨by omega⟩, ⟨rfl⟩, H⟩
  case round =>
    obtain ⟨pos, rfl, hpos, hgk, hany, HO⟩ := hrel
    by_cases hlt : pos < fs.length
    · obtain ⟨f, hf⟩ : ∃ f, fs[pos]? = some f := ⟨_, List.getElem?_eq_getElem hlt⟩
      obtain ⟨gf, c1, hv, hc1, hc2, hcl⟩ := HO.out.drop.formAt pos f hf
      injection hv with e1 e2 e3
      subst e1 e3
      obtain ⟨Af, nf, cf, hfa⟩ := hav.out f (List.mem_of_getElem? hf)
      have HX := at_is HO.out f hfa
      have hx1 := fun h => idF_hit (n := n) hf hany.out h
      have hx2 := fun h => any_more (p := atP n) hf hany.out h
      obtain ⟨q, hq⟩ : ∃ q, atP n f = q := ⟨_, rfl⟩
      rw [hq] at HX hx1 hx2
      obtain ⟨node, k, name, av, A⟩ := f
      dsimp only at hfa
      subst hfa
      unfold FormM.cells at HX
      dsimp only at HX
      have d0 : wr.cell? ⟨gf, pos * 11, none⟩ = some (.int .i64 node) := hcl 0 _ (by omega) rfl
      have d1 : wr.cell? ⟨gf, pos * 11 + 1, none⟩ = some (.int .i64 k) := hcl 1 _ (by omega) rfl
      have d2 : wr.cell? ⟨gf, pos * 11 + 2, none⟩ = some (.string (str name)) := hcl 2 _ (by omega) rfl
      have d3 : wr.cell? ⟨gf, pos * 11 + 3, none⟩ = some (.slice Af nf cf) := hcl 3 _ (by omega) rfl
      have d4 : wr.cell? ⟨gf, pos * 11 + 4, none⟩ = some (.bool false) := hcl 4 _ (by omega) rfl
      have d5 : wr.cell? ⟨gf, pos * 11 + 5, none⟩ = some (.string ⟨#[]⟩) := hcl 5 _ (by omega) rfl
      have d6 : wr.cell? ⟨gf, pos * 11 + 6, none⟩ = some (.string ⟨#[]⟩) := hcl 6 _ (by omega) rfl
      have d7 : wr.cell? ⟨gf, pos * 11 + 7, none⟩ = some (.string ⟨#[]⟩) := hcl 7 _ (by omega) rfl
      have d8 : wr.cell? ⟨gf, pos * 11 + 8, none⟩ = some (.bool false) := hcl 8 _ (by omega) rfl
      have d9 : wr.cell? ⟨gf, pos * 11 + 9, none⟩ = some (.bool false) := hcl 9 _ (by omega) rfl
      have d10 : wr.cell? ⟨gf, pos * 11 + 10, none⟩ = some (.bool false) := hcl 10 _ (by omega) rfl
      replace HX := Kp.mk HX
      replace hx1 := Kp.mk hx1
      replace hx2 := Kp.mk hx2
      clear hcl hf hq H
      go_wp2_with fail
      refine HX.out.mono ?_
      rintro e w2 ⟨rfl, H2⟩
      replace H2 := Kp.mk H2
      clear HX d0 d1 d2 d3 d4 d5 d6 d7 d8 d9 d10
      rcases q with _ | _
      · replace hx2 := Kp.mk (hx2.out rfl)
        go_wp2
        go_roundg (fs.length - (pos + 1))
        case rel => exact ⟨pos + 1, by go_num, by omega, ⟨by omega⟩, hx2, H2⟩
        case measure => have := hgk.out; omega
      · have hT2 : T = (pos : Int) := hT.out.symm.trans (hx1.out rfl)
        subst hT2
        go_wp2
        go_ret
        exact ⟨rfl, H2.out⟩
    · obtain rfl : pos = fs.length := by omega
      rw [List.take_length] at hany
      have hT2 : T = -1 := hT.out.symm.trans (idF_miss hany.out)
      subst hT2
      clear hany
      go_wp2
      go_ret
      exact ⟨rfl, HO.out⟩
theorem forms_At (H : Own W0 w (R * Row 55 11 fv fs.length (formsC fs))) (hl : fs.length ≤ 1000) (hav : FvH fs) (n : Int) :
    Calls Tryd.prog 17 #[fv, .int .i64 n] w fun e w' => e = .returned (.int .i64 (idF n fs)) ∧ Own W0 w' (R * Row 55 11 fv fs.length (formsC fs)) := by
  have HI := Kp.mk (idx_forms (H.alloc (.cells #[.int .i64 n] 3)) hl hav)
  clear H
  go_enter Tryd.func17, Tryd.ntmps17
  go_wp2_with fail
  refine HI.out.mono ?_
  rintro e w1 ⟨rfl, H1⟩
  replace H1 := Kp.mk H1.drop
  go_wp2
  go_ret
  exact ⟨rfl, H1.out⟩
def aT : List UInt8 := [97]
def bT : List UInt8 := [98]
def cT : List UInt8 := [99]
def tagA (v : List UInt8) : List At := [(aT, v), (bT, cT)]
def tagV (nm : List UInt8) (b : Nat) : Value := .agg #[.int .i64 2, .string (str nm), .slice (some ⟨b, 0, none⟩) 2 2, .bool false, .string ⟨#[]⟩, .string ⟨#[]⟩, .string ⟨#[]⟩, .bool false, .bool false, .bool false]
def tagB (b : Nat) (v : List UInt8) : HP := Blk b (.cells #[.string ⟨#[97]⟩, .string (str v), .string ⟨#[98]⟩, .string ⟨#[99]⟩] 42)
theorem law_tag {gn : Nat} (H : Own W0 w R) (nm v : List UInt8) (hn : ∀ w9, Own W0 w9 R → w9.cell? ⟨gn, 0, none⟩ = some (.string (str nm))) :
    Calls Tryd.prog 14 #[.string (str v), .pointer (some ⟨gn, 0, none⟩)] w fun e w' => ∃ b, e = .returned (tagV nm b) ∧ Own W0 w' (R * tagB b v) := by
  have H1 := H.alloc (.cells #[.int .i64 0, .string ⟨#[]⟩, .slice none 0 0, .bool false, .string ⟨#[]⟩, .string ⟨#[]⟩, .string ⟨#[]⟩, .bool false, .bool false, .bool false] 40)
  have H2 := H1.alloc (.cells #[.string ⟨#[97]⟩, .string (str v), .string ⟨#[98]⟩, .string ⟨#[99]⟩] 42)
  have kn := hn _ (H.box (.cells #[.int .i64 0, .string ⟨#[]⟩, .slice none 0 0, .bool false, .string ⟨#[]⟩, .string ⟨#[]⟩, .string ⟨#[]⟩, .bool false, .bool false, .bool false] 40))
  rw [World.size_alloc] at H2
  replace H2 := Kp.mk H2.rot
  clear H H1 hn
  go_enter Tryd.func14, Tryd.ntmps14
  go_wp2_with (refine own_store_row w.heap.size #[.int .i64 2, .string (str nm), .slice (some ⟨w.heap.size + 1, 0, none⟩) 2 2, .bool false, .string ⟨#[]⟩, .string ⟨#[]⟩, .string ⟨#[]⟩, .bool false, .bool false, .bool false] H2.out rfl 40 (.tmp 3) (.tmp 9) rfl rfl rfl (by kernel_rfl) (by rfl) (by simp [Value.oneCell']) ?_)
  intro w4 H5
  go_wp2
  refine bodyPost_ret (results_cell_row rfl _ _ w.heap.size 40 _ (0, 0) _ rfl H5.blk Tryd.underlying40 rfl (by kernel_rfl)) rfl ?_
  exact ⟨_, rfl, H5.drop⟩
end
end Go.Proofs.YtbijlkbfndkdcaaDoorSep
