/- Own work: Forms.At, Forms.Last, by walks. -/
import Derived.Test.YtbijlkbfndkdcaaDoorOfE
namespace Go.Proofs.YtbijlkbfndkdcaaDoorSep
open Go.RowKit Go.Lib Go.Proofs
def goL (nm : List UInt8) (fs : List FormM) : Nat → Int
  | 0 => -1
  | i + 1 => match fs[i]? with
    | none => -1
    | some f => if f.node = -1 then -1 else if f.name = nm then f.node else goL nm fs i
def atP (n : Int) (f : FormM) : Bool := decide (f.node = n) && !decide (n = -1)
def idF (n : Int) (fs : List FormM) : Int := match fs.findIdx? (atP n) with | some i => (i : Int) | none => -1
theorem idF_hit {n : Int} {fs : List FormM} {k : Nat} {f : FormM} (hf : fs[k]? = some f) (h : (fs.take k).any (atP n) = false) (hp : atP n f = true) : idF n fs = (k : Int) := by
  have hk := (List.getElem?_eq_some_iff.1 hf).1
  have e : fs.findIdx? (atP n) = some k := by
    rw [List.findIdx?_eq_some_iff_getElem]
    refine ⟨hk, by rw [(List.getElem?_eq_some_iff.1 hf).2]; exact hp, fun j hj => ?_⟩
    rw [List.any_eq_false] at h
    exact h _ (by rw [List.mem_take_iff_getElem]; exact ⟨j, by omega, rfl⟩)
  rw [idF, e]
theorem idF_miss {n : Int} {fs : List FormM} (h : fs.any (atP n) = false) : idF n fs = -1 := by
  have e : fs.findIdx? (atP n) = none := by
    rw [List.findIdx?_eq_none_iff]
    intro x hx
    rw [List.any_eq_false] at h
    simpa using h x hx
  rw [idF, e]
theorem any_more {fs : List FormM} {p : FormM → Bool} {k : Nat} {f : FormM} (hf : fs[k]? = some f) (h : (fs.take k).any p = false) (hp : p f = false) : (fs.take (k + 1)).any p = false := by
  rw [List.take_add_one, hf, List.any_append, h]
  simp [hp]
section
variable {W0 w : World} {R : HP} {fv : Value} {fs : List FormM}
set_option maxHeartbeats 2000000 in
theorem forms_Last (H : Own W0 w (R * Row 55 11 fv fs.length (formsC fs))) (hl : fs.length ≤ 1000) (nm : List UInt8) :
    Calls Tryd.prog 18 #[fv, .string (str nm)] w fun e w' => e = .returned (.int .i64 (goL nm fs fs.length)) ∧ w' = w := by
  obtain ⟨_, A0, c0, rfl, _⟩ := H.sl (by decide)
  obtain ⟨T, hT⟩ : ∃ T, Kp (goL nm fs fs.length = T) := ⟨_, ⟨rfl⟩⟩
  rw [hT.out]
  replace H := Kp.mk H
  go_enter Tryd.func18, Tryd.ntmps18
  go_wp2
  go_loopg [5] fs.length (fun gk v wr => v = .int .i64 ((gk : Int) - 1) ∧ gk ≤ fs.length ∧ Kp (goL nm fs gk = T) ∧ wr = w)
  case atStart => exact ⟨rfl, Nat.le_refl _, hT, rfl⟩
  case round =>
    obtain ⟨rfl, hg, ht, rfl⟩ := hrel
    rcases gk with _ | m
    · have hT0 : T = -1 := ht.out.symm
      subst hT0
      have hf1 : ¬ ((0 : Int) ≤ ((0 : Nat) : Int) - 1) := by omega
      go_wp2
      go_ret
      exact ⟨rfl, rfl⟩
    · obtain ⟨f, hf⟩ : ∃ f, fs[m]? = some f := ⟨_, List.getElem?_eq_getElem (by omega)⟩
      obtain ⟨gf, c1, hv, hc1, hc2, hcl⟩ := H.out.formAt m f hf
      injection hv with e1 e2 e3
      subst e1 e3
      have d0 : wr.cell? ⟨gf, m * 11, none⟩ = some (.int .i64 f.node) := hcl 0 _ (by omega) rfl
      have d2 : wr.cell? ⟨gf, m * 11 + 2, none⟩ = some (.string (str f.name)) := hcl 2 _ (by omega) rfl
      have ena := str_beq f.name nm
      have hs : goL nm fs (m + 1) = if f.node = -1 then -1 else if f.name = nm then f.node else goL nm fs m := by rw [goL, hf]
      rw [ht.out] at hs
      by_cases hm : f.node = -1
      · have q1 : (f.node == -1) = true := by rw [hm]; rfl
        have q2 : (f.node != -1) = false := by rw [hm]; rfl
        have hT0 : T = -1 := by rw [hs, if_pos hm]
        subst hT0
        clear hm hf hcl hs
        go_wp2
        go_ret
        exact ⟨rfl, rfl⟩
      · have q1 : (f.node == -1) = false := by rw [beq_eq_false_iff_ne]; exact hm
        have q2 : (f.node != -1) = true := by rw [bne_iff_ne]; exact hm
        rw [if_neg hm] at hs
        by_cases hn : f.name = nm
        · rw [decide_eq_true hn] at ena
          rw [if_pos hn] at hs
          subst hs
          clear hm hf hcl hn
          go_wp2
          go_ret
          exact ⟨rfl, rfl⟩
        · rw [decide_eq_false hn] at ena
          rw [if_neg hn] at hs
          replace hs := Kp.mk hs.symm
          clear hm hf hcl hn
          go_wp2
          go_roundg m
          case rel => exact ⟨by go_num, by omega, hs, rfl⟩
          case measure => omega
/-- The number that is asked for lies in a box. -/
theorem at_is {gn : Nat} {n : Int} (H : Own W0 w (R * Blk gn (.cells #[.int .i64 n] 3))) (f : FormM) {Af : Option Addr} {nf cf : Nat} (hav : f.av = .slice Af nf cf) :
    Calls Tryd.prog 33 #[.agg f.cells.toArray, .pointer (some ⟨gn, 0, none⟩)] w fun e w' => e = .returned (.bool (atP n f)) ∧ Own W0 w' (R * Blk gn (.cells #[.int .i64 n] 3)) := by
  obtain ⟨node, k, name, av, A⟩ := f
  dsimp only at hav
  subst hav
  have HB := H.box (.cells #[.int .i64 node, .int .i64 k, .string (str name), .slice Af nf cf, .bool false, .string ⟨#[]⟩, .string ⟨#[]⟩, .string ⟨#[]⟩, .bool false, .bool false, .bool false] 55)
  have kn := cell_blk (j := 0) (v := .int .i64 n) HB.blk rfl
  unfold FormM.cells
  dsimp only
  replace HB := Kp.mk HB
  clear H
  by_cases h1 : node = n
  · have q1 : (node == n) = true := by rw [h1]; exact beq_self_eq_true _
    by_cases h2 : n = -1
    · have q2 : (n == -1) = true := by rw [h2]; rfl
      have q3 : (n != -1) = false := by rw [h2]; rfl
      have hp : atP n ⟨node, k, name, .slice Af nf cf, A⟩ = false := by simp [atP, h2]
      rw [hp]
      clear h1 h2 hp
      go_enter Tryd.func33, Tryd.ntmps33
      go_wp2
      go_ret
      exact ⟨rfl, HB.out⟩
    · have q2 : (n == -1) = false := by rw [beq_eq_false_iff_ne]; exact h2
      have q3 : (n != -1) = true := by rw [bne_iff_ne]; exact h2
      have hp : atP n ⟨node, k, name, .slice Af nf cf, A⟩ = true := by simp [atP, h1, h2]
      rw [hp]
      clear h1 h2 hp
      go_enter Tryd.func33, Tryd.ntmps33
      go_wp2
      go_ret
      exact ⟨rfl, HB.out⟩
  · have q1 : (node == n) = false := by rw [beq_eq_false_iff_ne]; exact h1
    have hp : atP n ⟨node, k, name, .slice Af nf cf, A⟩ = false := by simp [atP, h1]
    rw [hp]
    clear h1 hp
    go_enter Tryd.func33, Tryd.ntmps33
    go_wp2
    go_ret
    exact ⟨rfl, HB.out⟩
end
end Go.Proofs.YtbijlkbfndkdcaaDoorSep
