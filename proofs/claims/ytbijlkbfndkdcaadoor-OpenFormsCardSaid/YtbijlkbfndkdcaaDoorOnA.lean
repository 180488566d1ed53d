/- Own work: Forms.Remove, Forms.Clear, by walks; shorter rows, cuts of rows of many cells. -/
import Derived.Test.YtbijlkbfndkdcaaDoorOfH
import Derived.Test.YtbijlkbfndkdcaaDoorCutG
import Derived.Test.YtbijlkbfndkdcaaDoorTake
namespace Go.Proofs.YtbijlkbfndkdcaaDoorSep
open Go.RowKit Go.Lib Go.Proofs
/-- A shorter slice of the same row. -/
theorem Own.shrinkS {W0 w : World} {P : HP} {e sz n m : Nat} {cs : List Value} {A : Option Addr} {c : Nat} (H : Own W0 w (P * Row e sz (.slice A n c) n cs)) (hm : m ≤ n) : Own W0 w (P * Row e sz (.slice A m c) m (cs.take (m * sz))) := by
  have hmn := Nat.mul_le_mul_right sz hm
  rcases H.split with h | ⟨⟨h0, h1, g, off, h2⟩, h⟩
  · refine Own.ofB (h.turn ?_)
    rintro x ⟨hl, hx⟩
    have hlen : (cs.take (m * sz)).length = m * sz := by rw [List.length_take]; omega
    refine ⟨hlen, ?_⟩
    rcases hx with ⟨h1, h2, h3⟩ | ⟨g, cap, cur, h1, h2, h3, h4, h5, h6⟩
    · injection h1 with a b c2
      subst a c2
      have hm0 : m = 0 := by omega
      exact .inl ⟨by rw [hm0], hm0, h3⟩
    · injection h1 with a b c2
      subst a c2
      refine .inr ⟨g, c, cur, rfl, h2, by omega, h4, h5, ?_⟩
      rw [← h6, List.take_take, Nat.min_eq_left hmn]
  · have hm0 : m = 0 := by omega
    subst hm0
    injection h2 with a b c2
    subst a c2
    rw [h1]
    simp only [List.take_nil]
    exact h.zero _ _ _ _
/-- A cut from k on, of elements of many cells. -/
theorem Sl.dropS {w : World} {A : Option Addr} {n c k sz : Nat} {cs : List Value} (h : Sl w (.slice A n c) sz n cs) (hk : k ≤ n) : Sl w (.slice (if c = k then A else A.map (·.add (k * sz))) (n - k) (c - k)) sz (n - k) (cs.drop (k * sz)) := by
  obtain ⟨hl, A', c', he, h1, h2, h4, h3⟩ := h
  injection he with e1 _ e3
  subst e1 e3
  refine ⟨by rw [List.length_drop, hl, Nat.sub_mul], _, _, rfl, by omega, by omega, fun hA => ?_, fun h0 => ?_⟩
  · by_cases hc : c = k
    · omega
    · rw [if_neg hc] at hA
      have := h4 (by simpa using hA)
      omega
  · obtain ⟨ad, rfl, hc⟩ := h3 (by omega)
    rw [if_neg (by omega)]
    refine ⟨ad.add (k * sz), rfl, fun j u hj => ?_⟩
    have h5 := hc (k * sz + j) u (by rw [List.getElem?_drop] at hj; exact hj)
    have : (ad.add (k * sz)).add j = ad.add (k * sz + j) := by
      generalize k * sz = q
      unfold Addr.add
      repeat' split
      all_goals first | rfl | omega | (simp; done) | (simp; omega)
    rw [this]
    exact h5
def remF (n : Int) (fs : List FormM) : List FormM := if 0 ≤ idF n fs then fs.take (idF n fs).toNat ++ fs.drop ((idF n fs).toNat + 1) else fs
theorem idF_cases (n : Int) (fs : List FormM) : idF n fs = -1 ∨ ∃ i : Nat, idF n fs = (i : Int) ∧ i < fs.length := by
  rw [idF]
  cases h : fs.findIdx? (atP n) with
  | none => exact .inl rfl
  | some i => exact .inr ⟨i, rfl, (List.findIdx?_eq_some_iff_getElem.1 h).1⟩
def clrK (fs : List FormM) : Nat → Nat
  | 0 => 0
  | i + 1 => match fs[i]? with
    | none => 0
    | some f => if f.node = -1 then i else clrK fs i
theorem clrK_stop {fs : List FormM} {i : Nat} {f : FormM} (h : fs[i]? = some f) (hf : f.node = -1) : clrK fs (i + 1) = i := by rw [clrK, h]; simp [hf]
theorem clrK_step {fs : List FormM} {i : Nat} {f : FormM} (h : fs[i]? = some f) (hf : ¬ f.node = -1) : clrK fs (i + 1) = clrK fs i := by rw [clrK, h]; simp [hf]
theorem clrK_le (fs : List FormM) (i : Nat) : clrK fs i ≤ i := by
  induction i with
  | zero => exact Nat.le_refl _
  | succ i ih =>
    rw [clrK]
    split
    · omega
    · split <;> omega
def clrF (fs : List FormM) : List FormM := fs.take (clrK fs fs.length)
theorem formsC_take (fs : List FormM) (m : Nat) (hm : m ≤ fs.length) : (formsC fs).take (m * 11) = formsC (fs.take m) := by
  have h1 : formsC fs = formsC (fs.take m) ++ formsC (fs.drop m) := by
    rw [formsC, formsC, formsC, ← List.flatMap_append, List.take_append_drop]
  rw [h1, List.take_left' (by rw [formsC_len, List.length_take]; omega)]
theorem forms_one {W0 : World} {R : HP} {fs : List FormM} (HF : HeldFs W0 R fs) : ∀ u ∈ formsC fs, u.oneCell' = true := by
  intro u hu
  rw [formsC, List.mem_flatMap] at hu
  obtain ⟨f, hf, hu⟩ := hu
  have hav := (HF f hf).2.2
  simp only [FormM.cells, List.mem_cons, List.not_mem_nil, or_false] at hu
  rcases hu with rfl | rfl | rfl | rfl | rfl | rfl | rfl | rfl | rfl | rfl | rfl
  all_goals first | exact hav | rfl
theorem fv_of {W0 w : World} {R : HP} {fs : List FormM} (H : Own W0 w R) (HF : HeldFs W0 R fs) : FvH fs := fun f hf => by
  obtain ⟨_, A, c, h, _⟩ := (HF f hf).1 w H
  exact ⟨A, _, c, h⟩
section
variable {W0 w : World} {R : HP} {g : Nat} {fv : Value} {fs : List FormM}
set_option maxHeartbeats 2000000 in
theorem forms_Remove (H : Own W0 w (FormsH R g fv fs)) (hl : fs.length ≤ 1000) (HF : HeldFs W0 R fs) (n : Int) :
    Calls Tryd.prog 19 #[.pointer (some ⟨g, 0, none⟩), .int .i64 n] w fun e w' => e = .returned (.tuple #[]) ∧ ∃ fv', Own W0 w' (FormsH R g fv' (remF n fs)) := by
  have hR : Own W0 w R := (show Own W0 w (R * _ * _) from H).drop.drop
  have hone := forms_one HF
  have H1 : Own W0 w (R * Blk g (formsO fv) * Row 55 11 fv fs.length (formsC fs)) := H.eq (by unfold FormsH; ac_rfl)
  obtain ⟨_, A, c, rfl, _⟩ := H1.sl (by decide)
  have HI := Kp.mk (forms_At H1 hl (fv_of hR HF) n)
  have k0 := cell_blk (j := 0) (v := .slice A fs.length c) (H1.focB g).blk rfl
  have hrem : remF n fs = if 0 ≤ idF n fs then fs.take (idF n fs).toNat ++ fs.drop ((idF n fs).toNat + 1) else fs := rfl
  have hcs := idF_cases n fs
  obtain ⟨r, hr⟩ : ∃ r, idF n fs = r := ⟨_, rfl⟩
  rw [hr] at hrem hcs HI
  replace hone := Kp.mk hone
  clear H H1 hr HF hR
  go_enter Tryd.func19, Tryd.ntmps19
  go_wp2_with fail
  refine HI.out.mono ?_
  rintro e w1 ⟨rfl, H2⟩
  have k1 := cell_blk (j := 0) (v := .slice A fs.length c) (H2.focB g).blk rfl
  clear HI k0
  rcases hcs with rfl | ⟨i, rfl, hi⟩
  · rw [if_neg (by decide)] at hrem
    replace hrem := Kp.mk hrem
    replace H2 := Kp.mk H2
    go_wp2
    go_end0
    refine ⟨rfl, .slice A fs.length c, ?_⟩
    rw [hrem.out]
    exact H2.out.eq (by unfold FormsH; ac_rfl)
  · rw [if_pos (by omega), Int.toNat_natCast] at hrem
    have HD := Kp.mk (del_form H2 (by omega) hone.out hi)
    have hft : (formsC fs).take (i * 11) ++ (formsC fs).drop ((i + 1) * 11) = formsC (fs.take i ++ fs.drop (i + 1)) := forms_cut fs i (by omega)
    have hln : (fs.take i ++ fs.drop (i + 1)).length = fs.length - 1 := by rw [List.length_append, List.length_take, List.length_drop]; omega
    replace hft := Kp.mk hft
    replace hln := Kp.mk hln
    replace hrem := Kp.mk hrem
    clear H2 hone
    go_wp2_with fail
    refine HD.out.mono ?_
    rintro e w5 ⟨v5, rfl, H5⟩
    obtain ⟨_, A5, c5, hv5, _⟩ := H5.sl (by decide)
    subst hv5
    have f5 := frz_blk (j := 0) (H5.focB g).blk
    have k5 := cell_blk (j := 0) (v := .slice A fs.length c) (H5.focB g).blk rfl
    have H6 := (H5.focB g).set 0 (.slice A5 (fs.length - 1) c5)
    rw [hft.out] at H6
    replace H6 := Kp.mk H6
    clear HD H5
    go_wp2
    go_end0
    refine ⟨rfl, .slice A5 (fs.length - 1) c5, ?_⟩
    rw [hrem.out]
    unfold FormsH
    rw [hln.out]
    exact H6.out.eq (by show _ * _ * Blk g (formsO (.slice A5 (fs.length - 1) c5)) = _; ac_rfl)
set_option maxRecDepth 100000 in
set_option maxHeartbeats 2000000 in
theorem forms_Clear (H : Own W0 w (FormsH R g fv fs)) (hl : fs.length ≤ 1000) (hav : FvH fs) :
    Calls Tryd.prog 20 #[.pointer (some ⟨g, 0, none⟩)] w fun e w' => e = .returned (.tuple #[]) ∧ ∃ fv', Own W0 w' (FormsH R g fv' (clrF fs)) := by
  obtain ⟨T, hT⟩ : ∃ T, Kp (clrK fs fs.length = T) := ⟨_, ⟨rfl⟩⟩
  have hTl : T ≤ fs.length := by rw [← hT.out]; exact clrK_le _ _
  have hcl : Kp (clrF fs = fs.take T) := ⟨by rw [clrF, hT.out]⟩
  have HS : Kp (Own W0 w (FormsH R g fv (fs.take fs.length))) := ⟨by rw [List.take_length]; exact H⟩
  replace hTl := Kp.mk hTl
  replace hav := Kp.mk hav
  clear H
  go_enter Tryd.func20, Tryd.ntmps20
  go_wp2
  go_loopg [] fs.length (fun gk wr => ∃ fv', gk ≤ fs.length ∧ Kp (clrK fs gk = T) ∧ Kp (Own W0 wr (FormsH R g fv' (fs.take gk))))
  case atStart => exact ⟨fv, Nat.le_refl _, hT, HS⟩
  case round =>
    obtain ⟨fv', hg, ht, HO⟩ := hrel
    clear HS
    have hlt : (fs.take gk).length = gk := by rw [List.length_take]; omega
    have H1 : Own W0 wr (R * Row 55 11 fv' gk (formsC (fs.take gk)) * Blk g (formsO fv')) := by
      have h := HO.out
      unfold FormsH at h
      rw [hlt] at h
      exact h
    obtain ⟨_, A, c, rfl, hb1, hb2, _⟩ := H1.drop.sl (by decide)
    have k0 := cell_blk (j := 0) (v := .slice A gk c) H1.blk rfl
    rcases gk with _ | m
    · have hT0 : T = 0 := ht.out.symm
      subst hT0
      clear H1
      go_wp2
      go_end0
      refine ⟨rfl, .slice A 0 c, ?_⟩
      rw [hcl.out]
      exact HO.out
    · obtain ⟨f, hf⟩ : ∃ f, fs[m]? = some f := ⟨_, List.getElem?_eq_getElem (by omega)⟩
      have hf2 : (fs.take (m + 1))[m]? = some f := by rw [List.getElem?_take, if_pos (by omega)]; exact hf
      have H1b : Own W0 wr (R * Blk g (formsO (.slice A (m + 1) c)) * Row 55 11 (.slice A (m + 1) c) (fs.take (m + 1)).length (formsC (fs.take (m + 1)))) := by
        rw [hlt]
        exact H1.rot
      obtain ⟨gf, c1, hv, hc1, hc2, hcl2⟩ := H1b.formAt m f hf2
      injection hv with e1 e2 e3
      subst e1 e3
      obtain ⟨Af, nf, cf, hfa⟩ := hav.out f (List.mem_of_getElem? hf)
      have hst := fun h => clrK_stop hf h
      have hsp := fun h => clrK_step hf h
      obtain ⟨node, kd, name, av, B⟩ := f
      dsimp only at hfa hst hsp
      subst hfa
      have d0 : wr.cell? ⟨gf, m * 11, none⟩ = some (.int .i64 node) := hcl2 0 _ (by omega) rfl
      have d1 : wr.cell? ⟨gf, m * 11 + 1, none⟩ = some (.int .i64 kd) := hcl2 1 _ (by omega) rfl
      have d2 : wr.cell? ⟨gf, m * 11 + 2, none⟩ = some (.string (str name)) := hcl2 2 _ (by omega) rfl
      have d3 : wr.cell? ⟨gf, m * 11 + 3, none⟩ = some (.slice Af nf cf) := hcl2 3 _ (by omega) rfl
      have d4 : wr.cell? ⟨gf, m * 11 + 4, none⟩ = some (.bool false) := hcl2 4 _ (by omega) rfl
      have d5 : wr.cell? ⟨gf, m * 11 + 5, none⟩ = some (.string ⟨#[]⟩) := hcl2 5 _ (by omega) rfl
      have d6 : wr.cell? ⟨gf, m * 11 + 6, none⟩ = some (.string ⟨#[]⟩) := hcl2 6 _ (by omega) rfl
      have d7 : wr.cell? ⟨gf, m * 11 + 7, none⟩ = some (.string ⟨#[]⟩) := hcl2 7 _ (by omega) rfl
      have d8 : wr.cell? ⟨gf, m * 11 + 8, none⟩ = some (.bool false) := hcl2 8 _ (by omega) rfl
      have d9 : wr.cell? ⟨gf, m * 11 + 9, none⟩ = some (.bool false) := hcl2 9 _ (by omega) rfl
      have d10 : wr.cell? ⟨gf, m * 11 + 10, none⟩ = some (.bool false) := hcl2 10 _ (by omega) rfl
      have f0 := frz_blk (j := 0) H1.blk
      have HZ := H1.box (.cells #[.int .i64 0, .int .i64 0, .string ⟨#[]⟩, .slice none 0 0, .bool false, .string ⟨#[]⟩, .string ⟨#[]⟩, .string ⟨#[]⟩, .bool false, .bool false, .bool false] 55)
      have z0 := cell_blk (j := 0) (v := .slice (some ⟨gf, 0, none⟩) (m + 1) c) HZ.blk rfl
      have HZ2 := H1b.box (.cells #[.int .i64 0, .int .i64 0, .string ⟨#[]⟩, .slice none 0 0, .bool false, .string ⟨#[]⟩, .string ⟨#[]⟩, .string ⟨#[]⟩, .bool false, .bool false, .bool false] 55)
      obtain ⟨_, _, hzv, _, _, hzc⟩ := HZ2.formAt m ⟨node, kd, name, .slice Af nf cf, B⟩ hf2
      injection hzv with e1 e4 e3
      injection e1 with e1
      injection e1 with e1
      subst e1
      have z1 := hzc 0 _ (by omega) rfl
      have z2 := hzc 1 _ (by omega) rfl
      have z3 := hzc 2 _ (by omega) rfl
      have z4 := hzc 3 _ (by omega) rfl
      have z5 := hzc 4 _ (by omega) rfl
      have z6 := hzc 5 _ (by omega) rfl
      have z7 := hzc 6 _ (by omega) rfl
      have z8 := hzc 7 _ (by omega) rfl
      have z9 := hzc 8 _ (by omega) rfl
      have z10 := hzc 9 _ (by omega) rfl
      have z11 := hzc 10 _ (by omega) rfl
      rw [Nat.add_zero] at z1
      dsimp only at z1 z2 z3 z4 z5 z6 z7 z8 z9 z10 z11
      have b1 : (m : Int) < (m : Int) + 1 := by omega
      have hwr : IntKind.i64.wrap (m : Int) = (m : Int) := by rw [IntKind.wrap_i64]; omega
      clear HZ HZ2 hzc e3 e4
      unfold maxLen at hb2
      have hlt2 : (fs.take m).length = m := by rw [List.length_take]; omega
      have hft : Kp ((formsC (fs.take (m + 1))).take (m * 11) = formsC (fs.take m)) := ⟨by rw [formsC_take _ _ (by omega), List.take_take, Nat.min_eq_left (by omega)]⟩
      replace hlt2 := Kp.mk hlt2
      have hw2 : IntKind.i64.wrap ((m : Int) + 1 - 1) = (m : Int) := by rw [IntKind.wrap_i64]; omega
      have b2 : (m : Int) ≤ (c : Int) := by omega
      replace hst := Kp.mk hst
      replace hsp := Kp.mk hsp
      have H1lt := Kp.mk H1.lt
      have HB := Kp.mk (fun nd => H1.alloc (.cells #[.int .i64 nd, .int .i64 kd, .string (str name), .slice Af nf cf, .bool false, .string ⟨#[]⟩, .string ⟨#[]⟩, .string ⟨#[]⟩, .bool false, .bool false, .bool false] 55))
      clear H1 H1b hf hf2 hcl2 hlt e2
      by_cases hm : node = -1
      case' pos =>
        have q1 : ((-1 : Int) == -1) = true := rfl
        subst hm
        have H3 := HB.out (-1)
      case' neg =>
        have q1 : (node == -1) = false := by rw [beq_eq_false_iff_ne]; exact hm
        have H3 := HB.out node
      all_goals
        have k3 := cell_blk (j := 0) (v := .slice (some ⟨gf, 0, none⟩) (m + 1) c) H3.drop.blk rfl
        have f3 := frz_blk (j := 0) H3.drop.blk
        have hne : ¬ g = wr.heap.size := by have := H1lt.out; omega
        have hne2 : ¬ wr.heap.size = g := by have := H1lt.out; omega
        replace H3 := Kp.mk H3
        clear HB
        go_wp2
        go_region
        go_wp2
        go_region
        have H4 := ((((H3.out.focR (.slice (some ⟨gf, 0, none⟩) (m + 1) c)).shrinkS (m := m) (by omega)).focB g).set 0 (.slice (some ⟨gf, 0, none⟩) m c)).focB wr.heap.size
        have kb := cell_blk (j := 0) H4.blk rfl
        replace H4 := H4.drop.eq (Q := FormsH R g (.slice (some ⟨gf, 0, none⟩) m c) (fs.take m)) (by unfold FormsH; rw [hft.out, hlt2.out]; rfl)
        replace H4 := Kp.mk H4.drew.drew
        clear H3 k3 f3 hne hne2 z0 z1 z2 z3 z4 z5 z6 z7 z8 z9 z10 z11 d0 d1 d2 d3 d4 d5 d6 d7 d8 d9 d10 k0 f0
        go_wp2
      · have ht3 := Kp.mk ((hsp.out hm).symm.trans ht.out)
        go_roundg m
        case rel => exact ⟨_, by omega, ht3, H4⟩
        case measure => omega
      · have hT3 : T = m := ht.out.symm.trans (by first | exact hst.out rfl | exact hst.out trivial)
        subst hT3
        exact bodyPost_ret (results_none rfl _ _ _) rfl ⟨rfl, .slice (some ⟨gf, 0, none⟩) T c, by rw [hcl.out]; exact H4.out⟩
end
end Go.Proofs.YtbijlkbfndkdcaaDoorSep
