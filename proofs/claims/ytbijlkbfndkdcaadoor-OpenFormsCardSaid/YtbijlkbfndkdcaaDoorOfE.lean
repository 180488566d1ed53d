/- Own work: Forms.Add, by a walk. -/
import Derived.Test.YtbijlkbfndkdcaaDoorOfD
import Derived.Deep.CutBlock
namespace Go.Proofs.YtbijlkbfndkdcaaDoorSep
open Go.RowKit Go.Lib Go.Proofs
def sameF (nm : List UInt8) (B : List At) (f : FormM) : Bool := decide (f.name = nm) && alikeA f.A B
/-- From the last one on, up to a mark: the eldest that is alike, and how many. -/
def goS (p : FormM → Bool) (fs : List FormM) : Nat → Int × Nat → Int × Nat
  | 0, s => s
  | i + 1, s => match fs[i]? with
    | none => s
    | some f => if f.node = -1 then s else goS p fs i (if p f then ((i : Int), s.2 + 1) else s)
def cutS (fs : List FormM) (r : Int × Nat) : List FormM := if 3 ≤ r.2 then fs.take r.1.toNat ++ fs.drop (r.1.toNat + 1) else fs
def formAdd (fs : List FormM) (x : FormM) : List FormM := cutS fs (goS (sameF x.name x.A) fs fs.length (-1, 0)) ++ [x]
theorem goS_stop (p : FormM → Bool) (fs : List FormM) (i : Nat) (s : Int × Nat) (f : FormM) (h : fs[i]? = some f) (hf : f.node = -1) : goS p fs (i + 1) s = s := by
  rw [goS, h]
  simp [hf]
theorem goS_step (p : FormM → Bool) (fs : List FormM) (i : Nat) (s : Int × Nat) (f : FormM) (h : fs[i]? = some f) (hf : ¬ f.node = -1) : goS p fs (i + 1) s = goS p fs i (if p f then ((i : Int), s.2 + 1) else s) := by
  rw [goS, h]
  simp only [if_neg hf]
theorem forms_cut (fs : List FormM) (j : Nat) (h : j < fs.length) : (formsC fs).take (j * 11) ++ (formsC fs).drop ((j + 1) * 11) = formsC (fs.take j ++ fs.drop (j + 1)) := by
  have e1 : ∀ (L M : List FormM), formsC (L ++ M) = formsC L ++ formsC M := fun L M => by simp [formsC]
  have h1 : formsC fs = formsC (fs.take j) ++ formsC (fs.drop j) := by rw [← e1, List.take_append_drop]
  have h2 : formsC fs = formsC (fs.take (j + 1)) ++ formsC (fs.drop (j + 1)) := by rw [← e1, List.take_append_drop]
  rw [e1]
  congr 1
  · rw [h1, List.take_left' (by rw [formsC_len, List.length_take]; omega)]
  · rw [h2, List.drop_left' (by rw [formsC_len, List.length_take]; omega)]
/-- What is held of the attributes of each. -/
def HeldFs (W0 : World) (R : HP) (fs : List FormM) : Prop := ∀ f ∈ fs, Held W0 R f.av 2 f.A.length (attrC f.A) ∧ f.A.length ≤ 1000 ∧ f.av.oneCell' = true
def tokO (x : FormM) : Obj := .cells #[.int .i64 x.k, .string (str x.name), x.av, .bool false, .string ⟨#[]⟩, .string ⟨#[]⟩, .string ⟨#[]⟩, .bool false, .bool false, .bool false] 40
def FormsH (R : HP) (g : Nat) (fv : Value) (fs : List FormM) : HP := R * Row 55 11 fv fs.length (formsC fs) * Blk g (formsO fv)
set_option maxRecDepth 100000 in
set_option maxHeartbeats 4000000 in
theorem forms_Add {W0 w : World} {R : HP} {g : Nat} {fv : Value} {fs : List FormM} (H : Own W0 w (FormsH R g fv fs)) (hl : fs.length ≤ 1000) (HF : HeldFs W0 R fs) (x : FormM) (HX : HeldFs W0 R [x]) :
    Calls Tryd.prog 15 #[.pointer (some ⟨g, 0, none⟩), .int .i64 x.node, .agg #[.int .i64 x.k, .string (str x.name), x.av, .bool false, .string ⟨#[]⟩, .string ⟨#[]⟩, .string ⟨#[]⟩, .bool false, .bool false, .bool false]] w fun e w' => e = .returned (.tuple #[]) ∧ ∃ fv', Own W0 w' (FormsH R g fv' (formAdd fs x)) := by
  obtain ⟨xn, xk, nm, av, B⟩ := x
  obtain ⟨hB, hBl, hB1⟩ := HX ⟨xn, xk, nm, av, B⟩ (List.mem_singleton.2 rfl)
  dsimp only at hB hBl hB1 ⊢
  have hHR : Own W0 w R := (show Own W0 w (R * _ * _) from H).drop.drop
  obtain ⟨_, Av, cv, rfl, _⟩ := hB.sl hHR
  have hFv : Kp (∀ f, f ∈ fs → ∃ Af cf, f.av = .slice Af f.A.length cf) := ⟨fun f hf => by
    obtain ⟨_, Af, cf, h, _⟩ := (HF f hf).1.sl hHR
    exact ⟨Af, cf, h⟩⟩
  obtain ⟨T, hT⟩ : ∃ T, Kp (goS (sameF nm B) fs fs.length (-1, 0) = T) := ⟨_, ⟨rfl⟩⟩
  have hadd : Kp (formAdd fs ⟨xn, xk, nm, .slice Av B.length cv, B⟩ = cutS fs T ++ [⟨xn, xk, nm, .slice Av B.length cv, B⟩]) := ⟨by rw [formAdd, hT.out]⟩
  rw [hadd.out]
  have H0 := H.alloc (tokO ⟨xn, xk, nm, .slice Av B.length cv, B⟩)
  unfold tokO at H0
  dsimp only at H0
  generalize hb : w.heap.size = b at H0
  replace hb := Kp.mk hb
  have hAl : Kp (∀ (w9 : World) (Y : HP) (f : FormM), f ∈ fs → Own W0 w9 (R * Y) → Calls Tryd.prog 30 #[f.av, .slice Av B.length cv] w9 fun e w' => e = .returned (.bool (alikeA f.A B)) ∧ Own W0 w' (R * Y)) := ⟨fun w9 Y f hf h => token_Alike h (HF f hf).1.more hB.more (by have := (HF f hf).2.1; omega) (by omega)⟩
  replace H0 := Kp.mk H0
  clear H HX
  go_enter Tryd.func15, Tryd.ntmps15
  go_upto_region 3 with fail
  rw [hb.out]
  generalize w.alloc (.cells #[.int .i64 xk, .string (str nm), .slice Av B.length cv, .bool false, .string ⟨#[]⟩, .string ⟨#[]⟩, .string ⟨#[]⟩, .bool false, .bool false, .bool false] 40) = w1 at H0 ⊢
  obtain ⟨_, A0, c0, rfl, _⟩ := (show Own W0 w1 (R * Row 55 11 fv fs.length (formsC fs) * Blk g (formsO fv) * _) from H0.out).drop.drop.sl (by decide)
  have k0 : w1.cell? ⟨g, 0, none⟩ = some (.slice A0 fs.length c0) := cell_blk (show Own W0 w1 (R * _ * Blk g (formsO (.slice A0 fs.length c0)) * _) from H0.out).drop.blk rfl
  have hk0 : Kp (∀ w9, Own W0 w9 (FormsH R g (.slice A0 fs.length c0) fs * Blk b (.cells #[.int .i64 xk, .string (str nm), .slice Av B.length cv, .bool false, .string ⟨#[]⟩, .string ⟨#[]⟩, .string ⟨#[]⟩, .bool false, .bool false, .bool false] 40)) → w9.cell? ⟨g, 0, none⟩ = some (.slice A0 fs.length c0) ∧ w9.cell? ⟨b, 1, none⟩ = some (.string (str nm)) ∧ w9.cell? ⟨b, 2, none⟩ = some (.slice Av B.length cv) ∧ Own W0 w9 (R * Blk g (formsO (.slice A0 fs.length c0)) * Row 55 11 (.slice A0 fs.length c0) fs.length (formsC fs))) := ⟨fun w9 h => ⟨cell_blk (show Own W0 w9 (R * _ * Blk g (formsO (.slice A0 fs.length c0)) * _) from h).drop.blk rfl, cell_blk h.blk rfl, cell_blk h.blk rfl, h.drop.rot⟩⟩
  obtain ⟨X, hX⟩ : ∃ X, X = FormsH R g (.slice A0 fs.length c0) fs * Blk b (.cells #[.int .i64 xk, .string (str nm), .slice Av B.length cv, .bool false, .string ⟨#[]⟩, .string ⟨#[]⟩, .string ⟨#[]⟩, .bool false, .bool false, .bool false] 40) := ⟨_, rfl⟩
  have hAx : Kp (∀ (w9 : World) (f : FormM), f ∈ fs → Own W0 w9 X → Calls Tryd.prog 30 #[f.av, .slice Av B.length cv] w9 fun e w' => e = .returned (.bool (alikeA f.A B)) ∧ Own W0 w' X) := ⟨fun w9 f hf h => by
    have e : X = R * (Row 55 11 (.slice A0 fs.length c0) fs.length (formsC fs) * Blk g (formsO (.slice A0 fs.length c0)) * Blk b (.cells #[.int .i64 xk, .string (str nm), .slice Av B.length cv, .bool false, .string ⟨#[]⟩, .string ⟨#[]⟩, .string ⟨#[]⟩, .bool false, .bool false, .bool false] 40)) := by rw [hX]; unfold FormsH; ac_rfl
    rw [e] at h ⊢
    exact hAl.out w9 _ f hf h⟩
  rw [← hX] at H0 hk0
  replace hX := Kp.mk hX
  go_upto_block 0 with fail
  clear k0
  go_cut [6, 7, 8, 9] (fun v6 v7 v8 v9 w' => ∃ (F : Int) (S : Nat), v6 = .int .i64 F ∧ v7 = .int .i64 S ∧ (S = 0 ∨ ∃ j : Nat, F = j ∧ j < fs.length) ∧ S ≤ fs.length ∧ Kp (T = (F, S)) ∧ Kp (Own W0 w' X))
  case first =>
    go_wp2_with fail
    go_loopg [6, 7, 8] fs.length (fun gk v6 v7 v8 wr => ∃ (F : Int) (S : Nat), v6 = .int .i64 F ∧ v7 = .int .i64 S ∧ v8 = .int .i64 ((gk : Int) - 1) ∧ gk ≤ fs.length ∧ S + gk ≤ fs.length ∧ (S = 0 ∨ ∃ j : Nat, F = j ∧ j < fs.length) ∧ Kp (goS (sameF nm B) fs gk (F, S) = T) ∧ Kp (Own W0 wr X))
    case atStart => exact ⟨-1, 0, rfl, rfl, rfl, Nat.le_refl _, by omega, .inl rfl, hT, H0⟩
    case round =>
      obtain ⟨F, S, rfl, rfl, rfl, hg, hS, hF, ht, HO⟩ := hrel
      rcases gk with _ | m
      · have hf1 : ¬ ((0 : Int) ≤ ((0 : Nat) : Int) - 1) := by omega
        go_wp2
        go_meet
        exact ⟨F, S, rfl, rfl, hF, by omega, ⟨ht.out.symm⟩, HO⟩
      · obtain ⟨f, hf⟩ : ∃ f, fs[m]? = some f := ⟨_, List.getElem?_eq_getElem (by omega)⟩
        obtain ⟨k0, kb1, kb2, HR⟩ := hk0.out _ HO.out
        obtain ⟨gf, c1, hv, hc1, hc2, hcl⟩ := HR.formAt m f hf
        injection hv with e1 e2 e3
        subst e1 e3
        have d0 : wr.cell? ⟨gf, m * 11, none⟩ = some (.int .i64 f.node) := hcl 0 _ (by omega) rfl
        by_cases hm : f.node = -1
        · have q1 : (f.node == -1) = true := by rw [hm]; rfl
          have q2 : (f.node != -1) = false := by rw [hm]; rfl
          have ht2 := Kp.mk (ht.out.symm.trans (goS_stop (sameF nm B) fs m (F, S) f hf hm))
          clear hm hf hcl HR
          go_wp2
          go_meet
          exact ⟨F, S, rfl, rfl, hF, by omega, ht2, HO⟩
        · have q1 : (f.node == -1) = false := by rw [beq_eq_false_iff_ne]; exact hm
          have q2 : (f.node != -1) = true := by rw [bne_iff_ne]; exact hm
          have ht2 := Kp.mk ((goS_step (sameF nm B) fs m (F, S) f hf hm).symm.trans ht.out)
          have d1 : wr.cell? ⟨gf, m * 11 + 1, none⟩ = some (.int .i64 f.k) := hcl 1 _ (by omega) rfl
          have d2 : wr.cell? ⟨gf, m * 11 + 2, none⟩ = some (.string (str f.name)) := hcl 2 _ (by omega) rfl
          have d3 : wr.cell? ⟨gf, m * 11 + 3, none⟩ = some f.av := hcl 3 _ (by omega) rfl
          have d4 : wr.cell? ⟨gf, m * 11 + 4, none⟩ = some (.bool false) := hcl 4 _ (by omega) rfl
          have d5 : wr.cell? ⟨gf, m * 11 + 5, none⟩ = some (.string ⟨#[]⟩) := hcl 5 _ (by omega) rfl
          have d6 : wr.cell? ⟨gf, m * 11 + 6, none⟩ = some (.string ⟨#[]⟩) := hcl 6 _ (by omega) rfl
          have d7 : wr.cell? ⟨gf, m * 11 + 7, none⟩ = some (.string ⟨#[]⟩) := hcl 7 _ (by omega) rfl
          have d8 : wr.cell? ⟨gf, m * 11 + 8, none⟩ = some (.bool false) := hcl 8 _ (by omega) rfl
          have d9 : wr.cell? ⟨gf, m * 11 + 9, none⟩ = some (.bool false) := hcl 9 _ (by omega) rfl
          have d10 : wr.cell? ⟨gf, m * 11 + 10, none⟩ = some (.bool false) := hcl 10 _ (by omega) rfl
          have hfm : f ∈ fs := List.mem_of_getElem? hf
          obtain ⟨Af, cf, hav⟩ := hFv.out f hfm
          rw [hav] at d3
          have hsm : Kp (sameF nm B f = (decide (f.name = nm) && alikeA f.A B)) := ⟨rfl⟩
          have HY := fun w9 (h : Own W0 w9 X) => hAx.out w9 f hfm h
          rw [hav] at HY
          replace HY := Kp.mk HY
          have ena := str_beq f.name nm
          clear hm hf hcl HR hav hfm
          by_cases hn : f.name = nm
          · rw [decide_eq_true hn] at ena
            have hsm2 : Kp (sameF nm B f = alikeA f.A B) := ⟨by rw [hsm.out, decide_eq_true hn, Bool.true_and]⟩
            obtain ⟨q, hq⟩ : ∃ q, alikeA f.A B = q := ⟨_, rfl⟩
            have HZ := HY.out _ (HO.out.box (.cells #[.int .i64 f.k, .string (str f.name), .slice Af f.A.length cf, .bool false, .string ⟨#[]⟩, .string ⟨#[]⟩, .string ⟨#[]⟩, .bool false, .bool false, .bool false] 40))
            rw [hq] at HZ hsm2
            replace HZ := Kp.mk HZ
            obtain ⟨_, kb1, kb2, _⟩ := hk0.out _ (HO.out.box (.cells #[.int .i64 f.k, .string (str f.name), .slice Af f.A.length cf, .bool false, .string ⟨#[]⟩, .string ⟨#[]⟩, .string ⟨#[]⟩, .bool false, .bool false, .bool false] 40))
            clear hn hq hsm HY
            go_wp2_with fail
            refine HZ.out.mono ?_
            rintro e w5 ⟨rfl, H5⟩
            replace H5 := Kp.mk H5
            have ht3 := ht2.out
            rw [hsm2.out] at ht3
            clear HZ d0 d1 d2 d3 d4 d5 d6 d7 d8 d9 d10 k0 kb1 kb2
            rcases q with _ | _
            · rw [if_neg (by simp)] at ht3
              replace ht3 := Kp.mk ht3
              go_wp2
              go_roundg m
              case rel => exact ⟨F, S, rfl, rfl, by go_num, by omega, by omega, hF, ht3, H5⟩
              case measure => omega
            · rw [if_pos rfl] at ht3
              replace ht3 := Kp.mk ht3
              go_wp2
              go_roundg m
              case rel => exact ⟨(m : Int), S + 1, by go_num, by go_num, by go_num, by omega, by omega, .inr ⟨m, rfl, by omega⟩, ht3, H5⟩
              case measure => omega
          · rw [decide_eq_false hn] at ena
            have ht3 := ht2.out
            rw [hsm.out, decide_eq_false hn, Bool.false_and, if_neg (by simp)] at ht3
            replace ht3 := Kp.mk ht3
            have hbx : Kp (Own W0 (wr.alloc (.cells #[.int .i64 f.k, .string (str f.name), .slice Af f.A.length cf, .bool false, .string ⟨#[]⟩, .string ⟨#[]⟩, .string ⟨#[]⟩, .bool false, .bool false, .bool false] 40)) X) := ⟨HO.out.box _⟩
            obtain ⟨_, kb1, kb2, _⟩ := hk0.out _ hbx.out
            clear hn hsm HY
            go_wp2
            go_roundg m
            case rel => exact ⟨F, S, rfl, rfl, by go_num, by omega, by omega, hF, ht3, hbx⟩
            case measure => omega
  case' rest =>
    obtain ⟨F, S, rfl, rfl, hF, hS, ht, H1⟩ := hcut
    have hcut2 : Kp (cutS fs T = if 3 ≤ S then fs.take F.toNat ++ fs.drop (F.toNat + 1) else fs) := ⟨by rw [ht.out]; rfl⟩
    obtain ⟨k0, kb1, kb2, HR⟩ := hk0.out _ H1.out
    go_upto_if 54 with fail
    go_cut [] (fun w' => ∃ fv', Kp (Own W0 w' (FormsH R g fv' (cutS fs T) * Blk b (.cells #[.int .i64 xk, .string (str nm), .slice Av B.length cv, .bool false, .string ⟨#[]⟩, .string ⟨#[]⟩, .string ⟨#[]⟩, .bool false, .bool false, .bool false] 40))))
    case first =>
      by_cases h3 : 3 ≤ S
      · obtain ⟨j, rfl, hj⟩ : ∃ j : Nat, F = j ∧ j < fs.length := by rcases hF with h | h; omega; exact h
        have hcs : Kp (cutS fs T = fs.take j ++ fs.drop (j + 1)) := ⟨by rw [hcut2.out, if_pos h3, Int.toNat_natCast]⟩
        have hone : ∀ u ∈ formsC fs, u.oneCell' = true := by
          intro u hu
          rw [formsC, List.mem_flatMap] at hu
          obtain ⟨f, hf, hu⟩ := hu
          have hav := (HF f hf).2.2
          simp only [FormM.cells, List.mem_cons, List.not_mem_nil, or_false] at hu
          rcases hu with rfl | rfl | rfl | rfl | rfl | rfl | rfl | rfl | rfl | rfl | rfl
          all_goals first | exact hav | rfl
        have HX1 : Own W0 wc (R * Blk b (.cells #[.int .i64 xk, .string (str nm), .slice Av B.length cv, .bool false, .string ⟨#[]⟩, .string ⟨#[]⟩, .string ⟨#[]⟩, .bool false, .bool false, .bool false] 40) * Blk g (formsO (.slice A0 fs.length c0)) * Row 55 11 (.slice A0 fs.length c0) fs.length (formsC fs)) := H1.out.eq (by rw [hX.out]; unfold FormsH; ac_rfl)
        have HD := Kp.mk (del_form HX1 (by omega) hone hj)
        have g1 : (3 : Int) ≤ (S : Int) := by omega
        have hft : (formsC fs).take (j * 11) ++ (formsC fs).drop ((j + 1) * 11) = formsC (fs.take j ++ fs.drop (j + 1)) := forms_cut fs j (by omega)
        have hln : (fs.take j ++ fs.drop (j + 1)).length = fs.length - 1 := by rw [List.length_append, List.length_take, List.length_drop]; omega
        replace hft := Kp.mk hft
        replace hln := Kp.mk hln
        clear hone HX1 hF
        go_wp2_with fail
        refine HD.out.mono ?_
        rintro e w5 ⟨v5, rfl, H5⟩
        obtain ⟨_, A5, c5, hv5, _⟩ := H5.sl (by decide)
        subst hv5
        have f5 := frz_blk (j := 0) (H5.focB g).blk
        have k5 := cell_blk (j := 0) (v := .slice A0 fs.length c0) (H5.focB g).blk rfl
        have H6 := (H5.focB g).set 0 (.slice A5 (fs.length - 1) c5)
        rw [hft.out] at H6
        replace H6 := Kp.mk H6
        clear HD H5
        go_wp2
        go_meet
        refine ⟨.slice A5 (fs.length - 1) c5, ⟨?_⟩⟩
        unfold FormsH
        rw [hcs.out, hln.out]
        exact H6.out.eq (by show _ * _ * _ * Blk g (formsO (.slice A5 (fs.length - 1) c5)) = _; ac_rfl)
      · have g1 : ¬ ((3 : Int) ≤ (S : Int)) := by omega
        have hcs : Kp (cutS fs T = fs) := ⟨by rw [hcut2.out, if_neg h3]⟩
        clear h3 hF
        go_wp2
        go_meet
        refine ⟨.slice A0 fs.length c0, ⟨?_⟩⟩
        rw [hcs.out, ← hX.out]
        exact H1.out
    case' rest =>
      obtain ⟨fv', H2⟩ := hcut
      have hgl : (cutS fs T).length ≤ 1000 := by
        rw [cutS]
        split
        · rw [List.length_append, List.length_take, List.length_drop]; omega
        · exact hl
      clear hk0 hAx hAl hcut2 H1 kb1 kb2 HR k0 hT ht hF hadd hX H0
      obtain ⟨gs, hgs⟩ : ∃ gs, cutS fs T = gs := ⟨_, rfl⟩
      rw [hgs] at H2 hgl
      replace hgs := Kp.mk hgs
      obtain ⟨_, A6, c6, rfl, _⟩ := (show Own W0 wc (R * Row 55 11 fv' gs.length (formsC gs) * Blk g (formsO fv') * _) from H2.out).drop.drop.sl (by decide)
      have H3 : Own W0 wc (R * Row 55 11 (.slice A6 gs.length c6) gs.length (formsC gs) * Blk g (formsO (.slice A6 gs.length c6)) * Blk b (.cells #[.int .i64 xk, .string (str nm), .slice Av B.length cv, .bool false, .string ⟨#[]⟩, .string ⟨#[]⟩, .string ⟨#[]⟩, .bool false, .bool false, .bool false] 40)) := H2.out
      have e0 : wc.cell? ⟨b, 0, none⟩ = some (.int .i64 xk) := cell_blk H3.blk rfl
      have e1 : wc.cell? ⟨b, 1, none⟩ = some (.string (str nm)) := cell_blk H3.blk rfl
      have e2 : wc.cell? ⟨b, 2, none⟩ = some (.slice Av B.length cv) := cell_blk H3.blk rfl
      have e3 : wc.cell? ⟨b, 3, none⟩ = some (.bool false) := cell_blk H3.blk rfl
      have e4 : wc.cell? ⟨b, 4, none⟩ = some (.string ⟨#[]⟩) := cell_blk H3.blk rfl
      have e5 : wc.cell? ⟨b, 5, none⟩ = some (.string ⟨#[]⟩) := cell_blk H3.blk rfl
      have e6 : wc.cell? ⟨b, 6, none⟩ = some (.string ⟨#[]⟩) := cell_blk H3.blk rfl
      have e7 : wc.cell? ⟨b, 7, none⟩ = some (.bool false) := cell_blk H3.blk rfl
      have e8 : wc.cell? ⟨b, 8, none⟩ = some (.bool false) := cell_blk H3.blk rfl
      have e9 : wc.cell? ⟨b, 9, none⟩ = some (.bool false) := cell_blk H3.blk rfl
      have d0 : wc.cell? ⟨g, 0, none⟩ = some (.slice A6 gs.length c6) := cell_blk (H3.focB g).blk rfl
      have f0 : wc.frozen? ⟨g, 0, none⟩ = false := frz_blk (H3.focB g).blk
      have HB := (H3.box (.cells #[.int .i64 xn, .int .i64 xk, .string (str nm), .slice Av B.length cv, .bool false, .string ⟨#[]⟩, .string ⟨#[]⟩, .string ⟨#[]⟩, .bool false, .bool false, .bool false] 55)).drew
      have hsl : Sl (wc.alloc (.cells #[.int .i64 xn, .int .i64 xk, .string (str nm), .slice Av B.length cv, .bool false, .string ⟨#[]⟩, .string ⟨#[]⟩, .string ⟨#[]⟩, .bool false, .bool false, .bool false] 55)).drew (.slice (some ⟨wc.heap.size, 0, none⟩) 1 1) 11 1 (FormM.cells ⟨xn, xk, nm, .slice Av B.length cv, B⟩) := (sl_box wc #[.int .i64 xn, .int .i64 xk, .string (str nm), .slice Av B.length cv, .bool false, .string ⟨#[]⟩, .string ⟨#[]⟩, .string ⟨#[]⟩, .bool false, .bool false, .bool false] 55 11 1 rfl (by decide)).drawn ⟨1, rfl⟩
      have d0b : (wc.alloc (.cells #[.int .i64 xn, .int .i64 xk, .string (str nm), .slice Av B.length cv, .bool false, .string ⟨#[]⟩, .string ⟨#[]⟩, .string ⟨#[]⟩, .bool false, .bool false, .bool false] 55)).cell? ⟨g, 0, none⟩ = some (.slice A6 gs.length c6) := cell_blk (HB.focB g).blk rfl
      replace HB := Kp.mk HB
      replace hsl := Kp.mk hsl
      clear H2 H3
      go_wp2
      go_region_law (refine step_own_append (v := .slice A6 gs.length c6) (vx := .slice (some ⟨wc.heap.size, 0, none⟩) 1 1) HB.out ?_ (.tmp 67) (.tmp 71) 45 (.agg #[.int .i64 0, .int .i64 0, .string ByteArray.empty, .slice none 0 0, .bool false, .string ByteArray.empty, .string ByteArray.empty, .string ByteArray.empty, .bool false, .bool false, .bool false]) 120 1 (FormM.cells ⟨xn, xk, nm, .slice Av B.length cv, B⟩) rfl Tryd.underlying45 info_form rfl (by decide) (by simp [Act.eval]) (by simp [Act.eval]) hsl.out (by simp [Value.oneCell', FormM.cells]) ?_ ?_ ?_; (go_simp); (unfold maxLen; omega); omega; (intro v4 w4 H4 hz4 _; obtain ⟨_, A4, c4, hv4, _⟩ := H4.sl (by decide); subst hv4; have f4 : w4.frozen? ⟨g, 0, none⟩ = false := frz_blk (H4.focB g).blk; have k4 : w4.cell? ⟨g, 0, none⟩ = some (.slice A6 gs.length c6) := cell_blk (H4.focB g).blk rfl))
      all_goals
        have H5 := ((H4.focB b).drop.focB g).set 0 (.slice A4 (gs.length + 1) c4)
        replace H5 := Kp.mk H5
        clear e0 e1 e2 e3 e4 e5 e6 e7 e8 e9 d0 f0 d0b HB hsl H4 hz4
        go_wp2
        go_end0
        refine ⟨rfl, .slice A4 (gs.length + 1) c4, ?_⟩
        rw [hgs.out]
        unfold FormsH
        rw [formsC_snoc, List.length_append, List.length_singleton]
        exact H5.out
end Go.Proofs.YtbijlkbfndkdcaaDoorSep
