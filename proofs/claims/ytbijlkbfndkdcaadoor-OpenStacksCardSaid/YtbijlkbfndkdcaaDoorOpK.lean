/- Own work: OpenStacks: the walk. -/
import Derived.Test.YtbijlkbfndkdcaaDoorOpI
import Derived.Test.YtbijlkbfndkdcaaDoorCutG
import Derived.Test.YtbijlkbfndkdcaaDoorTake
import Derived.Deep.CutBlock
namespace Go.Proofs.YtbijlkbfndkdcaaDoorSep
open Go.RowKit Go.Lib Go.Proofs
/-- The numbers and the stack are alike. -/
def StkH (F : HP) (s d : Nat) (sv ov : Value) (l : List Nat) : HP := F * Row 3 1 ov l.length (IV l) * Row 3 1 sv l.length (IV l) * Blk s (stO d sv)
theorem ZV_at (l : List Int) (j : Nat) (x : Int) (h : l[j]? = some x) : (l.map (Value.int .i64))[j]? = some (.int .i64 x) := by simp [h]
set_option maxRecDepth 100000 in
set_option maxHeartbeats 8000000 in
theorem openStacks_core (w : World) (v : Value) (zs : List Int) (g0 : Sl w v 1 zs.length (zs.map (Value.int .i64))) (_ : zs.length ≤ 17592186044416) (u : Value) (hU : Usual w (Old w) u) (HINS : Kp (∀ (F : HP) (d : Nat) (A4 : Option Addr) (c4 : Nat) (sv : Value) (l : List Nat) (s : Nat) (wr : World) (kk n : Nat), Own w wr (F * Row 3 1 (.slice A4 l.length c4) l.length (IV l) * Row 3 1 sv l.length (IV l) * Blk s (stO d sv)) → l.length ≤ 100000 → kk ≤ l.length → Calls Tryd.prog 26 #[.pointer (some ⟨s, 0, none⟩), .int .i64 kk, .int .i64 n] wr (StkEnd w (F * Row 3 1 (.slice A4 l.length c4) l.length (IV l)) s d (l.take kk ++ n :: l.drop kk)))) :
    Calls Tryd.prog 6 #[v] w fun e w' => e = .returned (.bool true) ∧ Below w.heap.size w w' := by
  have HH := Kp.mk (law_head hU (own_start w))
  have HL := Kp.mk g0.held
  obtain ⟨_, A, c, rfl, _⟩ := g0
  go_enter Tryd.func6, Tryd.ntmps6
  go_wp2_with fail
  refine HH.out.mono ?_
  rintro e w1 ⟨rfl, H1⟩
  have HN := Kp.mk (dom_New H1)
  clear HH H1
  go_wp2_with fail
  refine HN.out.mono ?_
  rintro e w2 ⟨d, A1, c1, rfl, H2⟩
  obtain ⟨F, hF⟩ : ∃ F, Kp (F = Old w * Row 65 10 (.slice A1 1 c1) 1 (nodesC [pageN]) * Blk d (docO (.slice A1 1 c1))) := ⟨_, ⟨rfl⟩⟩
  rw [← hF.out] at H2
  have HL2 : Kp (Held w F (.slice A zs.length c) 1 zs.length (zs.map (Value.int .i64))) := ⟨by rw [hF.out]; exact HL.out.more.more⟩
  have hE : Kp (∀ w9, Own w w9 F → Below w.heap.size w w9) := ⟨fun w9 h => by rw [hF.out] at h; exact h.drop.drop.old⟩
  have H3 := (((H2.nil 3 1).alloc (stO d (.slice none 0 0))).box (.cells #[] 3)).zero 3 1 (w2.heap.size + 1) 0
  have H4 : Own w ((w2.alloc (stO d (.slice none 0 0))).alloc (.cells #[] 3)) (StkH F w2.heap.size d (.slice none 0 0) (.slice (some ⟨w2.heap.size + 1, 0, none⟩) 0 0) []) := H3.eq (by unfold StkH; show _ = F * Row 3 1 (.slice (some ⟨w2.heap.size + 1, 0, none⟩) 0 0) 0 [] * Row 3 1 (.slice none 0 0) 0 [] * Blk w2.heap.size (stO d (.slice none 0 0)); ac_rfl)
  unfold stO at H4
  obtain ⟨s, hs⟩ : ∃ s, Kp (w2.heap.size = s) := ⟨_, ⟨rfl⟩⟩
  have HT := Kp.mk (stack_Top H4 (by decide))
  clear HN H2 H3 hF HL
  go_wp2_with fail
  refine HT.out.mono ?_
  rintro e w3 ⟨rfl, H5⟩
  have HP := Kp.mk (stack_Pop H5 (by decide))
  rw [topF_nil]
  clear HT H4 H5
  go_wp2_with fail
  refine HP.out.mono ?_
  rintro e w4 ⟨rfl, sv0, H6⟩
  rw [topF_nil]
  rw [hs.out] at H6 ⊢
  replace H6 : Kp (Own w w4 (StkH F s d sv0 (.slice (some ⟨s + 1, 0, none⟩) 0 0) [])) := ⟨H6⟩
  clear HP hs
  go_wp2_with fail
  go_loopg [4, 5] zs.length (fun gk v4 v5 wr => ∃ (pos : Nat) (l : List Nat) (sv : Value), v5 = .int .i64 pos ∧ pos ≤ zs.length ∧ Kp (gk + pos = zs.length) ∧ l.length ≤ pos ∧ pos ≤ 60 ∧ Kp (Own w wr (StkH F s d sv v4 l)))
  case atStart => exact ⟨0, [], sv0, rfl, Nat.zero_le _, ⟨by omega⟩, Nat.le_refl _, by omega, H6⟩
  case round =>
    obtain ⟨pos, l, sv, rfl, hpos, hgk, hl, h60, HO⟩ := hrel
    by_cases hlt : pos < zs.length ∧ pos < 60
    · obtain ⟨hlt, hlt2⟩ := hlt
      obtain ⟨x, hx⟩ : ∃ x, zs[pos] = x := ⟨_, rfl⟩
      have hg : zs[pos]? = some x := by rw [List.getElem?_eq_getElem hlt, hx]
      have hS := HL2.out.sl (show Own w wr F from (show Own w wr (F * _ * _ * _) from HO.out).drop.drop.drop)
      obtain ⟨ad, cc, hv, hcell⟩ := hS.at_ pos hlt
      injection hv with q1 q2 q3
      subst q1 q3
      rw [List.getD_eq_getElem?_getD, ZV_at zs pos x hg] at hcell
      dsimp only [Option.getD_some] at hcell
      obtain ⟨K, hK7, hK⟩ := and_i64 x 7 (by decide)
      have hK : bits .and .i64 x 7 = (K : Int) := hK
      obtain ⟨n, hn15, hn⟩ := and_i64 (x / 8) 15 (by decide)
      have hn : bits .and .i64 (x / 8) 15 = (n : Int) := hn
      clear hS hx hg H6
      replace hU := Kp.mk hU
      obtain ⟨_, A4, c4, rfl, _⟩ := (show Own w wr (F * Row 3 1 u4 l.length (IV l) * _ * _) from HO.out).drop.drop.sl (by decide)
      go_upto_block 2 with fail
      go_cut [4, 7, 8, 9] (fun v4 v7 v8 v9 wc => ∃ (l' : List Nat) (sv' : Value), l'.length ≤ pos + 1 ∧ Kp (Own w wc (StkH F s d sv' v4 l')))
      case first =>
        have hKc : K = 0 ∨ K = 1 ∨ K = 2 ∨ K = 3 ∨ K = 4 ∨ K = 5 ∨ K = 6 ∨ K = 7 := by omega
        rcases hKc with rfl | rfl | rfl | rfl | rfl | rfl | rfl | rfl
        case inr.inr.inr.inl =>
          by_cases h0 : l = []
          · subst h0
            have HP := stack_Pop (R := F * Row 3 1 (.slice A4 0 c4) 0 (IV [])) HO.out (by decide)
            rw [topF_nil] at HP
            replace HP := Kp.mk HP
            have hl0 : ([] : List Nat).length = 0 := rfl
            rw [hl0]
            go_wp2_with fail
            refine HP.out.mono ?_
            rintro e w5 ⟨rfl, sv2, H5⟩
            replace H5 := Kp.mk H5
            clear HP
            go_wp2
            go_meet
            exact ⟨[], sv2, by simp, ⟨H5.out⟩⟩
          · obtain ⟨t, y, rfl⟩ := snoc_of l h0
            have hl2 : (t ++ [y]).length = t.length + 1 := by simp
            have HX : Own w wr (F * Row 3 1 (.slice A4 (t.length + 1) c4) (t.length + 1) (IV (t ++ [y])) * Row 3 1 sv (t ++ [y]).length (IV (t ++ [y])) * Blk s (stO d sv)) := by
              have h := HO.out
              unfold StkH at h
              rw [hl2] at h ⊢
              exact h
            have HP := stack_Pop HX (by omega)
            rw [topF_snoc, List.dropLast_concat] at HP
            obtain ⟨g4, c5, hA4, hc1, hc2⟩ := HX.drop.drop.at0 (by omega)
            injection hA4 with e1 e2 e3
            subst e1 e3
            have ky := HX.drop.drop.cellR t.length (.int .i64 (y : Int)) (IV_at _ _ _ (by simp))
            unfold maxLen at hc2
            replace HP := Kp.mk HP
            rw [hl2] at hl ⊢
            clear h0 hl2 HX HO
            go_wp2_with fail
            refine HP.out.mono ?_
            rintro e w5 ⟨rfl, sv2, H5⟩
            replace H5 := Kp.mk H5
            clear HP ky
            go_wp2
            go_meet
            refine ⟨t, sv2, by omega, ⟨?_⟩⟩
            have h := ((H5.out.eq (show _ = F * Row 3 1 sv2 t.length (IV t) * Blk s (stO d sv2) * Row 3 1 (.slice (some ⟨g4, 0, none⟩) (t.length + 1) c4) (t.length + 1) (IV (t ++ [y])) by ac_rfl)).shrink (m := t.length) (by omega))
            rw [show (IV (t ++ [y])).take t.length = IV t by rw [IV_snoc, List.take_left' (IV_len t)]] at h
            exact h.eq (by unfold StkH; ac_rfl)
        case inr.inr.inr.inr.inl =>
          have HP := Kp.mk (stack_Remove (R := F * Row 3 1 (.slice A4 l.length c4) l.length (IV l)) HO.out (by omega) n)
          go_wp2_with fail
          refine HP.out.mono ?_
          rintro e w5 ⟨rfl, sv2, H5⟩
          replace H5 : Kp (Own w w5 (F * Row 3 1 sv2 (l.erase n).length (IV (l.erase n)) * Blk s (stO d sv2) * Row 3 1 (.slice A4 l.length c4) l.length (IV l))) := ⟨H5.eq (by ac_rfl)⟩
          clear HP HO hcell
          go_wp2
          go_loopg [4, 85] l.length (fun gk v4 v85 wr2 => ∃ q : Nat, v4 = .slice A4 l.length c4 ∧ v85 = .int .i64 q ∧ q ≤ l.length ∧ Kp (gk + q = l.length) ∧ Kp (n ∉ l.take q) ∧ wr2 = w5)
          case atStart => exact ⟨0, rfl, rfl, Nat.zero_le _, ⟨by omega⟩, ⟨by simp⟩, rfl⟩
          case round =>
            obtain ⟨q, rfl, rfl, hq, hgk2, hnin, rfl⟩ := hrel
            by_cases hql : q < l.length
            · obtain ⟨y, hy⟩ : ∃ y, l[q] = y := ⟨_, rfl⟩
              have hgy : l[q]? = some y := by rw [List.getElem?_eq_getElem hql, hy]
              obtain ⟨g4, c5, hA4, hc1, hc2⟩ := H5.out.at0 (by omega)
              injection hA4 with e1 e2 e3
              subst e1 e3
              have ky := H5.out.cellR q (.int .i64 (y : Int)) (IV_at _ _ _ hgy)
              unfold maxLen at hc2
              have hcut := nin_cut hql hnin.out
              rw [hy] at hcut
              by_cases hyn : n = y
              · have he : ((y : Int) == (n : Int)) = true := by rw [hyn]; exact beq_self_eq_true _
                have her := Kp.mk (erase_at (show l[q]? = some n by rw [hgy, hyn]) hnin.out)
                clear hcut hy hgy hyn
                have HX0 := (H5.out.box (.cells #[] 3)).drew
                have S1 := (HX0.slR (.slice (some ⟨g4, 0, none⟩) l.length c4) (by decide)).take (m := q) (by omega)
                obtain ⟨X, hX⟩ : ∃ X, X = if c4 = (((q : Int) + 1)).toNat then some (⟨g4, 0, none⟩ : Addr) else (some (⟨g4, 0, none⟩ : Addr)).map (·.add (((q : Int) + 1).toNat * 1)) := ⟨_, rfl⟩
                have hcl := run_cut_l (P := Tryd.prog) Tryd.underlying34 info_int (some ⟨g4, 0, none⟩) X l.length c4 ((q : Int) + 1) (by omega) (by omega) hX
                have hqq : ((q : Int) + 1).toNat = q + 1 := by omega
                rw [hqq] at hcl hX
                rw [Nat.mul_one] at S1 hX
                have hX2 := Kp.mk hX.symm
                have b1 : (q : Int) ≤ (c4 : Int) := by omega
                have hwr : IntKind.i64.wrap ((q : Int) + 1) = (q : Int) + 1 := by rw [IntKind.wrap_i64]; omega
                have b2 : (0 : Int) ≤ (q : Int) + 1 := by omega
                have b3 : (q : Int) + 1 ≤ (l.length : Int) := by omega
                have hIt : (IV l).take q = IV (l.take q) := by simp [IV, List.map_take]
                have hId : (IV l).drop (q + 1) = IV (l.drop (q + 1)) := by simp [IV, List.map_drop]
                rw [hIt] at S1
                have hSd : Kp (∀ (w9 : World) (v9 : Value), Own w w9 (F * Row 3 1 sv2 (l.erase n).length (IV (l.erase n)) * Blk s (stO d sv2) * Row 3 1 (.slice (some ⟨g4, 0, none⟩) l.length c4) l.length (IV l) * Row 3 1 v9 q (IV (l.take q))) → Sl w9 (.slice X (l.length - (q + 1)) (c4 - (q + 1))) 1 (l.length - (q + 1)) (IV (l.drop (q + 1)))) := ⟨fun w9 v9 h9 => by
                  have h := (h9.slR (.slice (some ⟨g4, 0, none⟩) l.length c4) (by decide)).drop (k := q + 1) (by omega)
                  rw [hX2.out, hId] at h
                  exact h⟩
                replace HX0 := Kp.mk HX0
                replace S1 := Kp.mk S1
                clear hX hIt hId hX2 H5
                go_wp2
                go_region_law (first | (refine step_own_append_zero (vx := .slice (some ⟨g4, 0, none⟩) q c4) HX0.out ?_ (.tmp 94) (.tmp 97) 34 (.int .i64 0) 8 wr.heap.size 0 q (IV (l.take q)) rfl Tryd.underlying34 info_int rfl (by decide) (by simp [Act.eval]) (by simp [Act.eval]) S1.out (IV_one _) ?_ ?_ ?_; (go_simp); (unfold maxLen; omega); omega; (intro v8 w8 H8 hz8; have S2 := Kp.mk (hSd.out _ _ H8); obtain ⟨_, A8, c8, hv8, _⟩ := H8.sl (by decide); subst hv8; replace H8 := Kp.mk H8)) | (refine step_own_append (v := .slice A8 q c8) (vx := .slice X (l.length - (q + 1)) (c4 - (q + 1))) H8.out ?_ (.tmp 98) (.tmp 102) 34 (.int .i64 0) 8 (l.length - (q + 1)) (IV (l.drop (q + 1))) rfl Tryd.underlying34 info_int rfl (by decide) (by simp [Act.eval]) (by simp [Act.eval]) S2.out (IV_one _) ?_ ?_ ?_; (go_simp); (unfold maxLen; omega); omega; (intro v9 w9 H9 hz9 _; replace H9 := Kp.mk H9)))
                go_wp2
                go_meet
                have h := (H9.out.focR (.slice (some ⟨g4, 0, none⟩) l.length c4)).drop
                have hel : (l.erase n).length = q + (l.length - (q + 1)) := by rw [her.out, List.length_append, List.length_take, List.length_drop]; omega
                have hee : IV (l.take q) ++ IV (l.drop (q + 1)) = IV (l.erase n) := by rw [her.out]; simp [IV]
                refine ⟨l.erase n, sv2, by omega, ⟨h.eq ?_⟩⟩
                unfold StkH
                rw [hee, hel]
                ac_rfl
              · have he : ((y : Int) == (n : Int)) = false := by rw [beq_eq_false_iff_ne]; omega
                replace hcut := Kp.mk (hcut hyn)
                clear hy hgy hyn
                go_wp2
                go_roundg (l.length - (q + 1))
                case rel => exact ⟨q + 1, rfl, by go_num, by omega, ⟨by omega⟩, hcut, rfl⟩
                case measure => have := hgk2.out; omega
            · obtain rfl : q = l.length := by omega
              rw [List.take_length] at hnin
              have her := Kp.mk (List.erase_of_not_mem hnin.out)
              clear hnin
              go_wp2
              go_meet
              refine ⟨l, sv2, by omega, ⟨?_⟩⟩
              have h := H5.out
              rw [her.out] at h
              exact h.eq (by unfold StkH; ac_rfl)
        case inr.inr.inr.inr.inr.inl =>
          obtain ⟨kk, hkk⟩ : ∃ kk : Nat, n % (l.length + 1) = kk := ⟨_, rfl⟩
          have hkl : kk ≤ l.length := by rw [← hkk]; have := Nat.mod_lt n (show 0 < l.length + 1 by omega); omega
          have hrem : (n : Int).tmod ((l.length : Int) + 1) = (kk : Int) := by
            rw [← hkk]
            exact (Int.ofNat_tmod n (l.length + 1)).symm
          have hne : ((l.length : Int) + 1 == 0) = false := by rw [beq_eq_false_iff_ne]; omega
          have HP := Kp.mk (HINS.out F d A4 c4 sv l s wr kk n HO.out (by omega) hkl)
          clear hkk
          go_wp2_with fail
          refine HP.out.mono ?_
          rintro e w5 ⟨rfl, sv2, H5⟩
          obtain ⟨m, hm⟩ : ∃ m, Kp (l.take kk ++ n :: l.drop kk = m) := ⟨_, ⟨rfl⟩⟩
          rw [hm.out] at H5
          replace H5 : Kp (Own w w5 (F * Row 3 1 sv2 m.length (IV m) * Blk s (stO d sv2) * Row 3 1 (.slice A4 l.length c4) l.length (IV l))) := ⟨H5.eq (by ac_rfl)⟩
          clear HP HO hcell
          obtain ⟨_, _, _, hAc, hb1, hb2, _⟩ := H5.out.sl (by decide)
          injection hAc with e1 e2 e3
          subst e1 e3
          unfold maxLen at hb2
          have hIt : (IV l).take kk = IV (l.take kk) := by simp [IV, List.map_take]
          have hId : (IV l).drop kk = IV (l.drop kk) := by simp [IV, List.map_drop]
          -- the three places where the box of the one number may be made
          have HXa := (H5.out.box (.cells #[] 3)).drew
          have HXb := ((H5.out.box (.cells #[] 3)).alloc (.cells #[.int .i64 (n : Int)] 3)).drew
          have HXc := ((H5.out.alloc (.cells #[.int .i64 (n : Int)] 3)).box (.cells #[] 3)).drew
          have Sa := (HXa.slR (.slice A4 l.length c4) (by decide)).take (m := kk) (by omega)
          have Sb := (HXb.slR (.slice A4 l.length c4) (by decide)).take (m := kk) (by omega)
          have Sc := (HXc.slR (.slice A4 l.length c4) (by decide)).take (m := kk) (by omega)
          rw [Nat.mul_one, hIt] at Sa Sb Sc
          obtain ⟨X, hX⟩ : ∃ X, X = if c4 = ((kk : Int)).toNat then A4 else A4.map (·.add ((kk : Int).toNat * 1)) := ⟨_, rfl⟩
          have hcl := run_cut_l (P := Tryd.prog) Tryd.underlying34 info_int A4 X l.length c4 (kk : Int) (by omega) (by omega) hX
          rw [Int.toNat_natCast] at hcl hX
          rw [Nat.mul_one] at hX
          have hX2 := Kp.mk hX.symm
          have hSd : Kp (∀ (w9 : World) (Q : HP), Own w w9 (Q * Row 3 1 (.slice A4 l.length c4) l.length (IV l)) → Sl w9 (.slice X (l.length - kk) (c4 - kk)) 1 (l.length - kk) (IV (l.drop kk))) := ⟨fun w9 Q h9 => by
            have h := (h9.sl (by decide)).drop (k := kk) (by omega)
            rw [hX2.out, hId] at h
            exact h⟩
          obtain ⟨inf, hinf, _⟩ := Option.map_eq_some_iff.1 (info_int)
          have htk := run_take_l (P := Tryd.prog) Tryd.underlying34 hinf A4 l.length c4 kk hkl (by omega) .i64
          have b1 : (kk : Int) ≤ (c4 : Int) := by omega
          have b2 : (kk : Int) ≤ (l.length : Int) := by omega
          replace HXa := Kp.mk HXa
          replace HXb := Kp.mk HXb
          replace HXc := Kp.mk HXc
          replace Sa := Kp.mk Sa
          replace Sb := Kp.mk Sb
          replace Sc := Kp.mk Sc
          clear hX hIt hId hX2 hinf
          rw [World.size_alloc] at HXb
          go_wp2
          go_region_law (first
            | (refine step_own_append_zero (vx := .slice A4 kk c4) HXa.out ?_ (.tmp 116) (.tmp 119) 34 (.int .i64 0) 8 w5.heap.size 0 kk (IV (l.take kk)) rfl Tryd.underlying34 info_int rfl (by decide) (by simp [Act.eval]) (by simp [Act.eval]) Sa.out (IV_one _) ?_ ?_ ?_; (go_simp); (unfold maxLen; omega); omega; (intro v8 w8 H8 hz8; obtain ⟨_, A8, c8, hv8, _⟩ := H8.sl (by decide); subst hv8; have HY := Kp.mk (H8.box (.cells #[.int .i64 (n : Int)] 3)); have SY := Kp.mk (sl_box w8 #[.int .i64 (n : Int)] 3 1 1 rfl (by decide)); replace H8 := Kp.mk H8))
            | (refine step_own_append_zero (vx := .slice A4 kk c4) HXb.out ?_ (.tmp 116) (.tmp 119) 34 (.int .i64 0) 8 w5.heap.size 0 kk (IV (l.take kk)) rfl Tryd.underlying34 info_int rfl (by decide) (by simp [Act.eval]) (by simp [Act.eval]) Sb.out (IV_one _) ?_ ?_ ?_; (go_simp); (unfold maxLen; omega); omega; (intro v8 w8 H8 hz8; obtain ⟨_, A8, c8, hv8, _⟩ := H8.sl (by decide); subst hv8; have SY := Kp.mk (held_blk (sz := 1) (m := 1) (by decide) rfl (by decide) _ (H8.focB (w5.heap.size + 1))); have HY := Kp.mk H8; replace H8 := Kp.mk H8))
            | (refine step_own_append_zero (vx := .slice A4 kk c4) HXc.out ?_ (.tmp 116) (.tmp 119) 34 (.int .i64 0) 8 (w5.heap.size + 1) 0 kk (IV (l.take kk)) rfl Tryd.underlying34 info_int rfl (by decide) (by simp [Act.eval]) (by simp [Act.eval]) Sc.out (IV_one _) ?_ ?_ ?_; (go_simp); (unfold maxLen; omega); omega; (intro v8 w8 H8 hz8; obtain ⟨_, A8, c8, hv8, _⟩ := H8.sl (by decide); subst hv8; have SY := Kp.mk (held_blk (sz := 1) (m := 1) (by decide) rfl (by decide) _ (H8.focB w5.heap.size)); have HY := Kp.mk H8; replace H8 := Kp.mk H8))
            | (refine step_own_append (v := .slice A8 kk c8) (vx := .slice (some ⟨w8.heap.size, 0, none⟩) 1 1) HY.out ?_ (.tmp 120) (.tmp 122) 34 (.int .i64 0) 8 1 [.int .i64 (n : Int)] rfl Tryd.underlying34 info_int rfl (by decide) (by simp [Act.eval]) (by simp [Act.eval]) SY.out (by simp [Value.oneCell']) ?_ ?_ ?_; (go_simp); (unfold maxLen; omega); omega; (intro v9 w9 H9 hz9 _; obtain ⟨_, A9, c9, hv9, _⟩ := H9.sl (by decide); subst hv9; have SD := Kp.mk (hSd.out _ _ (H9.focR (.slice A4 l.length c4))); replace H9 := Kp.mk H9))
            | (refine step_own_append (v := .slice A8 kk c8) (vx := .slice (some ⟨w5.heap.size + 1, 0, none⟩) 1 1) HY.out ?_ (.tmp 120) (.tmp 122) 34 (.int .i64 0) 8 1 [.int .i64 (n : Int)] rfl Tryd.underlying34 info_int rfl (by decide) (by simp [Act.eval]) (by simp [Act.eval]) SY.out (by simp [Value.oneCell']) ?_ ?_ ?_; (go_simp); (unfold maxLen; omega); omega; (intro v9 w9 H9 hz9 _; obtain ⟨_, A9, c9, hv9, _⟩ := H9.sl (by decide); subst hv9; have SD := Kp.mk (hSd.out _ _ (H9.focR (.slice A4 l.length c4))); replace H9 := Kp.mk H9))
            | (refine step_own_append (v := .slice A8 kk c8) (vx := .slice (some ⟨w5.heap.size, 0, none⟩) 1 1) HY.out ?_ (.tmp 120) (.tmp 122) 34 (.int .i64 0) 8 1 [.int .i64 (n : Int)] rfl Tryd.underlying34 info_int rfl (by decide) (by simp [Act.eval]) (by simp [Act.eval]) SY.out (by simp [Value.oneCell']) ?_ ?_ ?_; (go_simp); (unfold maxLen; omega); omega; (intro v9 w9 H9 hz9 _; obtain ⟨_, A9, c9, hv9, _⟩ := H9.sl (by decide); subst hv9; have SD := Kp.mk (hSd.out _ _ (H9.focR (.slice A4 l.length c4))); replace H9 := Kp.mk H9))
            | (refine step_own_append (v := .slice A9 (kk + 1) c9) (vx := .slice X (l.length - kk) (c4 - kk)) H9.out ?_ (.tmp 123) (.tmp 126) 34 (.int .i64 0) 8 (l.length - kk) (IV (l.drop kk)) rfl Tryd.underlying34 info_int rfl (by decide) (by simp [Act.eval]) (by simp [Act.eval]) SD.out (IV_one _) ?_ ?_ ?_; (go_simp); (unfold maxLen; omega); omega; (intro v10 w10 H10 hz10 _; replace H10 := Kp.mk H10)))
          all_goals
            go_wp2
            go_meet
            have h := (H10.out.focR (.slice A4 l.length c4)).drop
            have hml : m.length = kk + 1 + (l.length - kk) := by rw [← hm.out, List.length_append, List.length_cons, List.length_take, List.length_drop]; omega
            have hmi : IV (l.take kk) ++ [.int .i64 (n : Int)] ++ IV (l.drop kk) = IV m := by rw [← hm.out]; simp [IV]
            rw [hmi, ← hml] at h
            refine ⟨m, sv2, by omega, ⟨?_⟩⟩
            unfold StkH
            first
              | exact h.eq (by ac_rfl)
              | exact ((h.focB (w5.heap.size + 1)).drop).eq (by ac_rfl)
              | exact ((h.focB w5.heap.size).drop).eq (by ac_rfl)
        case inr.inr.inr.inr.inr.inr.inl =>
          go_wp2
          go_meet
          exact ⟨l, sv, by omega, HO⟩
        case inr.inr.inr.inr.inr.inr.inr =>
          go_wp2
          go_meet
          exact ⟨l, sv, by omega, HO⟩
        all_goals
          have HP := Kp.mk (stack_Push (R := F * Row 3 1 (.slice A4 l.length c4) l.length (IV l)) HO.out (by omega) n)
          go_wp2_with fail
          refine HP.out.mono ?_
          rintro e w5 ⟨rfl, sv2, H5⟩
          have HB := H5.box (.cells #[.int .i64 (n : Int)] 3)
          have hsl : Sl (w5.alloc (.cells #[.int .i64 (n : Int)] 3)) (.slice (some ⟨w5.heap.size, 0, none⟩) 1 1) 1 1 [.int .i64 (n : Int)] := sl_box w5 #[.int .i64 (n : Int)] 3 1 1 rfl (by decide)
          replace HB := Kp.mk HB
          replace hsl := Kp.mk hsl
          clear HP H5
          go_wp2_with (at_builtin; go_must (refine own_append (v := .slice A4 l.length c4) (vx := .slice (some ⟨w5.heap.size, 0, none⟩) 1 1) HB.out rfl (.tmp 54) (.tmp 56) 34 (.int .i64 0) 8 1 [.int .i64 (n : Int)] rfl Tryd.underlying34 info_int rfl (by decide) rfl rfl hsl.out (by simp [Value.oneCell']) ?c2 ?c3 ?_))
          case c2 => unfold maxLen; omega
          case c3 => omega
          intro v6 w6 H6 hz6 _
          replace H6 := Kp.mk H6
          go_wp2
          go_meet
          refine ⟨l ++ [n], sv2, by simp; omega, ⟨H6.out.eq ?_⟩⟩
          unfold StkH
          rw [IV_snoc, List.length_append, List.length_singleton]
          ac_rfl
      case' rest =>
        obtain ⟨l', sv', hl', HO'⟩ := hcut
        clear hcell HO
        obtain ⟨_, A6, c6, rfl, hb1, hb2, _⟩ := (show Own w wc (F * Row 3 1 _ l'.length (IV l') * Row 3 1 sv' l'.length (IV l') * Blk s (stO d sv')) from HO'.out).drop.drop.sl (by decide)
        have HX : Own w wc (F * Row 3 1 (.slice A6 l'.length c6) l'.length (IV l') * Row 3 1 sv' l'.length (IV l') * Blk s (stO d sv')) := HO'.out
        obtain ⟨_, A7, c7, rfl, hb3, hb4, _⟩ := HX.drop.sl (by decide)
        have k1 : wc.cell? ⟨s, 1, none⟩ = some (.slice A7 l'.length c7) := cell_blk HX.blk rfl
        have HT := stack_Top HX (by omega)
        clear HO'
        obtain ⟨N, hN⟩ : ∃ N, l'.length = N := ⟨_, rfl⟩
        rw [hN] at HT HX hb1 hb3 k1 hl' ⊢
        replace hN := Kp.mk hN
        replace HX := Kp.mk HX
        replace HT := Kp.mk HT
        go_upto_if 130 with fail
        go_cut [10] (fun v10 w' => v10 = .int .i64 (topF l') ∧ w' = wc)
        case first =>
          by_cases h0 : l' = []
          · have hz0 : N = 0 := by rw [← hN.out, h0]; rfl
            have htop := Kp.mk (show topF l' = -1 by rw [h0]; rfl)
            subst hz0
            clear HT HX k1 h0 hN
            go_wp2
            go_meet
            exact ⟨by rw [htop.out], rfl⟩
          · obtain ⟨t, y, hty⟩ := snoc_of l' h0
            obtain ⟨m, hm⟩ : ∃ m, N = m + 1 := ⟨t.length, by rw [← hN.out, hty]; simp⟩
            have hmt : t.length = m := by have := hN.out; rw [hty, hm] at this; simpa using this
            have htop := Kp.mk (show topF l' = (y : Int) by rw [hty, topF_snoc])
            subst hm
            obtain ⟨g6, c8, hA6, hc1, hc2⟩ := HX.out.drop.drop.at0 (by omega)
            injection hA6 with e1 e2 e3
            subst e1 e3
            have ky := HX.out.drop.drop.cellR m (.int .i64 (y : Int)) (IV_at _ _ _ (by rw [hty, ← hmt]; simp))
            clear h0 HT HX k1 hb1 hb2 hb3 hb4 hc1 hc2 e2 hty hmt hN
            go_wp2
            go_meet
            exact ⟨by rw [htop.out], rfl⟩
        case' rest =>
          obtain ⟨rfl, rfl⟩ := hcut
          go_wp2_with fail
          refine HT.out.mono ?_
          rintro e w5 ⟨rfl, H5⟩
          replace H5 : Kp (Own w w5 (StkH F s d (.slice A7 N c7) (.slice A6 N c6) l')) := ⟨by unfold StkH; rw [hN.out]; exact H5⟩
          clear HT HX k1
          go_wp2
          go_loopg [153] N (fun gk v153 wr3 => ∃ q : Nat, v153 = .int .i64 q ∧ q ≤ N ∧ Kp (gk + q = N) ∧ Kp (Own w wr3 (StkH F s d (.slice A7 N c7) (.slice A6 N c6) l')))
          case atStart => exact ⟨0, rfl, Nat.zero_le _, ⟨by omega⟩, H5⟩
          case round =>
            obtain ⟨q, rfl, hq, hgk2, HO2⟩ := hrel
            by_cases hql : q < N
            · have hql2 : q < l'.length := by rw [hN.out]; exact hql
              obtain ⟨y, hy⟩ : ∃ y, l'[q] = y := ⟨_, rfl⟩
              have hgy : l'[q]? = some y := by rw [List.getElem?_eq_getElem hql2, hy]
              have HX : Own w wr (F * Row 3 1 (.slice A6 N c6) N (IV l') * Row 3 1 (.slice A7 N c7) N (IV l') * Blk s (stO d (.slice A7 N c7))) := by
                have h := HO2.out
                unfold StkH at h
                rw [hN.out] at h
                exact h
              obtain ⟨g6, c8, hA6, _, _⟩ := HX.drop.drop.at0 (by omega)
              injection hA6 with e1 e2 e3
              subst e1 e3
              obtain ⟨g7, c9, hA7, _, _⟩ := HX.drop.at0 (by omega)
              injection hA7 with e4 e5 e6
              subst e4 e6
              have ky := HX.drop.drop.cellR q (.int .i64 (y : Int)) (IV_at _ _ _ hgy)
              have kz := HX.drop.cellR q (.int .i64 (y : Int)) (IV_at _ _ _ hgy)
              have k1 : wr.cell? ⟨s, 1, none⟩ = some (.slice (some ⟨g7, 0, none⟩) N c7) := cell_blk HX.blk rfl
              clear HX hy hgy H5 hql2
              go_wp2
              go_region
              go_wp2
              go_roundg (N - (q + 1))
              case rel => exact ⟨q + 1, by go_num, by omega, ⟨by omega⟩, ⟨HO2.out.drew⟩⟩
              case measure => have := hgk2.out; omega
            · obtain rfl : q = N := by omega
              go_wp2
              go_roundg (zs.length - (pos + 1))
              case rel => exact ⟨pos + 1, l', _, by go_num, by omega, ⟨by omega⟩, by rw [hN.out]; exact hl', by omega, HO2⟩
              case measure => have := hgk.out; omega
    · have hO := Kp.mk (hE.out _ (show Own w wr (F * _ * _ * _) from HO.out).drop.drop.drop)
      go_wp2
      all_goals
        go_ret
        exact ⟨rfl, hO.out⟩
end Go.Proofs.YtbijlkbfndkdcaaDoorSep
