/- Own work: OpenForms: the walk (printed by wip/genForms.py). -/
import Derived.Test.YtbijlkbfndkdcaaDoorOnH
namespace Go.Proofs.YtbijlkbfndkdcaaDoorSep
open Go.RowKit Go.Lib Go.Proofs
set_option maxRecDepth 100000 in
set_option maxHeartbeats 16000000 in
theorem openForms_core (w : World) (v : Value) (L : List StM) (g0 : Sl w v 4 L.length (stepsC L)) (u : Value) (hU : Usual w (Old w) u) :
    Calls Tryd.prog 5 #[v] w fun e w' => e = .returned (.bool true) ∧ Below w.heap.size w w' := by
  have HH := Kp.mk (law_head hU (own_start w))
  obtain ⟨A, c, rfl⟩ : ∃ A c, v = .slice A L.length c := by
    obtain ⟨_, A, c, h, _⟩ := g0
    exact ⟨A, c, h⟩
  replace g0 := Kp.mk g0
  clear hU
  go_enter Tryd.func5, Tryd.ntmps5
  go_wp2_with fail
  refine HH.out.mono ?_
  rintro e w1 ⟨rfl, H1⟩
  have H2 := (((H1.nil 55 11).alloc (formsO (.slice none 0 0))).box (.cells #[] 52)).zero 52 4 (w1.heap.size + 1) 0
  obtain ⟨g, hg⟩ : ∃ g, Kp (w1.heap.size = g) := ⟨_, ⟨rfl⟩⟩
  rw [hg.out] at H2
  have H3 : Kp (LawS w ((w1.alloc (.cells #[.slice none 0 0] 45)).alloc (.cells #[] 52)) g (.slice (some ⟨g + 1, 0, none⟩) 0 0) []) := ⟨⟨Old w, [], _, Rel.nil, fun f hf => absurd hf (List.not_mem_nil), fun w9 h => h.old, H2.eq (show _ = Old w * Row 52 4 (.slice (some ⟨g + 1, 0, none⟩) 0 0) 0 [] * Row 55 11 (.slice none 0 0) 0 [] * Blk g (formsO (.slice none 0 0)) by ac_rfl)⟩⟩
  clear HH H1 H2
  go_wp2
  rw [hg.out]
  go_loopg [4, 5] L.length (fun gk v4 v5 wr => ∃ (pos : Nat) (own : List StM), v5 = .int .i64 pos ∧ pos ≤ L.length ∧ Kp (gk + pos = L.length) ∧ own.length ≤ pos ∧ pos ≤ 60 ∧ Kp (LawS w wr g v4 own))
  case atStart => exact ⟨0, [], rfl, Nat.zero_le _, ⟨by omega⟩, Nat.le_refl _, by omega, H3⟩
  case round =>
    obtain ⟨pos, own, rfl, hpos, hgk, hl, h60, HS⟩ := hrel
    clear H3 hg

    by_cases hlt : pos < L.length ∧ pos < 60
    · obtain ⟨hlt, hlt2⟩ := hlt
      have hlt3 : (pos : Int) < 60 := by omega
      obtain ⟨⟨F, fs, fv, hR, HF, hE, HO⟩⟩ := HS.out
      obtain ⟨⟨K, N0, name, val⟩, hx⟩ : ∃ x, L[pos]? = some x := ⟨_, List.getElem?_eq_getElem hlt⟩
      obtain ⟨ad, cc, hv, hc1, hc2, c0, c1, c2, c3⟩ := (g0.out.below (hE _ (show Own w wr (F * _ * _ * _) from HO).drop.drop.drop)).stepAt pos _ hx
      injection hv with q1 q2 q3
      subst q1 q3
      dsimp only at c0 c1 c2 c3
      have z1 : (str name).size = name.length := str_size name
      have z2 : (str val).size = val.length := str_size val
      have hcc : 20 < name.length ∨ (name.length ≤ 20 ∧ 20 < val.length) ∨ (name.length ≤ 20 ∧ val.length ≤ 20) := by omega
      rcases hcc with h | ⟨ha, h⟩ | ⟨ha, h⟩
      · have t1 : decide ((20 : Int) < ((str name).size : Int)) = true := decide_eq_true (by omega)
        have t1' : 20 < (str name).size := by omega
        have HS2 : Kp (LawS w (wr.alloc (.cells #[.int .i64 K, .int .i64 N0, .string (str name), .string (str val)] 52)) g u4 own) := ⟨⟨F, fs, fv, hR, HF, hE, HO.box _⟩⟩
        clear HO hR HF hE HS z1 z2 h hx q2
        as_aux_lemma =>
          go_wp2
          go_roundg (L.length - (pos + 1))
          case rel => exact ⟨pos + 1, own, by go_num, by omega, ⟨by omega⟩, by omega, by omega, HS2⟩
          case measure => have := hgk.out; omega
      · have t1 : decide ((20 : Int) < ((str name).size : Int)) = false := decide_eq_false (by omega)
        have t1' : ¬ 20 < (str name).size := by omega
        have t2 : decide ((20 : Int) < ((str val).size : Int)) = true := decide_eq_true (by omega)
        have t2' : 20 < (str val).size := by omega
        have HS2 : Kp (LawS w (wr.alloc (.cells #[.int .i64 K, .int .i64 N0, .string (str name), .string (str val)] 52)) g u4 own) := ⟨⟨F, fs, fv, hR, HF, hE, HO.box _⟩⟩
        clear HO hR HF hE HS z1 z2 h ha hx q2
        as_aux_lemma =>
          go_wp2
          go_roundg (L.length - (pos + 1))
          case rel => exact ⟨pos + 1, own, by go_num, by omega, ⟨by omega⟩, by omega, by omega, HS2⟩
          case measure => have := hgk.out; omega
      · have t1 : decide ((20 : Int) < ((str name).size : Int)) = false := decide_eq_false (by omega)
        have t1' : ¬ 20 < (str name).size := by omega
        have t2 : decide ((20 : Int) < ((str val).size : Int)) = false := decide_eq_false (by omega)
        have t2' : ¬ 20 < (str val).size := by omega
        obtain ⟨n, hn15, hn⟩ := and_i64 N0 15 (by decide)
        have hn : bits .and .i64 N0 15 = (n : Int) := hn
        have H3 := HO.alloc (stepO ⟨K, n, name, val⟩)
        obtain ⟨gs, hgs⟩ : ∃ gs, wr.heap.size = gs := ⟨_, rfl⟩
        have f0 : (wr.alloc (.cells #[.int .i64 K, .int .i64 N0, .string (str name), .string (str val)] 52)).frozen? ⟨wr.heap.size, 1, none⟩ = false := frz_blk (HO.alloc _).blk
        replace hR := Kp.mk hR
        replace HF := Kp.mk HF
        replace hE := Kp.mk hE
        replace H3 := Kp.mk H3
        clear HS z1 z2 hx q2 h ha HO
        go_upto_region 11 with fail
        unfold stepO at H3
        rw [hgs] at H3
        dsimp only at H3
        generalize wr.alloc (.cells #[.int .i64 K, .int .i64 (n : Int), .string (str name), .string (str val)] 52) = w3 at H3 ⊢
        replace H3 : Kp (Own w w3 (XH F g gs fv u4 ⟨K, n, name, val⟩ own fs)) := ⟨H3.out⟩
        clear hn hgs f0 c0 c1 c2 c3 t1 t1' t2 t2'
        obtain ⟨_, A4, c4, rfl, _⟩ := H3.out.xrows.sl (by decide)
        obtain ⟨_, Af, cf, rfl, _⟩ := H3.out.xforms.sl (by decide)
        go_wp2
        go_loopg [7, 50] own.length (fun gk v7 v50 wr2 => ∃ q : Nat, v7 = .int .i64 (lastI n own q) ∧ v50 = .int .i64 q ∧ q ≤ own.length ∧ Kp (gk + q = own.length) ∧ Kp (Own w wr2 (XH F g gs (.slice Af fs.length cf) (.slice A4 own.length c4) ⟨K, n, name, val⟩ own fs)))
        case atStart => exact ⟨0, rfl, rfl, Nat.zero_le _, ⟨by omega⟩, H3⟩
        case round =>
         focus
          obtain ⟨q, rfl, rfl, hq, hgk2, HO⟩ := hrel
          clear H3
          by_cases hql : q < own.length
          · obtain ⟨o, ho⟩ : ∃ o, own[q]? = some o := ⟨_, List.getElem?_eq_getElem hql⟩
            obtain ⟨g4, hA4, _, hb1, hb2, d0, d1, d2, d3⟩ := HO.out.xat q o ho
            subst hA4
            have hst := lastI_step (n := n) ho
            obtain ⟨oK, oN, onm, ovl⟩ := o
            dsimp only at d0 d1 d2 d3 hst
            have HB : Kp (Own w (wr.alloc (.cells #[.int .i64 oK, .int .i64 oN, .string (str onm), .string (str ovl)] 52)) (XH F g gs (.slice Af fs.length cf) (.slice (some ⟨g4, 0, none⟩) own.length c4) ⟨K, n, name, val⟩ own fs)) := ⟨HO.out.box _⟩
            obtain ⟨_, s1, _, _⟩ := HB.out.xsb
            dsimp only at s1
            unfold maxLen at hb2
            by_cases hm : oK = 0
            · have p1 : (oK == 0) = true := by rw [hm]; rfl
              by_cases hm2 : oN = n
              · have p2 : (oN == (n : Int)) = true := by rw [hm2]; exact beq_self_eq_true _
                rw [if_pos ⟨hm, hm2⟩] at hst
                replace hst := Kp.mk hst
                clear hm hm2 ho
                as_aux_lemma =>
                  go_wp2
                  go_roundg (own.length - (q + 1))
                  case rel => exact ⟨q + 1, by rw [hst.out], by go_num, by omega, ⟨by omega⟩, HB⟩
                  case measure => have := hgk2.out; omega
              · have p2 : (oN == (n : Int)) = false := by rw [beq_eq_false_iff_ne]; exact hm2
                rw [if_neg (fun h => hm2 h.2)] at hst
                replace hst := Kp.mk hst
                clear hm hm2 ho
                as_aux_lemma =>
                  go_wp2
                  go_roundg (own.length - (q + 1))
                  case rel => exact ⟨q + 1, by rw [hst.out], by go_num, by omega, ⟨by omega⟩, HB⟩
                  case measure => have := hgk2.out; omega
            · have p1 : (oK == 0) = false := by rw [beq_eq_false_iff_ne]; exact hm
              rw [if_neg (fun h => hm h.1)] at hst
              replace hst := Kp.mk hst
              clear hm ho
              as_aux_lemma =>
                go_wp2
                go_roundg (own.length - (q + 1))
                case rel => exact ⟨q + 1, by rw [hst.out], by go_num, by omega, ⟨by omega⟩, HB⟩
                case measure => have := hgk2.out; omega
          · obtain rfl : q = own.length := by omega
            have hat : lastI n own own.length = idF n fs := hR.out.last (by omega)
            have hcs := idF_cases n fs
            obtain ⟨at_, hat_⟩ : ∃ at_, lastI n own own.length = at_ := ⟨_, rfl⟩
            rw [hat_]
            rw [← hat, hat_] at hcs
            rw [hat_] at hat
            obtain ⟨s0, s1, s2, s3⟩ := HO.out.xsb
            dsimp only at s0 s1 s2 s3
            replace hat := Kp.mk hat
            replace hat_ := Kp.mk hat_
            replace hcs := Kp.mk hcs
            by_cases hcon : K = 0 ∧ 0 ≤ at_
            · obtain ⟨rfl, hp⟩ := hcon
              have HS2 : Kp (LawS w wr g (.slice A4 own.length c4) own) := ⟨HO.out.xlaw hR.out HF.out hE.out⟩
              clear HO hcs hat hat_
              as_aux_lemma =>
                go_wp2
                go_roundg (L.length - (pos + 1))
                case rel => exact ⟨pos + 1, own, by go_num, by omega, ⟨by omega⟩, by omega, by omega, HS2⟩
                case measure => have := hgk.out; omega
            · replace hcon := Kp.mk hcon
              have hll := Kp.mk hR.out.len
              have hfl : fs.length ≤ 1000 := by have := hR.out.len; omega
              go_upto_block 4 with fail
              go_cut [4, 10, 11, 12, 13, 14, 15] (fun v4 v10 v11 v12 v13 v14 v15 wc => ∃ own' : List StM, own'.length ≤ pos + 1 ∧ Kp (LawS w wc g v4 own'))
              case first =>
               focus
                have hKc : K = 0 ∨ K = 1 ∨ K = 2 ∨ K = 3 ∨ K = 4 ∨ K = 5 ∨ (¬ K = 0 ∧ ¬ K = 1 ∧ ¬ K = 2 ∧ ¬ K = 3 ∧ ¬ K = 4 ∧ ¬ K = 5) := by omega
                rcases hKc with rfl | rfl | rfl | rfl | rfl | rfl | ⟨k0, k1, k2, k3, k4, k5⟩
                · have hneg : at_ < 0 := by have := hcon.out; omega
                  have hnew : Kp (∀ o ∈ own, o.K = 0 → o.N ≠ (n : Int)) := ⟨lastI_new (by rw [hat_.out]; exact hneg)⟩
                  have HA := HO.out.alloc (.cells #[.string ⟨#[97]⟩, .string (str val)] 42)
                  obtain ⟨b, hb⟩ : ∃ b, wr.heap.size = b := ⟨_, rfl⟩
                  rw [hb] at HA
                  have HM := Kp.mk (x_add (n := n) (nm := name) (v := val) (b := b) HA (by omega) HF.out)
                  have hneg2 : decide ((0 : Int) ≤ at_) = false := decide_eq_false (by omega)
                  obtain ⟨T, hT⟩ : ∃ T, Kp (goS (sameF name [(aT, val)]) fs fs.length (-1, 0) = T) := ⟨_, ⟨rfl⟩⟩
                  have hT2 : Kp (goS (sameF name [(aT, val)]) fs own.length (-1, 0) = T) := ⟨by rw [hR.out.len]; exact hT.out⟩
                  have hRA : Kp (Rel (cutO own T ++ [⟨0, n, name, val⟩]) (formAdd fs (xO n name b val))) := ⟨by
                    have h := hR.out.addS (x := ⟨0, n, name, val⟩) (f := xO n name b val) (.inl ⟨rfl, rfl, by show (0 : Int) ≤ n; omega, rfl, rfl⟩) (fun _ => hnew.out)
                    rw [show goS (sameF (xO n name b val).name (xO n name b val).A) fs fs.length (-1, 0) = T from hT.out] at h
                    exact h⟩
                  have HFA : Kp (HeldFs w (F * oneA b val) (formAdd fs (xO n name b val))) := ⟨HF.out.more.add (held_one n name b val)⟩
                  have hEA : Kp (∀ w9, Own w w9 (F * oneA b val) → Below w.heap.size w w9) := ⟨fun w9 h => hE.out _ h.drop⟩
                  clear HA HF hE hnew hcs
                  go_wp2_with fail
                  refine HM.out.mono ?_
                  rintro e w5 ⟨rfl, fv5, H5⟩
                  obtain ⟨F5, hF5⟩ : ∃ F5, F * oneA b val = F5 := ⟨_, rfl⟩
                  obtain ⟨fs5, hfs5⟩ : ∃ fs5, formAdd fs (xO n name b val) = fs5 := ⟨_, rfl⟩
                  rw [hF5, hfs5] at H5 HFA
                  rw [hF5] at hEA
                  rw [hfs5] at hRA
                  replace H5 := Kp.mk H5
                  clear HM HO s0 s1 s2 s3 hF5 hfs5 hb
                  go_upto_block 5 with fail
                  go_cut [10, 11, 12] (fun v10 v11 v12 w' => ∃ (Fi : Int) (S : Nat), v10 = .int .i64 Fi ∧ v11 = .int .i64 S ∧ (S = 0 ∨ ∃ j : Nat, Fi = j ∧ j < own.length) ∧ S ≤ own.length ∧ Kp (T = (Fi, S)) ∧ Kp (Own w w' (XH F5 g gs fv5 (.slice A4 own.length c4) ⟨0, n, name, val⟩ own fs5)))
                  case first =>
                    as_aux_lemma =>
                      go_wp2_with fail
                      go_loopg [10, 11, 12] own.length (fun gk v10 v11 v12 wr2 => ∃ (Fi : Int) (S : Nat), v10 = .int .i64 Fi ∧ v11 = .int .i64 S ∧ v12 = .int .i64 ((gk : Int) - 1) ∧ gk ≤ own.length ∧ S + gk ≤ own.length ∧ (S = 0 ∨ ∃ j : Nat, Fi = j ∧ j < own.length) ∧ Kp (goS (sameF name [(aT, val)]) fs gk (Fi, S) = T) ∧ Kp (Own w wr2 (XH F5 g gs fv5 (.slice A4 own.length c4) ⟨0, n, name, val⟩ own fs5)))
                      case atStart => exact ⟨-1, 0, rfl, rfl, rfl, Nat.le_refl _, by omega, .inl rfl, hT2, H5⟩
                      case round =>
                        obtain ⟨Fi, S, rfl, rfl, rfl, hg, hS, hFi, ht, HX⟩ := hrel
                        clear H5 hT hT2
                        rcases gk with _ | m
                        · have hf1 : ¬ ((0 : Int) ≤ ((0 : Nat) : Int) - 1) := by omega
                          go_wp2
                          go_meet
                          exact ⟨Fi, S, rfl, rfl, hFi, by omega, ⟨ht.out.symm⟩, HX⟩
                        · obtain ⟨o, ho⟩ : ∃ o, own[m]? = some o := ⟨_, List.getElem?_eq_getElem (by omega)⟩
                          obtain ⟨f, hf, hrl⟩ := hR.out.get ho
                          obtain ⟨g4, hA4, _, hb1, hb2, d0, d1, d2, d3⟩ := HX.out.xat m o ho
                          subst hA4
                          obtain ⟨_, _, s2, s3⟩ := HX.out.xsb
                          have hstop := fun h => goS_stop (sameF name [(aT, val)]) fs m (Fi, S) f hf h
                          have hstep := fun h => goS_step (sameF name [(aT, val)]) fs m (Fi, S) f hf h
                          obtain ⟨oK, oN, onm, ovl⟩ := o
                          dsimp only at d0 d1 d2 d3 s2 s3
                          unfold maxLen at hb2
                          by_cases hk : oK = 0
                          · have hz := hrl.zero hk
                            have hsm := hrl.same hk name val
                            dsimp only at hsm
                            have hs := (hstep hz.2.2.1).symm.trans ht.out
                            rw [hsm] at hs
                            have ena := str_beq onm name
                            have env := str_beq ovl val
                            subst hk
                            clear ho hf hrl hz hsm hstop hstep ht
                            by_cases hn : onm = name
                            · rw [decide_eq_true hn] at ena hs
                              by_cases hv : ovl = val
                              · rw [decide_eq_true hv] at env hs
                                have ht3 : Kp (goS (sameF name [(aT, val)]) fs m ((m : Int), S + 1) = T) := ⟨by simpa using hs⟩
                                clear hs hn hv
                                go_wp2
                                go_quiet (fail)
                                replace HX := Kp.mk (HX.out.drewN nq)
                                go_wp2
                                go_roundg m
                                case rel => exact ⟨(m : Int), S + 1, by go_num, by go_num, by go_num, by omega, by omega, .inr ⟨m, rfl, by omega⟩, ht3, HX⟩
                                case measure => omega
                              · rw [decide_eq_false hv] at env hs
                                have ht3 : Kp (goS (sameF name [(aT, val)]) fs m (Fi, S) = T) := ⟨by simpa using hs⟩
                                clear hs hn hv
                                go_wp2
                                go_quiet (fail)
                                replace HX := Kp.mk (HX.out.drewN nq)
                                go_wp2
                                go_roundg m
                                case rel => exact ⟨Fi, S, rfl, rfl, by go_num, by omega, by omega, hFi, ht3, HX⟩
                                case measure => omega
                            · rw [decide_eq_false hn] at ena hs
                              have ht3 : Kp (goS (sameF name [(aT, val)]) fs m (Fi, S) = T) := ⟨by simpa using hs⟩
                              clear hs hn env
                              go_wp2
                              go_quiet (fail)
                              replace HX := Kp.mk (HX.out.drewN nq)
                              go_wp2
                              go_roundg m
                              case rel => exact ⟨Fi, S, rfl, rfl, by go_num, by omega, by omega, hFi, ht3, HX⟩
                              case measure => omega
                          · obtain ⟨hk1, hf1⟩ := hrl.one hk
                            have ht2 := Kp.mk (ht.out.symm.trans (hstop hf1))
                            have p0 : (oK == 0) = false := by rw [beq_eq_false_iff_ne]; exact hk
                            clear ho hf hrl hk1 hf1 hk hstop hstep ht
                            go_wp2
                            go_meet
                            exact ⟨Fi, S, rfl, rfl, hFi, by omega, ht2, HX⟩
                  case' rest =>
                    obtain ⟨Fi, S, rfl, rfl, hFi, hS, hTS, H5⟩ := hcut
                    have hcut2 : Kp (cutO own T = if 3 ≤ S then cutJ own Fi.toNat else own) := ⟨by rw [hTS.out]; rfl⟩
                    go_upto_if 120 with fail
                    go_cut [4] (fun v4 w' => Kp (Own w w' (XH F5 g gs fv5 v4 ⟨0, n, name, val⟩ (cutO own T) fs5)) ∧ (cutO own T).length ≤ own.length)
                    case first =>
                      by_cases h3 : 3 ≤ S
                      · obtain ⟨j, rfl, hji⟩ : ∃ j : Nat, Fi = j ∧ j < own.length := by rcases hFi with h | h; omega; exact h
                        have hcs2 : Kp (cutO own T = cutJ own j) := ⟨by rw [hcut2.out, if_pos h3, Int.toNat_natCast]⟩
                        have g1 : (3 : Int) ≤ (S : Int) := by omega
                        clear hFi
                        obtain ⟨oc, hoc⟩ : ∃ oc, own[j]? = some oc := ⟨_, List.getElem?_eq_getElem hji⟩
                        obtain ⟨g4, hA4, _, hb1, hb2, _⟩ := H5.out.xat j oc hoc
                        subst hA4
                        clear hoc
                        unfold maxLen at hb2
                        have HX0 := (H5.out.xout.box (.cells #[] 52)).drew
                        have S1 := (HX0.sl (by decide)).take (m := j) (by omega)
                        obtain ⟨X, hX⟩ : ∃ X, X = if c4 = (((j : Int) + 1)).toNat then some (⟨g4, 0, none⟩ : Addr) else (some (⟨g4, 0, none⟩ : Addr)).map (·.add (((j : Int) + 1).toNat * 4)) := ⟨_, rfl⟩
                        have hcl := run_cut_l (P := Tryd.prog) Tryd.underlying50 info_step (some ⟨g4, 0, none⟩) X own.length c4 ((j : Int) + 1) (by omega) (by omega) hX
                        have hqq : ((j : Int) + 1).toNat = j + 1 := by omega
                        rw [hqq] at hcl hX
                        have hX2 := Kp.mk hX.symm
                        have b1 : (j : Int) ≤ (c4 : Int) := by omega
                        have hwr : IntKind.i64.wrap ((j : Int) + 1) = (j : Int) + 1 := by rw [IntKind.wrap_i64]; omega
                        have b2 : (0 : Int) ≤ (j : Int) + 1 := by omega
                        have b3 : (j : Int) + 1 ≤ (own.length : Int) := by omega
                        rw [stepsC_take _ _ (by omega)] at S1
                        have hSd : Kp (∀ (w9 : World) (v9 : Value) (Y : HP), Own w w9 (Y * Row 52 4 (.slice (some ⟨g4, 0, none⟩) own.length c4) own.length (stepsC own) * Row 52 4 v9 j (stepsC (own.take j))) → Sl w9 (.slice X (own.length - (j + 1)) (c4 - (j + 1))) 4 (own.length - (j + 1)) (stepsC (own.drop (j + 1)))) := ⟨fun w9 v9 Y h9 => by
                          have h := (h9.slR (.slice (some ⟨g4, 0, none⟩) own.length c4) (by decide)).dropS (k := j + 1) (by omega)
                          rw [hX2.out, stepsC_drop _ _ (by omega)] at h
                          exact h⟩
                        replace HX0 := Kp.mk HX0
                        replace S1 := Kp.mk S1
                        clear hX hX2
                        go_wp2
                        go_region_law (first | (refine step_own_append_zero (vx := .slice (some ⟨g4, 0, none⟩) j c4) HX0.out ?_ (.tmp 121) (.tmp 124) 50 (.agg #[.int .i64 0, .int .i64 0, .string ByteArray.empty, .string ByteArray.empty]) 48 wc.heap.size 0 j (stepsC (own.take j)) rfl Tryd.underlying50 info_step rfl (by decide) (by simp [Act.eval]) (by simp [Act.eval]) S1.out (stepsC_one _) ?_ ?_ ?_; (go_simp); (unfold maxLen; omega); omega; (intro v8 w8 H8 hz8; have S2 := Kp.mk (hSd.out _ _ _ H8); obtain ⟨_, A8, c8, hv8, _⟩ := H8.sl (by decide); subst hv8; replace H8 := Kp.mk H8)) | (refine step_own_append (v := .slice A8 j c8) (vx := .slice X (own.length - (j + 1)) (c4 - (j + 1))) H8.out ?_ (.tmp 125) (.tmp 129) 50 (.agg #[.int .i64 0, .int .i64 0, .string ByteArray.empty, .string ByteArray.empty]) 48 (own.length - (j + 1)) (stepsC (own.drop (j + 1))) rfl Tryd.underlying50 info_step rfl (by decide) (by simp [Act.eval]) (by simp [Act.eval]) S2.out (stepsC_one _) ?_ ?_ ?_; (go_simp); (unfold maxLen; omega); omega; (intro v9 w9 H9 hz9 _; replace H9 := Kp.mk H9)))
                        as_aux_lemma =>
                        have h := (H9.out.focR (.slice (some ⟨g4, 0, none⟩) own.length c4)).drop
                        have H10 : Kp (Own w w9 (XH F5 g gs fv5 v9 ⟨0, n, name, val⟩ (cutO own T) fs5)) := ⟨by rw [hcs2.out]; exact Own.xcut hji h⟩
                        have hcl2 : (cutO own T).length ≤ own.length := by rw [hcs2.out, cutJ_len _ _ hji]; omega
                        clear h H9 H8 S1 S2 HX0 hSd H5
                        go_wp2
                        go_meet
                        exact ⟨H10, hcl2⟩
                      · have g1 : ¬ ((3 : Int) ≤ (S : Int)) := by omega
                        have hcs2 : Kp (cutO own T = own) := ⟨by rw [hcut2.out, if_neg h3]⟩
                        clear h3 hFi
                        as_aux_lemma =>
                        go_wp2
                        go_meet
                        rw [hcs2.out]
                        exact ⟨H5, Nat.le_refl _⟩
                    case rest =>
                      as_aux_lemma =>
                      obtain ⟨H6, hl2⟩ := hcut
                      clear H5 hcut2 hTS hFi hS hT hT2
                      obtain ⟨ow2, how⟩ : ∃ ow2, cutO own T = ow2 := ⟨_, rfl⟩
                      rw [how] at H6 hl2 hRA
                      obtain ⟨_, A6, c6, hv6, _⟩ := H6.out.xout.sl (by decide)
                      subst hv6
                      obtain ⟨s0, s1, s2, s3⟩ := H6.out.xsb
                      dsimp only at s0 s1 s2 s3
                      have HB := H6.out.xout.box (.cells #[.int .i64 0, .int .i64 (n : Int), .string (str name), .string (str val)] 52)
                      have hsl := sl_box wc #[.int .i64 0, .int .i64 (n : Int), .string (str name), .string (str val)] 52 4 1 rfl (by decide)
                      replace HB := Kp.mk HB
                      replace hsl := Kp.mk hsl
                      clear H6 how
                      go_wp2_with (at_builtin; go_must (refine own_append (v := .slice A6 ow2.length c6) (vx := .slice (some ⟨wc.heap.size, 0, none⟩) 1 1) HB.out rfl (.tmp 131) (.tmp 133) 50 (.agg #[.int .i64 0, .int .i64 0, .string ByteArray.empty, .string ByteArray.empty]) 48 1 (StM.cells ⟨0, n, name, val⟩) rfl Tryd.underlying50 info_step rfl (by decide) rfl rfl hsl.out (by simp [Value.oneCell', StM.cells]) ?c2 ?c3 ?_))
                      case c2 => unfold maxLen; omega
                      case c3 => omega
                      intro v6 w6 H6 hz6 _
                      have HS6 : Kp (LawS w w6 g v6 (ow2 ++ [⟨0, n, name, val⟩])) := ⟨H6.xsnoc.xlaw hRA.out HFA.out hEA.out⟩
                      clear H6 HB hsl s0 s1 s2 s3
                      go_wp2
                      go_meet
                      exact ⟨ow2 ++ [⟨0, n, name, val⟩], by simp; omega, HS6⟩
                · as_aux_lemma =>
                    have HM := Kp.mk (x_mark HO.out (by omega))
                    clear s0 s1 s2 s3
                    go_wp2_with fail
                    refine HM.out.mono ?_
                    rintro e w5 ⟨rfl, fv5, H5⟩
                    obtain ⟨s0, s1, s2, s3⟩ := H5.xsb
                    dsimp only at s0 s1 s2 s3
                    have HB := H5.xout.box (.cells #[.int .i64 1, .int .i64 (n : Int), .string (str name), .string (str val)] 52)
                    have hsl := sl_box w5 #[.int .i64 1, .int .i64 (n : Int), .string (str name), .string (str val)] 52 4 1 rfl (by decide)
                    replace HB := Kp.mk HB
                    replace hsl := Kp.mk hsl
                    clear HM H5 HO
                    go_wp2_with (at_builtin; go_must (refine own_append (v := .slice A4 own.length c4) (vx := .slice (some ⟨w5.heap.size, 0, none⟩) 1 1) HB.out rfl (.tmp 138) (.tmp 140) 50 (.agg #[.int .i64 0, .int .i64 0, .string ByteArray.empty, .string ByteArray.empty]) 48 1 (StM.cells ⟨1, n, name, val⟩) rfl Tryd.underlying50 info_step rfl (by decide) rfl rfl hsl.out (by simp [Value.oneCell', StM.cells]) ?c2 ?c3 ?_))
                    case c2 => unfold maxLen; omega
                    case c3 => omega
                    intro v6 w6 H6 hz6 _
                
                    have HS6 : Kp (LawS w w6 g v6 (own ++ [⟨1, n, name, val⟩])) := ⟨H6.xsnoc.xlaw (hR.out.add (f := markM) (.inr ⟨rfl, rfl⟩) (fun h => by cases h)) (HF.out.append held_mark) hE.out⟩
                    clear H6 HB hsl s0 s1 s2 s3
                    go_wp2
                    go_meet
                    exact ⟨own ++ [⟨1, n, name, val⟩], by simp; omega, HS6⟩
                · have HM := Kp.mk (x_remove HO.out (by omega) HF.out n)
                  clear s0 s2 s3
                  rcases hcs.out with rfl | ⟨i, rfl, hi⟩
                  · have hrm := Kp.mk (remF_miss (n := n) (fs := fs) (by rw [← hat.out]; decide))
                    as_aux_lemma =>
                    go_wp2_with fail
                    refine HM.out.mono ?_
                    rintro e w5 ⟨rfl, fv5, H5⟩
                    rw [hrm.out] at H5
                    have HS6 : Kp (LawS w w5 g (.slice A4 own.length c4) own) := ⟨H5.xlaw hR.out HF.out hE.out⟩
                    clear H5 HM HO s1
                    go_wp2
                    go_meet
                    exact ⟨own, by omega, HS6⟩
                  · have hrm := Kp.mk (remF_hit (n := n) (fs := fs) hat.out.symm)
                    have hji : i < own.length := by rw [hR.out.len]; exact hi
                    clear hi
                    go_wp2_with fail
                    refine HM.out.mono ?_
                    rintro e w5 ⟨rfl, fv5, H5⟩
                    rw [hrm.out] at H5
                    replace H5 := Kp.mk H5
                    clear HM HO s1
                    obtain ⟨oc, hoc⟩ : ∃ oc, own[i]? = some oc := ⟨_, List.getElem?_eq_getElem hji⟩
                    obtain ⟨g4, hA4, _, hb1, hb2, _⟩ := H5.out.xat i oc hoc
                    subst hA4
                    clear hoc
                    unfold maxLen at hb2
                    have HX0 := (H5.out.xout.box (.cells #[] 52)).drew
                    have S1 := (HX0.sl (by decide)).take (m := i) (by omega)
                    obtain ⟨X, hX⟩ : ∃ X, X = if c4 = (((i : Int) + 1)).toNat then some (⟨g4, 0, none⟩ : Addr) else (some (⟨g4, 0, none⟩ : Addr)).map (·.add (((i : Int) + 1).toNat * 4)) := ⟨_, rfl⟩
                    have hcl := run_cut_l (P := Tryd.prog) Tryd.underlying50 info_step (some ⟨g4, 0, none⟩) X own.length c4 ((i : Int) + 1) (by omega) (by omega) hX
                    have hqq : ((i : Int) + 1).toNat = i + 1 := by omega
                    rw [hqq] at hcl hX
                    have hX2 := Kp.mk hX.symm
                    have b1 : (i : Int) ≤ (c4 : Int) := by omega
                    have hwr : IntKind.i64.wrap ((i : Int) + 1) = (i : Int) + 1 := by rw [IntKind.wrap_i64]; omega
                    have b2 : (0 : Int) ≤ (i : Int) + 1 := by omega
                    have b3 : (i : Int) + 1 ≤ (own.length : Int) := by omega
                    rw [stepsC_take _ _ (by omega)] at S1
                    have hSd : Kp (∀ (w9 : World) (v9 : Value) (Y : HP), Own w w9 (Y * Row 52 4 (.slice (some ⟨g4, 0, none⟩) own.length c4) own.length (stepsC own) * Row 52 4 v9 i (stepsC (own.take i))) → Sl w9 (.slice X (own.length - (i + 1)) (c4 - (i + 1))) 4 (own.length - (i + 1)) (stepsC (own.drop (i + 1)))) := ⟨fun w9 v9 Y h9 => by
                      have h := (h9.slR (.slice (some ⟨g4, 0, none⟩) own.length c4) (by decide)).dropS (k := i + 1) (by omega)
                      rw [hX2.out, stepsC_drop _ _ (by omega)] at h
                      exact h⟩
                    replace HX0 := Kp.mk HX0
                    replace S1 := Kp.mk S1
                    clear hX hX2
                    go_wp2
                    go_region_law (first | (refine step_own_append_zero (vx := .slice (some ⟨g4, 0, none⟩) i c4) HX0.out ?_ (.tmp 149) (.tmp 152) 50 (.agg #[.int .i64 0, .int .i64 0, .string ByteArray.empty, .string ByteArray.empty]) 48 w5.heap.size 0 i (stepsC (own.take i)) rfl Tryd.underlying50 info_step rfl (by decide) (by simp [Act.eval]) (by simp [Act.eval]) S1.out (stepsC_one _) ?_ ?_ ?_; (go_simp); (unfold maxLen; omega); omega; (intro v8 w8 H8 hz8; have S2 := Kp.mk (hSd.out _ _ _ H8); obtain ⟨_, A8, c8, hv8, _⟩ := H8.sl (by decide); subst hv8; replace H8 := Kp.mk H8)) | (refine step_own_append (v := .slice A8 i c8) (vx := .slice X (own.length - (i + 1)) (c4 - (i + 1))) H8.out ?_ (.tmp 153) (.tmp 157) 50 (.agg #[.int .i64 0, .int .i64 0, .string ByteArray.empty, .string ByteArray.empty]) 48 (own.length - (i + 1)) (stepsC (own.drop (i + 1))) rfl Tryd.underlying50 info_step rfl (by decide) (by simp [Act.eval]) (by simp [Act.eval]) S2.out (stepsC_one _) ?_ ?_ ?_; (go_simp); (unfold maxLen; omega); omega; (intro v9 w9 H9 hz9 _; replace H9 := Kp.mk H9)))
                    as_aux_lemma =>
                      have h := (H9.out.focR (.slice (some ⟨g4, 0, none⟩) own.length c4)).drop
                      have HS6 : Kp (LawS w w9 g v9 (cutJ own i)) := ⟨(Own.xcut hji h).xlaw (hR.out.cut i hji) (HF.out.sub cutJ_sub) hE.out⟩
                      have hcl2 : (cutJ own i).length ≤ pos + 1 := by rw [cutJ_len _ _ hji]; omega
                      clear h H9 H8 S1 S2 HX0 hSd H5
                      go_wp2
                      go_meet
                      exact ⟨cutJ own i, hcl2, HS6⟩
                · as_aux_lemma =>
                    have HM := Kp.mk (x_clear HO.out (by omega) HF.out)
                    clear s0 s1 s2 s3
                    obtain ⟨T, hT⟩ : ∃ T, Kp (clrK fs fs.length = T) := ⟨_, ⟨rfl⟩⟩
                    have hcf : Kp (clrF fs = fs.take T) := ⟨by rw [clrF, hT.out]⟩
                    go_wp2_with fail
                    refine HM.out.mono ?_
                    rintro e w5 ⟨rfl, fv5, H5⟩
                    rw [hcf.out] at H5
                    have H6 : Kp (Own w w5 (XH F g gs fv5 (.slice A4 own.length c4) ⟨3, n, name, val⟩ (own.take own.length) (fs.take T))) := ⟨by rw [List.take_length]; exact H5⟩
                    have hT2 : Kp (clrK fs own.length = T) := ⟨by rw [hR.out.len]; exact hT.out⟩
                    clear HM HO H5
                    go_wp2
                    go_loopg [4] own.length (fun gk v4 wr2 => ∃ (A : Option Addr) (c5 : Nat), v4 = .slice A gk c5 ∧ gk ≤ own.length ∧ Kp (clrK fs gk = T) ∧ Kp (Own w wr2 (XH F g gs fv5 v4 ⟨3, n, name, val⟩ (own.take gk) (fs.take T))))
                    case atStart => exact ⟨A4, c4, rfl, Nat.le_refl _, hT2, H6⟩
                    case round =>
                      obtain ⟨A5, c5, rfl, hg, ht, HO⟩ := hrel
                      clear H6
                      have hln : Kp (((own.take T).length) ≤ pos + 1) := ⟨by rw [List.length_take]; omega⟩
                      rcases gk with _ | m
                      · have hT0 : T = 0 := ht.out.symm
                        have HS6 : Kp (LawS w wr g (.slice A5 0 c5) (own.take T)) := ⟨by
                          have h := HO.out
                          rw [show own.take 0 = own.take T by rw [hT0]] at h
                          exact h.xlaw (hR.out.take T) (HF.out.sub fun f hf => List.mem_of_mem_take hf) hE.out⟩
                        clear HO
                        go_wp2
                        go_meet
                        exact ⟨own.take T, hln.out, HS6⟩
                      · obtain ⟨o, ho⟩ : ∃ o, own[m]? = some o := ⟨_, List.getElem?_eq_getElem (by omega)⟩
                        obtain ⟨f, hf, hrl⟩ := hR.out.get ho
                        have ho2 : (own.take (m + 1))[m]? = some o := by rw [List.getElem?_take, if_pos (by omega)]; exact ho
                        obtain ⟨g5, hA5, he5, hb1, hb2, d0, _⟩ := HO.out.xat m o ho2
                        clear he5
                        subst hA5
                        have hst := fun h => clrK_stop hf h
                        have hsp := fun h => clrK_step hf h
                        have hlt4 : (own.take (m + 1)).length = m + 1 := by rw [List.length_take]; omega
                        rw [hlt4] at hb1
                        unfold maxLen at hb2
                        have HO2 := HO.out.xshrink (by omega)
                        have b1 : (m : Int) < (m : Int) + 1 := by omega
                        have b2 : (m : Int) ≤ (c5 : Int) := by omega
                        have hw2 : IntKind.i64.wrap ((m : Int) + 1 - 1) = (m : Int) := by rw [IntKind.wrap_i64]; omega
                        replace HO2 := Kp.mk HO2
                        obtain ⟨oK, oN, onm, ovl⟩ := o
                        dsimp only at d0
                        by_cases hk : oK = 0
                        · have hz := hrl.zero hk
                          have ht3 := Kp.mk ((hsp hz.2.2.1).symm.trans ht.out)
                          subst hk
                          clear hst hsp hrl ho ho2 hf hz hlt4 HO
                          go_wp2
                          go_roundg m
                          case rel => exact ⟨_, c5, rfl, by omega, ht3, HO2⟩
                          case measure => omega
                        · obtain ⟨hk1, hf1⟩ := hrl.one hk
                          dsimp only at hk1
                          have hTm : T = m := ht.out.symm.trans (hst hf1)
                          subst hk1
                          have HS6 : Kp (LawS w wr g (.slice (some ⟨g5, 0, none⟩) m c5) (own.take T)) := ⟨by
                            rw [hTm]
                            have h := HO2.out
                            rw [hTm] at h
                            exact h.xlaw (hR.out.take m) (HF.out.sub fun f hf => List.mem_of_mem_take hf) hE.out⟩
                          clear hst hsp hrl ho ho2 hf hf1 hlt4 HO HO2 hk
                          go_wp2
                          go_meet
                          exact ⟨own.take T, hln.out, HS6⟩
                · as_aux_lemma =>
                    obtain ⟨T, hT⟩ : ∃ T, Kp (goL name fs fs.length = T) := ⟨_, ⟨rfl⟩⟩
                    have hT2 : Kp (goL name fs own.length = T) := ⟨by rw [hR.out.len]; exact hT.out⟩
                    clear s0 s1 s3
                    go_upto_block 9 with fail
                    go_cut [14, 15] (fun v14 v15 w' => v14 = .int .i64 T ∧ Kp (Own w w' (XH F g gs (.slice Af fs.length cf) (.slice A4 own.length c4) ⟨4, n, name, val⟩ own fs)))
                    case first =>
                      go_wp2_with fail
                      go_loopg [14, 15] own.length (fun gk v14 v15 wr2 => ∃ W : Int, v14 = .int .i64 W ∧ v15 = .int .i64 ((gk : Int) - 1) ∧ gk ≤ own.length ∧ Kp ((W = -1 ∧ goL name fs gk = T) ∨ (W = T ∧ ¬ W = -1)) ∧ Kp (Own w wr2 (XH F g gs (.slice Af fs.length cf) (.slice A4 own.length c4) ⟨4, n, name, val⟩ own fs)))
                      case atStart => exact ⟨-1, rfl, rfl, Nat.le_refl _, ⟨.inl ⟨rfl, hT2.out⟩⟩, HO⟩
                      case round =>
                        obtain ⟨W, rfl, rfl, hg, hW, HX⟩ := hrel
                        clear HO
                        rcases gk with _ | m
                        · have hf1 : ¬ ((0 : Int) ≤ ((0 : Nat) : Int) - 1) := by omega
                          have hWT : W = T := by
                            rcases hW.out with ⟨h1, h2⟩ | ⟨h1, _⟩
                            · rw [h1, ← h2]; rfl
                            · exact h1
                          subst hWT
                          go_wp2
                          go_meet
                          exact ⟨rfl, HX⟩
                        · obtain ⟨o, ho⟩ : ∃ o, own[m]? = some o := ⟨_, List.getElem?_eq_getElem (by omega)⟩
                          obtain ⟨f, hf, hrl⟩ := hR.out.get ho
                          obtain ⟨g4, hA4, _, hb1, hb2, d0, d1, d2, _⟩ := HX.out.xat m o ho
                          subst hA4
                          obtain ⟨_, _, s2, _⟩ := HX.out.xsb
                          have hs : goL name fs (m + 1) = if f.node = -1 then -1 else if f.name = name then f.node else goL name fs m := by rw [goL, hf]
                          obtain ⟨oK, oN, onm, ovl⟩ := o
                          dsimp only at d0 d1 d2 s2
                          unfold maxLen at hb2
                          by_cases hk : oK = 0
                          · obtain ⟨hz1, hz2, hz3, hz4, _⟩ := hrl.zero hk
                            dsimp only at hz1 hz2 hz4
                            rw [if_neg hz3, hz4, hz1] at hs
                            have ena := str_beq onm name
                            subst hk
                            clear ho hf hrl hz1 hz3 hz4 hT2
                            by_cases hn : onm = name
                            · rw [decide_eq_true hn] at ena
                              rw [if_pos hn] at hs
                              by_cases hw1 : W = -1
                              · have p1 : ((W : Int) == -1) = true := by rw [hw1]; rfl
                                have hW2 : Kp ((oN = -1 ∧ goL name fs m = T) ∨ (oN = T ∧ ¬ oN = -1)) := ⟨.inr ⟨by
                                  rcases hW.out with ⟨_, h2⟩ | ⟨_, h2⟩
                                  · exact hs.symm.trans h2
                                  · exact absurd hw1 h2, by omega⟩⟩
                                subst hw1
                                clear hs hn hW hz2
                                go_wp2
                                go_quiet (fail)
                                replace HX := Kp.mk (HX.out.drewN nq)
                                go_wp2
                                go_roundg m
                                case rel => exact ⟨oN, rfl, by go_num, by omega, hW2, HX⟩
                                case measure => omega
                              · have p1 : ((W : Int) == -1) = false := by rw [beq_eq_false_iff_ne]; exact hw1
                                have hW2 : Kp ((W = -1 ∧ goL name fs m = T) ∨ (W = T ∧ ¬ W = -1)) := ⟨by
                                  rcases hW.out with ⟨h1, _⟩ | h2
                                  · exact absurd h1 hw1
                                  · exact .inr h2⟩
                                clear hs hn hW hw1 hz2
                                go_wp2
                                go_quiet (fail)
                                replace HX := Kp.mk (HX.out.drewN nq)
                                go_wp2
                                go_roundg m
                                case rel => exact ⟨W, rfl, by go_num, by omega, hW2, HX⟩
                                case measure => omega
                            · rw [decide_eq_false hn] at ena
                              rw [if_neg hn] at hs
                              have hW2 : Kp ((W = -1 ∧ goL name fs m = T) ∨ (W = T ∧ ¬ W = -1)) := ⟨by
                                rw [← hs]
                                exact hW.out⟩
                              clear hs hn hW hz2
                              go_wp2
                              go_quiet (fail)
                              replace HX := Kp.mk (HX.out.drewN nq)
                              go_wp2
                              go_roundg m
                              case rel => exact ⟨W, rfl, by go_num, by omega, hW2, HX⟩
                              case measure => omega
                          · obtain ⟨hk1, hf1⟩ := hrl.one hk
                            rw [if_pos hf1] at hs
                            dsimp only at hk1
                            have p0 : (oK == 0) = false := by rw [beq_eq_false_iff_ne]; exact hk
                            have hWT : W = T := by
                              rcases hW.out with ⟨h1, h2⟩ | ⟨h1, _⟩
                              · rw [h1, ← h2, hs]
                              · exact h1
                            subst hWT
                            clear ho hf hrl hk1 hf1 hs hk hT2 hT hW
                            go_wp2
                            go_meet
                            exact ⟨rfl, HX⟩
                    case' rest =>
                      obtain ⟨rfl, HX⟩ := hcut
                      clear HO
                      have HM := x_last HX.out (by omega) name
                      rw [hT.out] at HM
                      replace HM := Kp.mk HM
                      have kf := HX.out.xfb
                      obtain ⟨_, _, s2, _⟩ := HX.out.xsb
                      dsimp only at s2
                      have p1 : ((T : Int) != T) = false := by simp
                      clear hT hT2
                      go_wp2_with fail
                      refine HM.out.mono ?_
                      rintro e w5 ⟨rfl, rfl⟩
                      have HS6 : Kp (LawS w w5 g (.slice A4 own.length c4) own) := ⟨HX.out.xlaw hR.out HF.out hE.out⟩
                      clear HM
                      go_wp2
                      go_meet
                      exact ⟨own, by omega, HS6⟩
                · as_aux_lemma =>
                    have HM := x_at HO.out (by omega) HF.out n
                    rw [← hat.out] at HM
                    replace HM := Kp.mk HM
                    have kf := HO.out.xfb
                    have p1 : ((at_ : Int) != at_) = false := by simp
                    clear s0 s2 s3
                    go_wp2_with fail
                    refine HM.out.mono ?_
                    rintro e w5 ⟨rfl, H5⟩
                    have HM2 := x_at H5 (by omega) HF.out (-1)
                    rw [idF_neg] at HM2
                    replace HM2 := Kp.mk HM2
                    have kf5 := H5.xfb
                    clear HM H5 kf s1 HO
                    go_wp2_with fail
                    refine HM2.out.mono ?_
                    rintro e w6 ⟨rfl, H6⟩
                    have HS6 : Kp (LawS w w6 g (.slice A4 own.length c4) own) := ⟨H6.xlaw hR.out HF.out hE.out⟩
                    clear HM2 H6 kf5
                    go_wp2
                    go_meet
                    exact ⟨own, by omega, HS6⟩
                · have p0 : (K == 0) = false := by rw [beq_eq_false_iff_ne]; exact k0
                  have p1 : (K == 1) = false := by rw [beq_eq_false_iff_ne]; exact k1
                  have p2 : (K == 2) = false := by rw [beq_eq_false_iff_ne]; exact k2
                  have p3 : (K == 3) = false := by rw [beq_eq_false_iff_ne]; exact k3
                  have p4 : (K == 4) = false := by rw [beq_eq_false_iff_ne]; exact k4
                  have p5 : (K == 5) = false := by rw [beq_eq_false_iff_ne]; exact k5
                  as_aux_lemma =>
                    go_wp2
                    go_meet
                    exact ⟨own, by omega, ⟨HO.out.xlaw hR.out HF.out hE.out⟩⟩
              case rest =>
               as_aux_lemma =>
                obtain ⟨own', hl', HS2⟩ := hcut
                clear HO s0 s1 s2 s3 hcs hat hat_ hcon HF hE hR hll hfl
                as_aux_lemma =>
                  obtain ⟨⟨F6, fs6, fv6, hR6, HF6, hE6, HX⟩⟩ := HS2.out
                  have hl6 : own'.length = fs6.length := hR6.len
                  obtain ⟨N, hN⟩ : ∃ N, own'.length = N := ⟨_, rfl⟩
                  have hNf : fs6.length = N := by rw [← hl6]; exact hN
                  obtain ⟨_, A5, c5, rfl, _⟩ := (show Own w wc (F6 * Row 52 4 u4 own'.length (stepsC own') * _ * _) from HX).drop.drop.sl (by decide)
                  obtain ⟨_, B5, e5, rfl, _⟩ := (show Own w wc (F6 * _ * Row 55 11 fv6 fs6.length (formsC fs6) * _) from HX).drop.sl (by decide)
                  obtain ⟨Y, hY⟩ : ∃ Y, Y = FormsH (F6 * Row 52 4 (.slice A5 own'.length c5) own'.length (stepsC own')) g (.slice B5 fs6.length e5) fs6 := ⟨_, rfl⟩
                  rw [← hY] at HX
                  have hYl : Kp (∀ w9, Own w w9 Y → LawS w w9 g (.slice A5 N c5) own') := ⟨fun w9 h => by rw [hY] at h; rw [← hN]; exact ⟨F6, fs6, _, hR6, HF6, hE6, h⟩⟩
                  have hYk : Kp (∀ w9, Own w w9 Y → w9.cell? ⟨g, 0, none⟩ = some (.slice B5 N e5)) := ⟨fun w9 h => by rw [hY] at h; rw [← hNf]; exact cell_blk (show Own w w9 (_ * Blk g (formsO _)) from h).blk rfl⟩
                  have hYo : Kp (∀ w9 (q : Nat) (o : StM) (f : FormM), Own w w9 Y → own'[q]? = some o → fs6[q]? = some f → ∃ g4 g5, A5 = some ⟨g4, 0, none⟩ ∧ B5 = some ⟨g5, 0, none⟩ ∧ N ≤ c5 ∧ c5 ≤ maxLen ∧ N ≤ e5 ∧ e5 ≤ maxLen ∧ w9.cell? ⟨g4, q * 4, none⟩ = some (.int .i64 o.K) ∧ w9.cell? ⟨g4, q * 4 + 1, none⟩ = some (.int .i64 o.N) ∧ w9.cell? ⟨g4, q * 4 + 2, none⟩ = some (.string (str o.name)) ∧ w9.cell? ⟨g5, q * 11, none⟩ = some (.int .i64 f.node) ∧ w9.cell? ⟨g5, q * 11 + 2, none⟩ = some (.string (str f.name))) := ⟨fun w9 q o f h ho hf => by
                    rw [hY] at h
                    obtain ⟨g4, c1, hv, h1, h2, h3⟩ := (show Own w w9 (F6 * Row 55 11 _ _ _ * Blk g _ * Row 52 4 (.slice A5 own'.length c5) own'.length (stepsC own')) from h.eq (by unfold FormsH; ac_rfl)).stepAt q o ho
                    obtain ⟨g5, c2, hv2, h4, h5, h6⟩ := (show Own w w9 (F6 * Row 52 4 _ _ _ * Blk g _ * Row 55 11 (.slice B5 fs6.length e5) fs6.length (formsC fs6)) from h.eq (by unfold FormsH; ac_rfl)).formAt q f hf
                    injection hv with a1 a2 a3
                    injection hv2 with a4 a5 a6
                    subst a1 a3 a4 a6
                    rw [hN] at h1
                    rw [hNf] at h4
                    exact ⟨g4, g5, rfl, rfl, h1, h2, h4, h5, h3 0 _ (by omega) rfl, h3 1 _ (by omega) rfl, h3 2 _ (by omega) rfl, h6 0 _ (by omega) rfl, h6 2 _ (by omega) rfl⟩⟩
                  have kf := hYk.out _ HX
                  have hN60 : N ≤ pos + 1 := by omega
                  have hRk := Kp.mk hR6
                  have hlk := Kp.mk hN
                  rw [hN]
                  have hHX := Kp.mk HX
                  have hYk2 := hYk
                  clear hY hN hNf hl6 hl' HS2 HF6 hE6 hR6 HX hYk
                  go_wp2
                  go_loopg [239] N (fun gk v239 wr3 => ∃ q : Nat, v239 = .int .i64 q ∧ q ≤ N ∧ Kp (gk + q = N) ∧ Kp (Own w wr3 Y))
                  case atStart => exact ⟨0, rfl, Nat.zero_le _, ⟨by omega⟩, hHX⟩
                  case round =>
                    obtain ⟨q, rfl, hq, hgk2, HX⟩ := hrel
                    clear hHX kf
                    by_cases hql : q < N
                    · obtain ⟨o, ho⟩ : ∃ o, own'[q]? = some o := ⟨_, List.getElem?_eq_getElem (by rw [hlk.out]; exact hql)⟩
                      obtain ⟨f, hf, hrl⟩ := hRk.out.get ho
                      obtain ⟨g4, g5, hA5, hB5, hb1, hb2, hb3, hb4, d0, d1, d2, y0, y2⟩ := hYo.out _ q o f HX.out ho hf
                      subst hA5 hB5
                      have kf := hYk2.out _ HX.out
                      obtain ⟨oK, oN, onm, ovl⟩ := o
                      obtain ⟨fnode, fk, fnm, fav, fA⟩ := f
                      dsimp only at d0 d1 d2 y0 y2
                      unfold maxLen at hb2 hb4
                      by_cases hk : oK = 0
                      · obtain ⟨hz1, hz2, hz3, hz4, _⟩ := hrl.zero hk
                        dsimp only at hz1 hz4
                        subst hk hz1 hz4
                        have ena := str_beq fnm fnm
                        rw [decide_eq_true rfl] at ena
                        have p1 : ((fnode : Int) != fnode) = false := by simp
                        clear ho hf hrl hz2 hz3
                        as_aux_lemma =>
                          go_wp2
                          go_quiet (fail)
                          replace HX := Kp.mk (HX.out.drewN nq)
                          clear kf d0 d1 d2 y0 y2
                          go_wp2
                          go_roundg (N - (q + 1))
                          case rel => exact ⟨q + 1, by go_num, by omega, ⟨by omega⟩, HX⟩
                          case measure => have := hgk2.out; omega
                      · obtain ⟨hk1, hf1⟩ := hrl.one hk
                        dsimp only at hk1 hf1
                        subst hk1 hf1
                        clear ho hf hrl hk
                        as_aux_lemma =>
                          go_wp2
                          go_quiet (fail)
                          replace HX := Kp.mk (HX.out.drewN nq)
                          clear kf d0 d1 d2 y0 y2
                          go_wp2
                          go_roundg (N - (q + 1))
                          case rel => exact ⟨q + 1, by go_num, by omega, ⟨by omega⟩, HX⟩
                          case measure => have := hgk2.out; omega
                    · obtain rfl : q = N := by omega
                      have HS6 : Kp (LawS w wr g (.slice A5 q c5) own') := ⟨hYl.out _ HX.out⟩
                      have hl7 : own'.length ≤ pos + 1 := by rw [hlk.out]; exact hN60
                      clear HX hYl hYo hYk2 hRk hlk hql hN60 hgk2 hq
                      go_wp2
                      go_roundg (L.length - (pos + 1))
                      case rel => exact ⟨pos + 1, own', by go_num, by omega, ⟨by omega⟩, hl7, by omega, HS6⟩
                      case measure => have := hgk.out; omega
    · as_aux_lemma =>
        have hO : Kp (Below w.heap.size w wr) := ⟨by obtain ⟨⟨F, fs, fv, _, _, hE, HO⟩⟩ := HS.out; exact hE _ (show Own w wr (F * _ * _ * _) from HO).drop.drop.drop⟩
        clear HS
        go_wp2
        all_goals
          go_ret
          exact ⟨rfl, hO.out⟩
end Go.Proofs.YtbijlkbfndkdcaaDoorSep
