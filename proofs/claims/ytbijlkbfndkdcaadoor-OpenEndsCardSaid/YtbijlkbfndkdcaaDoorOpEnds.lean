/- Own work: OpenEnds: the walk. -/
import Derived.Test.YtbijlkbfndkdcaaDoorOpR
import Derived.Test.YtbijlkbfndkdcaaDoorOpQ
import Derived.Deep.CutBlock
namespace Go.Proofs.YtbijlkbfndkdcaaDoorSep
open Go.RowKit Go.Lib Go.Proofs
def implO : Obj := .cells #[.string ⟨#[100, 100]⟩, .string ⟨#[100, 116]⟩, .string ⟨#[108, 105]⟩, .string ⟨#[111, 112, 116, 103, 114, 111, 117, 112]⟩, .string ⟨#[111, 112, 116, 105, 111, 110]⟩, .string ⟨#[112]⟩, .string ⟨#[114, 98]⟩, .string ⟨#[114, 112]⟩, .string ⟨#[114, 116]⟩, .string ⟨#[114, 116, 99]⟩] 9
theorem list_impl (n : List UInt8) (w : World) : Calls Tryd.prog 12 #[.string (str n), .slice (some ⟨w.heap.size, 0, none⟩) 10 10] (w.alloc implO) fun e w' => e = .returned (.bool (hasB implT n)) ∧ w' = w.alloc implO :=
  law_list implT (by decide) n (sl_box w #[.string ⟨#[100, 100]⟩, .string ⟨#[100, 116]⟩, .string ⟨#[108, 105]⟩, .string ⟨#[111, 112, 116, 103, 114, 111, 117, 112]⟩, .string ⟨#[111, 112, 116, 105, 111, 110]⟩, .string ⟨#[112]⟩, .string ⟨#[114, 98]⟩, .string ⟨#[114, 112]⟩, .string ⟨#[114, 116]⟩, .string ⟨#[114, 116, 99]⟩] 9 1 10 rfl (by decide))
theorem list_tab (n : List UInt8) (w : World) : Calls Tryd.prog 12 #[.string (str n), .slice (some ⟨w.heap.size, 0, none⟩) 8 8] (w.alloc tabO) fun e w' => e = .returned (.bool (hasB tabT n)) ∧ w' = w.alloc tabO :=
  law_list tabT (by decide) n (sl_box w #[.string ⟨#[99, 97, 112, 116, 105, 111, 110]⟩, .string ⟨#[99, 111, 108, 103, 114, 111, 117, 112]⟩, .string ⟨#[116, 98, 111, 100, 121]⟩, .string ⟨#[116, 100]⟩, .string ⟨#[116, 102, 111, 111, 116]⟩, .string ⟨#[116, 104]⟩, .string ⟨#[116, 104, 101, 97, 100]⟩, .string ⟨#[116, 114]⟩] 9 1 8 rfl (by decide))
theorem EndH.base {W0 w : World} {R : HP} {s d c m : Nat} {A : Option Addr} {v : Value} {L : List Nm} (H : Own W0 w (EndH R s d L A c v m)) : Own W0 w R :=
  (show Own W0 w (R * _ * _ * _ * _) from H).drop.drop.drop.drop
theorem EndH.inside {W0 w : World} {R B : HP} {s d c m : Nat} {A : Option Addr} {v : Value} {L : List Nm} (H : Own W0 w (EndH R s d L A c v m * B)) : Own W0 w (EndH (R * B) s d L A c v m) :=
  H.eq (by unfold EndH; ac_rfl)
theorem EndH.all {W0 w : World} {R : HP} {s d c m : Nat} {A : Option Addr} {v : Value} {L : List Nm} (H : Own W0 w (EndH R s d L A c v m)) : ∃ A2 c2, w.cell? ⟨s, 1, none⟩ = some (.slice A2 m c2) := by
  have h : Own W0 w (_ * Row 3 1 v m (IV ((madeF L).2.take m)) * Blk s (stO d v)) := H
  obtain ⟨_, A2, c2, rfl, _⟩ := h.drop.sl (by decide)
  exact ⟨A2, c2, cell_blk h.blk rfl⟩
/-- What the law has ahead of its stacks. -/
def BaseH (W : World) (ga gb : Nat) (a b : List UInt8) : HP := Old W * Blk ga (.cells #[.string (str a)] 9) * Blk gb (.cells #[.string (str b)] 9)
set_option maxRecDepth 100000 in
set_option maxHeartbeats 8000000 in
theorem openEnds_core (w : World) (v : Value) (L : List Nm) (g0 : Sl w v 2 L.length (namesC L)) (hL : L.length ≤ 30) (a b : List UInt8) (al : Bool) (u : Value) (hU : Usual w (Old w) u) (uI : Value) (hI : Implied w (Old w) uI) :
    Calls Tryd.prog 3 #[v, .string (str a), .string (str b), .bool al] w fun e w' => e = .returned (.bool true) ∧ Below w.heap.size w w' := by
  obtain ⟨_, A, c, rfl, _⟩ := id g0
  have H0 : Own w ((w.alloc (.cells #[.string (str a)] 9)).alloc (.cells #[.string (str b)] 9)) (BaseH w w.heap.size (w.heap.size + 1) a b) := by
    have h := ((own_start w).alloc (.cells #[.string (str a)] 9)).alloc (.cells #[.string (str b)] 9)
    rw [World.size_alloc] at h
    exact h
  have HH := Kp.mk (law_head (R := BaseH w w.heap.size (w.heap.size + 1) a b) hU.more.more H0)
  have HL : Kp (∀ w9, Own w w9 (BaseH w w.heap.size (w.heap.size + 1) a b) → Sl w9 (.slice A L.length c) 2 L.length (namesC L)) := ⟨fun w9 h => g0.below (show Own w w9 (Old w * _ * _) from h).drop.drop.old⟩
  have hIm : Kp (Implied w (BaseH w w.heap.size (w.heap.size + 1) a b) uI) := ⟨hI.more.more⟩
  have hOld : Kp (∀ w9, Own w w9 (BaseH w w.heap.size (w.heap.size + 1) a b) → Below w.heap.size w w9) := ⟨fun w9 h => (show Own w w9 (Old w * _ * _) from h).drop.drop.old⟩
  have hcell : Kp (∀ w9, Own w w9 (BaseH w w.heap.size (w.heap.size + 1) a b) → w9.cell? ⟨w.heap.size, 0, none⟩ = some (.string (str a)) ∧ w9.cell? ⟨w.heap.size + 1, 0, none⟩ = some (.string (str b))) := ⟨fun w9 h => by
    have h2 : Own w w9 (Old w * Blk w.heap.size (.cells #[.string (str a)] 9) * Blk (w.heap.size + 1) (.cells #[.string (str b)] 9)) := h
    exact ⟨cell_blk h2.drop.blk rfl, cell_blk h2.blk rfl⟩⟩
  have hIs : Kp (∀ w9 (x : Nm), Own w w9 (BaseH w w.heap.size (w.heap.size + 1) a b) → Calls Tryd.prog 8 #[.agg #[.string (str x.1), .int .i64 x.2], .pointer (some ⟨w.heap.size, 0, none⟩), .pointer (some ⟨w.heap.size + 1, 0, none⟩)] w9 fun e w' => e = .returned (.bool (isF a b x)) ∧ Own w w' (BaseH w w.heap.size (w.heap.size + 1) a b)) := ⟨fun w9 x h => law_is a b h x⟩
  have h30 : ¬ (30 < L.length) := by omega
  have h30' : ¬ ((30 : Int) < (L.length : Int)) := by omega
  clear g0 hU hI H0
  go_enter Tryd.func3, Tryd.ntmps3
  go_wp2_with fail
  refine HH.out.mono ?_
  rintro e w1 ⟨rfl, H1⟩
  clear HH
  obtain ⟨ga, hga⟩ : ∃ ga, w.heap.size = ga := ⟨_, rfl⟩
  rw [hga] at H1 HL hIm hOld hcell hIs ⊢
  replace hga := Kp.mk hga
  replace H1 := Kp.mk H1
  go_wp2
  go_loopg [10, 11, 27] L.length (fun gk v10 v11 v27 wr => ∃ pos U B : Nat, v10 = .int .i64 U ∧ v11 = .int .i64 B ∧ v27 = .int .i64 pos ∧ pos ≤ L.length ∧ Kp (gk + pos = L.length) ∧ Kp (U = untilF (isF a b) (L.take pos)) ∧ Kp (B = backF (isF a b) (L.take pos)) ∧ Kp (Own w wr (BaseH w ga (ga + 1) a b)))
  case atStart => exact ⟨0, 0, 0, rfl, rfl, rfl, Nat.zero_le _, ⟨by omega⟩, ⟨rfl⟩, ⟨rfl⟩, H1⟩
  case round =>
    obtain ⟨pos, U, B, rfl, rfl, rfl, hpos, hgk, hUn, hBa, HO⟩ := hrel
    by_cases hlt : pos < L.length
    · obtain ⟨⟨n, sp⟩, hx⟩ : ∃ x, L[pos] = x := ⟨_, rfl⟩
      have hg : L[pos]? = some (n, sp) := by rw [List.getElem?_eq_getElem hlt, hx]
      obtain ⟨ad, cc, hv, g0, g1⟩ := (HL.out _ HO.out).elem pos hlt
      injection hv with q1 q2 q3
      subst q1 q3
      have c0 := g0 _ (namesC_get L pos n sp hg).1
      have c1 := g1 0 _ (namesC_get L pos n sp hg).2
      have hu := untilF_snoc (isF a b) (L.take pos) (n, sp)
      have hb := backF_snoc (isF a b) (L.take pos) (n, sp)
      rw [← take_two hg, List.length_take, Nat.min_eq_left (by omega), ← hUn.out] at hu
      rw [← take_two hg, List.length_take, Nat.min_eq_left (by omega), ← hBa.out] at hb
      have HX := hIs.out _ (n, sp) (HO.out.box (.cells #[.string (str n), .int .i64 sp] 25))
      dsimp only at HX
      obtain ⟨q, hq⟩ : ∃ q, isF a b (n, sp) = q := ⟨_, rfl⟩
      rw [hq] at hu hb HX
      replace HX := Kp.mk HX
      replace hu := Kp.mk hu
      replace hb := Kp.mk hb
      clear g0 g1 hx hg hq H1
      go_wp2_with fail
      refine HX.out.mono ?_
      rintro e w2 ⟨rfl, H2⟩
      replace H2 := Kp.mk H2
      clear HX c0 c1
      rcases q with _ | _
      · have hu2 := hu.out
        have hb2 := hb.out
        rw [if_neg (by simp)] at hu2 hb2
        replace hu2 := Kp.mk hu2.symm
        replace hb2 := Kp.mk hb2.symm
        go_wp2
        go_roundg (L.length - (pos + 1))
        case rel => exact ⟨pos + 1, U, B, rfl, rfl, by go_num, by omega, ⟨by omega⟩, hu2, hb2, H2⟩
        case measure => have := hgk.out; omega
      · have hu2 := hu.out
        have hb2 := hb.out
        rw [if_pos rfl] at hu2 hb2
        replace hu2 := Kp.mk hu2.symm
        replace hb2 := Kp.mk hb2.symm
        go_wp2
        go_roundg (L.length - (pos + 1))
        case rel => exact ⟨pos + 1, pos, pos + 1, rfl, by go_num, by go_num, by omega, ⟨by omega⟩, hu2, hb2, H2⟩
        case measure => have := hgk.out; omega
    · obtain rfl : pos = L.length := by omega
      rw [List.take_length] at hUn hBa
      have HM := Kp.mk (law_made2 (fun w9 h9 => HL.out w9 h9) (by omega) HO.out)
      clear H1 hIs
      go_wp2_with fail
      refine HM.out.mono ?_
      rintro e w2 ⟨s1, d1, A1, c1, v1, rfl, H2⟩
      obtain ⟨ka, kb⟩ := hcell.out _ (EndH.base H2)
      have H3 := EndH.inside (H2.alloc (.cells #[.string (str a), .string (str b)] 9))
      have HUn := Kp.mk (stack_Until H3 (by omega) a b (held_blk (sz := 1) (m := 2) (by decide) rfl (by decide)))
      clear HM H2 H3 HO
      go_wp2_with fail
      refine HUn.out.mono ?_
      rintro e w3 ⟨rfl, v1', H4⟩
      rw [← hUn.out] at H4
      clear HUn ka kb
      have HM := Kp.mk (law_made2 (fun w9 h9 => HL.out w9 (EndH.base h9).drop) (by omega) H4)
      clear H4
      go_wp2_with fail
      refine HM.out.mono ?_
      rintro e w4 ⟨s2, d2, A2, c2, v2, rfl, H5⟩
      obtain ⟨ka, kb⟩ := hcell.out _ (EndH.base (EndH.base H5)).drop
      have H6 := EndH.inside (H5.alloc (.cells #[.string (str a), .string (str b)] 9))
      have HBa := Kp.mk (stack_Back H6 (by omega) a b (held_blk (sz := 1) (m := 2) (by decide) rfl (by decide)))
      clear HM H5 H6
      go_wp2_with fail
      refine HBa.out.mono ?_
      rintro e w5 ⟨rfl, v2', H7⟩
      rw [← hBa.out] at H7
      clear HBa ka kb
      obtain ⟨X, hX⟩ : ∃ X, X = EndH (EndH (BaseH w ga (ga + 1) a b * Blk w2.heap.size (.cells #[.string (str a), .string (str b)] 9)) s1 d1 L A1 c1 v1' U * Blk w4.heap.size (.cells #[.string (str a), .string (str b)] 9)) s2 d2 L A2 c2 v2' B := ⟨_, rfl⟩
      rw [← hX] at H7
      have hXb : Kp (∀ w9, Own w w9 X → Own w w9 (BaseH w ga (ga + 1) a b)) := ⟨fun w9 h => by rw [hX] at h; exact (EndH.base (EndH.base h).drop).drop⟩
      have hXl : Kp (∀ w9, Own w w9 X → (∃ A3 c3, w9.cell? ⟨s1, 1, none⟩ = some (.slice A3 U c3)) ∧ ∃ A3 c3, w9.cell? ⟨s2, 1, none⟩ = some (.slice A3 B c3)) := ⟨fun w9 h => by rw [hX] at h; exact ⟨EndH.all (EndH.base h).drop, EndH.all h⟩⟩
      replace H7 := Kp.mk H7
      obtain ⟨T, hT⟩ : ∃ T, Kp (implyF a al L = T) := ⟨_, ⟨rfl⟩⟩
      clear hX hUn hBa
      go_upto_block 2 with fail
      go_cut [16, 17] (fun v16 v17 w' => v16 = .int .i64 (T : Nat) ∧ Kp (Own w w' X))
      case first =>
        go_wp2_with fail
        go_loopg [16] L.length (fun gk v16 wr => v16 = .int .i64 (gk : Nat) ∧ gk ≤ L.length ∧ Kp (implyF a al (L.take gk) = T) ∧ Kp (Own w wr X))
        case atStart => exact ⟨rfl, Nat.le_refl _, ⟨by rw [List.take_length]; exact hT.out⟩, H7⟩
        case round =>
          obtain ⟨rfl, hg, ht, HO⟩ := hrel
          rcases gk with _ | m
          · have hT0 : T = 0 := by rw [← ht.out]; rfl
            subst hT0
            go_wp2
            go_meet
            exact ⟨rfl, HO⟩
          · obtain ⟨⟨n, sp⟩, hx⟩ : ∃ x, L[m]? = some x := ⟨_, List.getElem?_eq_getElem (by omega)⟩
            obtain ⟨ad, cc, hv, g0, g1⟩ := (HL.out _ (hXb.out _ HO.out)).elem m (by omega)
            injection hv with q1 q2 q3
            subst q1 q3
            have c0 := g0 _ (namesC_get L m n sp hx).1
            have c1 := g1 0 _ (namesC_get L m n sp hx).2
            have hu := backF_snoc (fun x => !goesF a al x) (L.take m) (n, sp)
            rw [← take_two hx, List.length_take, Nat.min_eq_left (by omega)] at hu
            have hu2 : Kp (T = if (!goesF a al (n, sp)) = true then m + 1 else implyF a al (L.take m)) := ⟨ht.out.symm.trans hu⟩
            have hgo : Kp (goesF a al (n, sp) = (!(!decide (a = []) && (decide (spF sp = 0) && decide (n = a))) && ((decide (spF sp = 0) && hasB implT n) || (al && (decide (spF sp = 0) && hasB tabT n))))) := ⟨by simp [goesF, isN, hasB]⟩
            obtain ⟨ka, _⟩ := hcell.out _ (hXb.out _ (HO.out.box (.cells #[.string (str n), .int .i64 sp] 25)))
            have ena := str_beq n a
            have h1 := list_impl n (wr.alloc (.cells #[.string (str n), .int .i64 sp] 25))
            have h2 := list_tab n ((wr.alloc (.cells #[.string (str n), .int .i64 sp] 25)).alloc implO)
            rw [World.size_alloc] at h1
            rw [World.size_alloc, World.size_alloc] at h2
            unfold implO at h1 h2
            unfold tabO at h2
            obtain ⟨r2, hr2⟩ : ∃ q, hasB implT n = q := ⟨_, rfl⟩
            obtain ⟨r3, hr3⟩ : ∃ q, hasB tabT n = q := ⟨_, rfl⟩
            rw [hr2] at h1 hgo
            rw [hr3] at h2 hgo
            replace h1 := Kp.mk h1
            replace h2 := Kp.mk h2
            clear g0 g1 hu hx ht hr2 hr3
            by_cases hs : spF sp = 0
            case neg =>
              have q1 : ((bits .and .i64 sp 3).tmod 3 == 0) = false := by rw [beq_eq_false_iff_ne]; exact hs
              have q2 : ((bits .and .i64 sp 3).tmod 3 != 0) = true := by rw [bne_iff_ne]; exact hs
              have q3 : ¬ ((bits .and .i64 sp 3).tmod 3 = 0) := hs
              have hg2 : Kp (goesF a al (n, sp) = false) := ⟨by rw [hgo.out, decide_eq_false hs]; simp⟩
              clear hs hgo h1 h2
              have hT2 : T = m + 1 := by have h := hu2.out; rw [hg2.out] at h; simpa using h
              subst hT2
              go_wp2
              go_meet
              exact ⟨by go_num, ⟨HO.out.box _⟩⟩
            case pos =>
              have q1 : ((bits .and .i64 sp 3).tmod 3 == 0) = true := by have : (bits .and .i64 sp 3).tmod 3 = 0 := hs; rw [this]; rfl
              have q2 : ((bits .and .i64 sp 3).tmod 3 != 0) = false := by have : (bits .and .i64 sp 3).tmod 3 = 0 := hs; rw [this]; rfl
              have hgo2 := hgo.out
              rw [decide_eq_true hs] at hgo2
              by_cases hc : a ≠ [] ∧ n = a
              · have f1 : (str a).toList.isEmpty = false := by rw [str_toList]; have := hc.1; cases a <;> simp_all
                rw [decide_eq_true hc.2] at ena
                have hg2 : Kp (goesF a al (n, sp) = false) := ⟨by rw [hgo2, decide_eq_false hc.1, decide_eq_true hc.2]; simp⟩
                clear hs hgo hgo2 h1 h2 hc
                have hT2 : T = m + 1 := by have h := hu2.out; rw [hg2.out] at h; simpa using h
                subst hT2
                go_wp2
                go_meet
                exact ⟨by go_num, ⟨HO.out.box _⟩⟩
              · have hg2 : Kp (goesF a al (n, sp) = (r2 || (al && r3))) := ⟨by
                  rw [hgo2]
                  have : (!decide (a = []) && (true && decide (n = a))) = false := by
                    by_cases h1 : a = []
                    · simp [h1]
                    · have h2 : ¬ n = a := fun h => hc ⟨h1, h⟩
                      simp [h2]
                  rw [this]
                  simp⟩
                have hcc : a = [] ∨ (a ≠ [] ∧ n ≠ a) := by
                  by_cases h1 : a = []
                  · exact .inl h1
                  · exact .inr ⟨h1, fun h => hc ⟨h1, h⟩⟩
                clear hs hgo hgo2 hc
                rcases hcc with ha | ⟨ha, hn⟩
                case' inl =>
                  have f1 : (str a).toList.isEmpty = true := by rw [str_toList, ha]; rfl
                  have f2 : (str a).toList = [] := by rw [str_toList, ha]
                  clear ena ha
                case' inr =>
                  have f1 : (str a).toList.isEmpty = false := by rw [str_toList]; cases a <;> simp_all
                  rw [decide_eq_false hn] at ena
                  clear ha hn
                all_goals
                  go_wp2_with fail
                  refine h1.out.mono ?_
                  rintro e w6 ⟨rfl, rfl⟩
                  clear h1
                  rcases r2 with _ | _
                  · rcases al with _ | _
                    · clear h2
                      have hT2 : T = m + 1 := by have h := hu2.out; rw [hg2.out] at h; simpa using h
                      subst hT2
                      go_wp2
                      go_meet
                      exact ⟨by go_num, ⟨(HO.out.box _).box _⟩⟩
                    · go_wp2_with fail
                      refine h2.out.mono ?_
                      rintro e w6 ⟨rfl, rfl⟩
                      clear h2
                      rcases r3 with _ | _
                      · have hT2 : T = m + 1 := by have h := hu2.out; rw [hg2.out] at h; simpa using h
                        subst hT2
                        go_wp2
                        go_meet
                        exact ⟨by go_num, ⟨((HO.out.box _).box _).box _⟩⟩
                      · have hT2 : Kp (implyF a true (L.take m) = T) := ⟨by have h := hu2.out; rw [hg2.out] at h; simpa using h.symm⟩
                        go_wp2
                        go_roundg m
                        case rel => exact ⟨by go_num, by omega, hT2, ⟨((HO.out.box _).box _).box _⟩⟩
                        case measure => omega
                  · clear h2
                    have hT2 : Kp (implyF a al (L.take m) = T) := ⟨by have h := hu2.out; rw [hg2.out] at h; simpa using h.symm⟩
                    go_wp2
                    go_roundg m
                    case rel => exact ⟨by go_num, by omega, hT2, ⟨(HO.out.box _).box _⟩⟩
                    case measure => omega
      case' rest =>
        obtain ⟨rfl, H8⟩ := hcut
        clear H7
        have HM := Kp.mk (law_made2 (fun w9 h9 => HL.out w9 (hXb.out w9 h9)) (by omega) H8.out)
        go_wp2_with fail
        refine HM.out.mono ?_
        rintro e w7 ⟨s3, d3, A3, c3, v3, rfl, H9⟩
        obtain ⟨ka, _⟩ := hcell.out _ (hXb.out _ (EndH.base H9))
        have HI := Kp.mk (stack_Imply H9 (by omega) a al (u := uI) (fun w9 h9 => hIm.out w9 (hXb.out w9 h9)))
        rw [hT.out] at HI
        clear HM H9 H8
        go_wp2_with fail
        refine HI.out.mono ?_
        rintro e w8 ⟨rfl, v3', H10⟩
        obtain ⟨⟨B1, e1, k1⟩, B2, e2, k2⟩ := hXl.out _ (EndH.base H10)
        obtain ⟨B3, e3, k3⟩ := EndH.all H10
        have hE := hOld.out _ (hXb.out _ (EndH.base H10))
        replace hE := Kp.mk hE
        clear HI H10 ka
        go_wp2
        go_ret
        exact ⟨rfl, by rw [hga.out]; exact hE.out⟩
end Go.Proofs.YtbijlkbfndkdcaaDoorSep
