/- Own work: the law's own way to a path without dots, by a walk. -/
import Derived.Test.YtcoaecdgodfodaaUriDotP
import Derived.Test.YtcoaecdgodfodaaMore
namespace Go.Proofs.YtcoaecdgodfodaaSep
open Go.RowKit Go.Lib Go.Proofs

theorem jl_take (D : List (List UInt8)) (k : Nat) (h : k < D.length) : jl (D.take (k + 1)) = jl (D.take k) ++ (47 :: D[k]) := by
  rw [List.take_add_one, List.getElem?_eq_getElem h]
  exact jl_snoc _ _
theorem jl_len (D : List (List UInt8)) (k : Nat) : (jl (D.take k)).length ≤ (jl D).length := by
  have : jl D = jl (D.take k) ++ jl (D.drop k) := by
    rw [jl, jl, jl, ← List.flatMap_append, List.take_append_drop]
  rw [this, List.length_append]
  omega
set_option maxHeartbeats 4000000 in
theorem law_dots {W0 w : World} {R : HP} (H : Own W0 w R) (q : List UInt8) (hl : q.length ≤ 1000) :
    Calls Try.prog 12 #[.string (str (47 :: q))] w fun e w' => e = .returned (.string (str (jl (dotsL q)))) ∧ Own W0 w' R := by
  have HS := law_split H (str (47 :: q)) (by rw [str_size, List.length_cons]; omega)
  rw [str_data] at HS
  obtain ⟨P, hP⟩ : ∃ P, Kp (splitF q = P) := ⟨_, ⟨rfl⟩⟩
  rw [show splitF (47 :: q) = [] :: splitF q by rw [splitF, splitG_hit]; rfl, hP.out] at HS
  have hPl : P.length ≤ 1001 := by rw [← hP.out]; have := splitG_len q []; exact Nat.le_trans this (by omega)
  have hP0 : 0 < P.length := by
    rw [← hP.out]
    exact List.length_pos_iff.2 (splitG_ne [] q)
  have hdl : Kp (dotsL q = dl [] P) := ⟨by rw [dotsL, hP.out]⟩
  have hgl : (jl (dotsL q)).length ≤ 1001 := by
    rw [← (dots_law q).1]
    have := dotsF_len (47 :: q)
    rw [List.length_cons] at this
    omega
  obtain ⟨D, hD⟩ : ∃ D, Kp (dotsL q = D) := ⟨_, ⟨rfl⟩⟩
  rw [hD.out] at hdl hgl ⊢
  have hPx : ∀ x ∈ P, x.length ≤ 1001 := fun x hx => by
    have h1 : (jl P).length = q.length + 1 := by
      rw [← hP.out, splitF, jl_split]
      simp
    obtain ⟨a, b, hab⟩ := List.append_of_mem hx
    rw [hab, jl, List.flatMap_append, List.flatMap_cons] at h1
    simp only [List.length_append, List.length_cons] at h1
    omega
  have HS := Kp.mk HS
  clear hP hD
  go_enter Try.func12, Try.ntmps12
  go_wp2_with fail
  refine HS.out.mono ?_
  rintro e w1 ⟨vp, rfl, H1⟩
  have hlc : ([] :: P).length = P.length + 1 := rfl
  rw [hlc] at H1
  obtain ⟨gp, cp, rfl, hc1, hc2⟩ := H1.at0 (by omega)
  unfold maxLen at hc2
  have hsv : ∀ j (h : j < P.length), (SV ([] :: P))[j + 1]? = some (.string (str P[j])) := fun j h => by
    rw [SV, List.getElem?_map, List.getElem?_cons_succ, List.getElem?_eq_getElem h]
    rfl
  generalize SV ([] :: P) = sv at H1 hsv
  obtain ⟨np, hnp⟩ : ∃ np, Kp (P.length = np) := ⟨_, ⟨rfl⟩⟩
  rw [hnp.out] at H1 hPl hP0 hc1 ⊢
  have H2 := Kp.mk ((H1.box (.cells #[] 9)).zero 9 1 w1.heap.size 0)
  have hsv := Kp.mk hsv
  have hdl := Kp.mk hdl.out
  clear HS hlc H1
  go_wp2
  go_loopg [4, 17] np (fun g vo vi wr => ∃ (k : Nat) (O : List (List UInt8)), k ≤ np ∧ vi = .int .i64 k ∧ Kp (g + k = np) ∧ Kp (O.length ≤ k) ∧ Kp (D = dl O (P.drop k)) ∧
    Kp (Own W0 wr (R * Row 9 1 (.slice (some ⟨gp, 0, none⟩) (np + 1) cp) (np + 1) sv * Row 9 1 vo O.length (SV O))))
  case atStart => exact ⟨0, [], Nat.zero_le _, rfl, ⟨by omega⟩, ⟨by simp⟩, ⟨by rw [List.drop_zero]; exact hdl.out⟩, H2⟩
  case round =>
    obtain ⟨k, O, hk, rfl, hg, hO, hd, HO⟩ := hrel
    by_cases hlt : k < np
    · obtain ⟨x, hx⟩ : ∃ x, P[k]'(by rw [hnp.out]; exact hlt) = x := ⟨_, rfl⟩
      have hcell : wr.cell? ⟨gp, k + 1, none⟩ = some (.string (str x)) := (HO.out.focR (.slice (some ⟨gp, 0, none⟩) (np + 1) cp)).cellR (k + 1) _ (by rw [hsv.out k (by rw [hnp.out]; exact hlt), hx])
      have hcell' : wr.cell? ⟨gp, 1 + k, none⟩ = some (.string (str x)) := by rw [Nat.add_comm]; exact hcell
      have hxm : x ∈ P := hx ▸ List.getElem_mem _
      have hdk : P.drop k = x :: P.drop (k + 1) := by rw [List.drop_eq_getElem_cons (by rw [hnp.out]; exact hlt), hx]
      rw [hdk, dl] at hd
      have hxl := hPx x hxm
      have hOl := hO.out
      have hxt := str_toList x
      clear hdk hxm hx
      have hlast : (P.drop (k + 1)).isEmpty = decide (k + 1 = np) := by
        rw [Bool.eq_iff_iff, List.isEmpty_iff, decide_eq_true_iff, List.drop_eq_nil_iff, hnp.out]
        omega
      rw [hlast] at hd
      by_cases e1 : x = [46]
      · have t1 : (x == [46]) = true := by rw [e1]; rfl
        by_cases hl2 : k + 1 = np
        · have t2 : ((k : Int) == (np : Int) - 1) = true := by simp; omega
          rw [decide_eq_true hl2, dlStep, if_pos e1, if_pos rfl] at hd
          clear e1 hl2 hlast
          go_wp2_with (at_builtin; go_must (refine own_append (v := u4) (vx := .slice (some ⟨wr.heap.size, 0, none⟩) 1 1) (HO.out.box (.cells #[.string ⟨#[]⟩] 9)) rfl (.tmp 37) (.tmp 38) 24 (.string ⟨#[]⟩) 16 1 (SV [[]]) rfl Try.underlying24 info_str rfl (by decide) rfl rfl ?c1 (SV_one _) ?c2 ?c3 ?_))
          case c1 => exact sl_box wr #[_] _ 1 1 rfl (by decide)
          case c2 => unfold maxLen; omega
          case c3 => omega
          intro v4 w4 H4 hz4 _
          rw [← SV_append] at H4
          go_wp2
          go_roundg (np - (k + 1))
          case measure => have := hg.out; omega
          case rel => exact ⟨k + 1, O ++ [[]], by omega, by go_num, ⟨by have := hg.out; omega⟩, ⟨by rw [List.length_append]; simp; omega⟩, hd, ⟨by rw [List.length_append]; exact H4⟩⟩
        · have t2 : ((k : Int) == (np : Int) - 1) = false := by simp; omega
          rw [decide_eq_false hl2, dlStep, if_pos e1, if_neg (by simp)] at hd
          clear e1 hl2 hlast
          go_wp2
          go_roundg (np - (k + 1))
          case measure => have := hg.out; omega
          case rel => exact ⟨k + 1, O, by omega, by go_num, ⟨by have := hg.out; omega⟩, ⟨by omega⟩, hd, ⟨HO.out⟩⟩
      · have t1 : (x == [46]) = false := by simpa using e1
        by_cases e2 : x = [46, 46]
        · have t3 : (x == [46, 46]) = true := by rw [e2]; rfl
          obtain ⟨A4, c4, rfl, hA4⟩ := (HO.out.sl (by decide)).2
          have hsh : Own W0 wr (R * Row 9 1 (.slice (some ⟨gp, 0, none⟩) (np + 1) cp) (np + 1) sv * Row 9 1 (.slice A4 (O.length - 1) c4) O.dropLast.length (SV O.dropLast)) := by
            have h := HO.out.shrink (m := O.length - 1) (by omega)
            rw [show (SV O).take (O.length - 1) = SV O.dropLast by rw [SV, SV, List.map_dropLast, List.dropLast_eq_take, List.length_map]] at h
            rw [List.length_dropLast]
            exact h
          have hdl1 : O.dropLast.length = O.length - 1 := List.length_dropLast
          have hOc := hA4.1
          have hOc2 := hA4.2.1
          unfold maxLen at hOc2
          by_cases h0 : 0 < O.length
          · have hsub : ((O.length : Nat) : Int) - 1 = ((O.length - 1 : Nat) : Int) := by omega
            rw [← hdl1] at hsub
            have hsh := Kp.mk hsh
            obtain ⟨m, hm⟩ : ∃ m, Kp (O.dropLast.length = m) := ⟨_, ⟨rfl⟩⟩
            rw [hm.out] at hsh hsub hdl1
            have hmc : m ≤ c4 := by omega
            have hmc' : (m : Int) ≤ (c4 : Int) := by omega
            have hm0 : (0 : Int) ≤ (m : Int) := by omega
            by_cases hl2 : k + 1 = np
            · have t2 : ((k : Int) == (np : Int) - 1) = true := by simp; omega
              rw [decide_eq_true hl2, dlStep, if_neg e1, if_pos e2, if_pos rfl] at hd
              clear e1 e2 hl2 hlast hA4
              go_wp2_with (at_builtin; go_must (refine own_append (v := .slice A4 (O.length - 1) c4) (vx := .slice (some ⟨wr.heap.size, 0, none⟩) 1 1) (hsh.out.box (.cells #[.string ⟨#[]⟩] 9)) rfl (.tmp 55) (.tmp 56) 24 (.string ⟨#[]⟩) 16 1 (SV [[]]) rfl Try.underlying24 info_str rfl (by decide) rfl rfl ?c1 (SV_one _) ?c2 ?c3 ?_))
              case c1 => exact sl_box wr #[_] _ 1 1 rfl (by decide)
              case c2 => unfold maxLen; omega
              case c3 => omega
              intro v4 w4 H4 hz4 _
              rw [← SV_append] at H4
              go_wp2
              go_roundg (np - (k + 1))
              case measure => have := hg.out; omega
              case rel => exact ⟨k + 1, O.dropLast ++ [[]], by omega, by go_num, ⟨by have := hg.out; omega⟩, ⟨by rw [List.length_append, List.length_dropLast]; simp; omega⟩, hd, ⟨by rw [List.length_append, hm.out, hdl1]; exact H4⟩⟩
            · have t2 : ((k : Int) == (np : Int) - 1) = false := by simp; omega
              rw [decide_eq_false hl2, dlStep, if_neg e1, if_pos e2, if_neg (by simp)] at hd
              clear e1 e2 hl2 hlast hA4
              go_wp2
              go_roundg (np - (k + 1))
              case measure => have := hg.out; omega
              case rel => exact ⟨k + 1, O.dropLast, by omega, by go_num, ⟨by have := hg.out; omega⟩, ⟨by rw [List.length_dropLast]; omega⟩, hd, ⟨by rw [hm.out]; exact hsh.out⟩⟩
          · obtain rfl : O = [] := List.eq_nil_of_length_eq_zero (by omega)
            clear hsh hdl1 h0
            by_cases hl2 : k + 1 = np
            · have t2 : ((k : Int) == (np : Int) - 1) = true := by simp; omega
              rw [decide_eq_true hl2, dlStep, if_neg e1, if_pos e2, if_pos rfl] at hd
              clear e1 e2 hl2 hlast hA4
              go_wp2_with (at_builtin; go_must (refine own_append (v := .slice A4 0 c4) (vx := .slice (some ⟨wr.heap.size, 0, none⟩) 1 1) (HO.out.box (.cells #[.string ⟨#[]⟩] 9)) rfl (.tmp 55) (.tmp 56) 24 (.string ⟨#[]⟩) 16 1 (SV [[]]) rfl Try.underlying24 info_str rfl (by decide) rfl rfl ?c1 (SV_one _) ?c2 ?c3 ?_))
              case c1 => exact sl_box wr #[_] _ 1 1 rfl (by decide)
              case c2 => unfold maxLen; omega
              case c3 => omega
              intro v4 w4 H4 hz4 _
              rw [← SV_append] at H4
              go_wp2
              go_roundg (np - (k + 1))
              case measure => have := hg.out; omega
              case rel => exact ⟨k + 1, [[]], by omega, by go_num, ⟨by have := hg.out; omega⟩, ⟨by simp⟩, hd, ⟨H4⟩⟩
            · have t2 : ((k : Int) == (np : Int) - 1) = false := by simp; omega
              rw [decide_eq_false hl2, dlStep, if_neg e1, if_pos e2, if_neg (by simp)] at hd
              clear e1 e2 hl2 hlast hA4
              go_wp2
              go_roundg (np - (k + 1))
              case measure => have := hg.out; omega
              case rel => exact ⟨k + 1, [], by omega, by go_num, ⟨by have := hg.out; omega⟩, ⟨by simp⟩, hd, ⟨HO.out⟩⟩
        · have t3 : (x == [46, 46]) = false := by simpa using e2
          rw [dlStep, if_neg e1, if_neg e2] at hd
          clear e1 e2 hlast
          by_cases hl2 : k + 1 = np
          · have t2 : ((k : Int) == (np : Int) - 1) = true := by simp; omega
            clear hl2
            go_wp2_with (at_builtin; go_must (refine own_append (v := u4) (vx := .slice (some ⟨wr.heap.size, 0, none⟩) 1 1) (HO.out.box (.cells #[.string (str x)] 9)) rfl (.tmp 27) (.tmp 29) 24 (.string ⟨#[]⟩) 16 1 (SV [x]) rfl Try.underlying24 info_str rfl (by decide) rfl rfl ?c1 (SV_one _) ?c2 ?c3 ?_))
            case c1 => exact sl_box wr #[_] _ 1 1 rfl (by decide)
            case c2 => unfold maxLen; omega
            case c3 => omega
            intro v4 w4 H4 hz4 _
            rw [← SV_append] at H4
            go_wp2
            go_roundg (np - (k + 1))
            case measure => have := hg.out; omega
            case rel => exact ⟨k + 1, O ++ [x], by omega, by go_num, ⟨by have := hg.out; omega⟩, ⟨by rw [List.length_append]; simp; omega⟩, hd, ⟨by rw [List.length_append]; exact H4⟩⟩
          · have t2 : ((k : Int) == (np : Int) - 1) = false := by simp; omega
            clear hl2
            go_wp2_with (at_builtin; go_must (refine own_append (v := u4) (vx := .slice (some ⟨wr.heap.size, 0, none⟩) 1 1) (HO.out.box (.cells #[.string (str x)] 9)) rfl (.tmp 27) (.tmp 29) 24 (.string ⟨#[]⟩) 16 1 (SV [x]) rfl Try.underlying24 info_str rfl (by decide) rfl rfl ?c1 (SV_one _) ?c2 ?c3 ?_))
            case c1 => exact sl_box wr #[_] _ 1 1 rfl (by decide)
            case c2 => unfold maxLen; omega
            case c3 => omega
            intro v4 w4 H4 hz4 _
            rw [← SV_append] at H4
            go_wp2
            go_roundg (np - (k + 1))
            case measure => have := hg.out; omega
            case rel => exact ⟨k + 1, O ++ [x], by omega, by go_num, ⟨by have := hg.out; omega⟩, ⟨by rw [List.length_append]; simp; omega⟩, hd, ⟨by rw [List.length_append]; exact H4⟩⟩
    · obtain rfl : k = np := by omega
      have hdk : P.drop k = [] := List.drop_eq_nil_of_le (by rw [hnp.out]; exact Nat.le_refl _)
      rw [hdk, dl] at hd
      obtain rfl := hd.out
      clear hlt hk hdk hd hdl
      have hOl := hO.out
      obtain ⟨A4, c4, rfl, hA4⟩ := (HO.out.sl (by decide)).2
      obtain ⟨n, hn⟩ : ∃ n, Kp (D.length = n) := ⟨_, ⟨rfl⟩⟩
      have hDt := jl_take D
      have hDl := jl_len D
      have hcl : ∀ j (h : j < D.length), ∃ ad, A4 = some ad ∧ wr.cell? (ad.add j) = some (.string (str D[j])) := fun j h => by
        obtain ⟨ad, h1, h2⟩ := hA4.2.2.2 (by omega)
        refine ⟨ad, h1, h2 j _ ?_⟩
        rw [SV, List.getElem?_map, List.getElem?_eq_getElem h]
        rfl
      have hOc := hA4.1
      have hOc2 := hA4.2.1
      unfold maxLen at hOc2
      have hend : Kp (D.take D.length = D) := ⟨List.take_length⟩
      have hcl := Kp.mk hcl
      have hDt := Kp.mk hDt
      have hDl := Kp.mk hDl
      rw [hn.out] at hOc hOl HO hend ⊢
      clear hA4
      go_wp2
      go_loopg [8, 61] n (fun g vs vi wq => ∃ j : Nat, j ≤ n ∧ vi = .int .i64 j ∧ Kp (g + j = n) ∧ vs = .string (str (jl (D.take j))) ∧ wq = wr)
      case atStart => exact ⟨0, Nat.zero_le _, rfl, ⟨by omega⟩, rfl, rfl⟩
      case round =>
        obtain ⟨j, hj, rfl, hgj, rfl, rfl⟩ := hrel
        by_cases hlj : j < n
        · have hjD : j < D.length := by rw [hn.out]; exact hlj
          obtain ⟨ad, rfl, hcj⟩ := hcl.out j hjD
          have hap := hDt.out j hjD
          have hs1 := hDl.out j
          have hs2 := hDl.out (j + 1)
          rw [hap, List.length_append, List.length_cons] at hs2
          obtain ⟨dj, hdj⟩ : ∃ dj, D[j] = dj := ⟨_, rfl⟩
          rw [hdj] at hcj hap hs2
          obtain ⟨pre, hpre⟩ : ∃ pre, jl (D.take j) = pre := ⟨_, rfl⟩
          rw [hpre] at hap hs1 hs2 ⊢
          have hsz : (str pre).size = pre.length := str_size pre
          have hsd : (str dj).size = dj.length := str_size dj
          have h47 : (⟨#[47]⟩ : ByteArray).size = 1 := rfl
          have hno1 : ¬ 9223372036854775807 < pre.length + 1 := by omega
          have hno2 : ¬ 9223372036854775807 < pre.length + 1 + dj.length := by omega
          have happ : str pre ++ (⟨#[47]⟩ : ByteArray) ++ str dj = str (pre ++ 47 :: dj) := by
            rw [show (⟨#[47]⟩ : ByteArray) = str [47] from rfl, str_app, str_app]
            simp
          have hap := Kp.mk hap
          clear hpre hdj hjD hs1 hs2
          go_wp2
          go_roundg (n - (j + 1))
          case measure => have := hgj.out; omega
          case rel => exact ⟨j + 1, by omega, by go_num, ⟨by have := hgj.out; omega⟩, by rw [hap.out, ← happ], rfl⟩
        · obtain rfl : j = n := by omega
          rw [hend.out]
          clear hlj hj
          go_wp2
          go_ret
          exact ⟨rfl, HO.out.drop.drop⟩
end Go.Proofs.YtcoaecdgodfodaaSep
