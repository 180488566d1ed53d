/- Own work: path.Table of texts and int, over what is owned: Drop, Get. -/
import Derived.Test.YtfhfinnjlihghaaTabint
import Derived.Test.YtfhfinnjlihghaaTabQ
import Derived.Test.YtfhfinnjlihghaaDelstring
import Derived.Test.YtfhfinnjlihghaaDelint
namespace Go.Proofs.YtfhfinnjlihghaaSep
open Go.RowKit Go.Lib Go.Proofs

set_option maxHeartbeats 1000000 in
theorem get_int {W0 w : World} {R : HP} {g T : Nat} {rest : List Value} {K : List (List UInt8)} {V : List Value} (H : TabO W0 w R g T rest 3 K V) (x : List UInt8) (hK : sortedK K) (hb : K.length ≤ 1000000) (hV : V.length = K.length) :
    Calls Try.prog 25 #[.pointer (some ⟨g, 0, none⟩), .string (str x)] w fun e w' => e = .returned (.tuple #[if hasK K x then V.getD (posF K x) undef else .int .i64 0, .bool (hasK K x)]) ∧ w' = w := by
  obtain ⟨vk, vv, H⟩ := H
  have HF := Kp.mk (find_int H.tabK x hK hb)
  have hlt := hasK_lt K x
  obtain ⟨q, hq⟩ : ∃ q, Kp (posF K x = q) := ⟨_, ⟨rfl⟩⟩
  rw [hq.out] at HF hlt ⊢
  rcases hx : hasK K x with _ | _
  · rw [hx] at HF
    clear hx hlt H
    go_enter Try.func25, Try.ntmps25
    go_wp2_with fail
    refine HF.out.mono ?_
    rintro e w1 ⟨rfl, rfl⟩
    go_wp2
    go_ret2
    exact ⟨rfl, rfl⟩
  · rw [hx] at HF
    have hlt := hlt hx
    obtain ⟨gv, cap, cur, rfl, H1, h2, h3, h4, h5, h6⟩ := H.tabV.open1 (by omega)
    have k1 := cell_blk (j := 1) (v := .slice (some ⟨gv, 0, none⟩) K.length cap) H.blk rfl
    have c1 : w.cell? ⟨gv, q, none⟩ = some (V.getD q undef) := by
      rw [cell_of_row w gv q cur _ (0, 0) H1.blk]
      have hj : V[q]? = some (V.getD q undef) := by rw [List.getD_eq_getElem?_getD, List.getElem?_eq_getElem (by omega)]; rfl
      rw [← hj, ← h5, List.getElem?_take, if_pos hlt]
      simp
    obtain ⟨vq, hvq⟩ : ∃ vq, V.getD q undef = vq := ⟨_, rfl⟩
    rw [hvq] at c1 ⊢
    have e1 : (q : Int) < (K.length : Int) := by omega
    clear hx H H1 h5 h6 h4 hvq
    go_enter Try.func25, Try.ntmps25
    go_wp2_with fail
    refine HF.out.mono ?_
    rintro e w1 ⟨rfl, rfl⟩
    go_wp2
    go_ret2
    exact ⟨rfl, rfl⟩
set_option maxHeartbeats 4000000 in
theorem drop_int {W0 w : World} {R : HP} {g T : Nat} {rest : List Value} {K : List (List UInt8)} {V : List Value} (H : TabO W0 w R g T rest 3 K V) (x : List UInt8) (hK : sortedK K) (hb : K.length ≤ 1000000) (hV1 : ∀ u ∈ V, u.oneCell' = true) :
    Calls Try.prog 24 #[.pointer (some ⟨g, 0, none⟩), .string (str x)] w fun e w' => e = .returned (.bool (hasK K x)) ∧ TabO W0 w' R g T rest 3 (dropK K x) (dropV K V x) := by
  have H0 := Kp.mk H
  obtain ⟨vk, vv, H⟩ := H
  have HF := Kp.mk (find_int H.tabK x hK hb)
  have hlt := hasK_lt K x
  have hdK : dropK K x = if hasK K x then K.take (posF K x) ++ K.drop (posF K x + 1) else K := rfl
  have hdV : dropV K V x = if hasK K x then V.take (posF K x) ++ V.drop (posF K x + 1) else V := rfl
  obtain ⟨q, hq⟩ : ∃ q, Kp (posF K x = q) := ⟨_, ⟨rfl⟩⟩
  rw [hq.out] at HF hlt hdK hdV
  rcases hx : hasK K x with _ | _
  · rw [hx] at HF hdK hdV
    rw [hdK, hdV, if_neg (by simp), if_neg (by simp)]
    clear hx hlt H hdK hdV
    go_enter Try.func24, Try.ntmps24
    go_wp2_with fail
    refine HF.out.mono ?_
    rintro e w1 ⟨rfl, rfl⟩
    go_wp2
    go_ret
    exact ⟨rfl, H0.out⟩
  · rw [hx] at HF hdK hdV
    rw [hdK, hdV, if_pos rfl, if_pos rfl]
    have hlt := hlt hx
    obtain ⟨A1, c1, rfl, _⟩ := (H.tabK.tabV.sl (by decide)).2
    obtain ⟨A2, c2, rfl, _⟩ := (H.tabV.sl (by decide)).2
    have k0 := cell_blk (j := 0) (v := .slice A1 K.length c1) H.blk rfl
    have k1 := cell_blk (j := 1) (v := .slice A2 K.length c2) H.blk rfl
    have HA : Own W0 w.drew (R * Row 3 1 (.slice A2 K.length c2) K.length V * Blk g (.cells (.slice A1 K.length c1 :: .slice A2 K.length c2 :: rest).toArray T) * Row 9 1 (.slice A1 K.length c1) K.length (SV K)) := H.drew.eq (by ac_rfl)
    have CA := Kp.mk (del_string HA hb (SV_one K) hlt)
    have CV : ∀ (w2 : World) (R2 : HP), Own W0 w2 (R2 * Row 3 1 (.slice A2 K.length c2) K.length V) → Calls Try.prog 39 #[.slice A2 K.length c2, .int .i64 q, .int .i64 ((q : Int) + 1)] w2 fun e w' => ∃ v', e = .returned v' ∧ Own W0 w' (R2 * Row 3 1 v' (K.length - 1) (V.take q ++ V.drop (q + 1))) := fun w2 R2 h => del_int h hb hV1 hlt
    have CV := Kp.mk CV
    have hKl : Kp ((K.take q ++ K.drop (q + 1)).length = K.length - 1) := ⟨by rw [List.length_append, List.length_take, List.length_drop]; omega⟩
    have hSV : Kp (SV (K.take q ++ K.drop (q + 1)) = (SV K).take q ++ (SV K).drop (q + 1)) := ⟨by simp [SV, List.map_take, List.map_drop]⟩
    have hw : IntKind.i64.wrap ((q : Int) + 1) = (q : Int) + 1 := by rw [IntKind.wrap_i64]; omega
    clear hx H H0 HA hdK hdV
    go_enter Try.func24, Try.ntmps24
    go_wp2_with fail
    refine HF.out.mono ?_
    rintro e w1 ⟨rfl, rfl⟩
    clear HF
    go_wp2
    go_region_law (first | (go_simp; (go_at_call 38; (with_reducible refine CA.out.mono ?_); rintro e wq ⟨v1, rfl, HQ⟩; obtain ⟨A3, c3, rfl, _⟩ := (HQ.sl (by decide)).2; have kq := cell_blk (j := 1) (v := .slice A2 K.length c2) (HQ.focB g).blk rfl; have GV := Kp.mk (CV.out _ (R * Blk g (.cells (.slice A1 K.length c1 :: .slice A2 K.length c2 :: rest).toArray T) * Row 9 1 (.slice A3 (K.length - 1) c3) (K.length - 1) ((SV K).take q ++ (SV K).drop (q + 1))) (HQ.eq (by ac_rfl))); clear HQ)) | (go_simp; (go_at_call 39; (with_reducible refine GV.out.mono ?_); rintro e wz ⟨v2, rfl, HZ⟩; obtain ⟨A4, c4, rfl, _⟩ := (HZ.sl (by decide)).2; have kz0 := cell_blk (j := 0) (v := .slice A1 K.length c1) (HZ.focB g).blk rfl; have kz1 := cell_blk (j := 1) (v := .slice A2 K.length c2) (HZ.focB g).blk rfl; have zf : ∀ j, wz.frozen? ⟨g, j, none⟩ = false := fun j => frz_blk (HZ.focB g).blk; have HZ1 := Kp.mk HZ; clear HZ GV kq)))
    all_goals
      go_wp2
      go_ret
      refine ⟨rfl, .slice A3 (K.length - 1) c3, .slice A4 (K.length - 1) c4, ?_⟩
      rw [hKl.out, hSV.out]
      first
        | (have F := ((HZ1.out.focB g).set 0 (.slice A3 (K.length - 1) c3)).set 1 (.slice A4 (K.length - 1) c4)
           rw [set0_two, set1_two] at F
           exact F.eq (by ac_rfl))
        | (have F := ((HZ1.out.focB g).set 1 (.slice A4 (K.length - 1) c4)).set 0 (.slice A3 (K.length - 1) c3)
           rw [set1_two, set0_two] at F
           exact F.eq (by ac_rfl))
end Go.Proofs.YtfhfinnjlihghaaSep
