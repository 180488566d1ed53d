/- Own work: path.Table of texts and num, over what is owned: find, Put. -/
import Derived.Test.YtllapldkcfhklaaDoorNSearch
import Derived.Test.YtllapldkcfhklaaDoorInsstring
import Derived.Test.YtllapldkcfhklaaDoorInsint
import Derived.Test.YtllapldkcfhklaaDoorNTabO
namespace Go.Proofs.YtllapldkcfhklaaDoorSep
open Go.RowKit Go.Lib Go.Proofs

set_option maxHeartbeats 1000000 in
theorem find_num {W0 w : World} {R : HP} {g T : Nat} {vk vv : Value} {rest : List Value} {K : List Int} (H : Own W0 w (R * Row 3 1 vk K.length (IV K) * Blk g (.cells (vk :: vv :: rest).toArray T))) (x : Int) (hK : sortedI K) (hb : K.length ≤ 1000000) :
    Calls Tryd.prog 31 #[.pointer (some ⟨g, 0, none⟩), .int .i64 x] w fun e w' => e = .returned (.tuple #[.int .i64 (posI K x : Nat), .bool (hasI K x)]) ∧ w' = w := by
  have k0 := cell_blk (j := 0) (v := vk) H.blk rfl
  have HS := binI_searchO H x hK hb
  obtain ⟨A, c, rfl, _⟩ := (H.rot.sl (by decide)).2
  have HS := Kp.mk HS
  clear H
  go_enter Tryd.func31, Tryd.ntmps31
  go_wp2_with fail
  refine HS.out.mono ?_
  rintro e w1 ⟨rfl, rfl⟩
  go_wp2
  go_ret2
  exact ⟨rfl, rfl⟩
set_option maxHeartbeats 4000000 in
theorem put_num_there {W0 w : World} {R : HP} {g T : Nat} {rest : List Value} {K : List Int} {V : List Value} (H : TabI W0 w R g T rest 9 K V) (x : Int) (z : List UInt8) (hK : sortedI K) (hb : K.length ≤ 1000000) (hV : V.length = K.length) (hx : hasI K x = true) :
    Calls Tryd.prog 15 #[.pointer (some ⟨g, 0, none⟩), .int .i64 x, (.string (str z))] w fun e w' => e = .returned (.bool false) ∧ TabI W0 w' R g T rest 9 K (V.set (posI K x) (.string (str z))) := by
  obtain ⟨vk, vv, H⟩ := H
  have hp : posI K x < K.length := by
    rw [hasI, decide_eq_true_iff] at hx
    exact (List.getElem?_eq_some_iff.1 hx).1
  have HF := find_num H.tabK x hK hb
  rw [hx] at HF
  obtain ⟨q, hq⟩ : ∃ q, Kp (posI K x = q) := ⟨_, ⟨rfl⟩⟩
  rw [hq.out] at HF hp ⊢
  obtain ⟨gv, cap, cur, rfl, H1, h2, h3, h4, h5, h6⟩ := H.tabV.open1 (by omega)
  have k1 := cell_blk (j := 1) (v := .slice (some ⟨gv, 0, none⟩) K.length cap) H1.rot.blk rfl
  have c1 : w.cell? ⟨gv, q, none⟩ = some (cur[q]'(by omega)) := cell_blk H1.blk (Array.getElem?_eq_getElem (by omega))
  have z1 : w.frozen? ⟨gv, q, none⟩ = false := frz_blk H1.blk
  have hfin : TabI W0 (w.setCell ⟨gv, q, none⟩ (.string (str z))) R g T rest 9 K (V.set q (.string (str z))) := by
    refine ⟨vk, .slice (some ⟨gv, 0, none⟩) K.length cap, ?_⟩
    refine (((H1.set q (.string (str z))).close1 K.length h2 h3 (by simpa using h4) (V.set q (.string (str z))) ?_).tabVback)
    rw [Array.toList_setIfInBounds, ← h5, List.take_set]
  have hfin := Kp.mk hfin
  have HF := Kp.mk HF
  have e1 : (q : Int) < (K.length : Int) := by omega
  clear H H1 hq hx h5 h6
  go_enter Tryd.func15, Tryd.ntmps15
  go_wp2_with fail
  refine HF.out.mono ?_
  rintro e w1 ⟨rfl, rfl⟩
  clear HF
  go_wp2
  go_ret
  exact ⟨rfl, hfin.out⟩
set_option maxHeartbeats 40000000 in
theorem put_num_new {W0 w : World} {R : HP} {g T : Nat} {rest : List Value} {K : List Int} {V : List Value} (H : TabI W0 w R g T rest 9 K V) (x : Int) (z : List UInt8) (hK : sortedI K) (hb : K.length ≤ 1000000) (hV : V.length = K.length) (hV1 : ∀ u ∈ V, u.oneCell' = true) (hx : hasI K x = false) :
    Calls Tryd.prog 15 #[.pointer (some ⟨g, 0, none⟩), .int .i64 x, (.string (str z))] w fun e w' => e = .returned (.bool true) ∧ TabI W0 w' R g T rest 9 (K.take (posI K x) ++ x :: K.drop (posI K x)) (V.take (posI K x) ++ (.string (str z)) :: V.drop (posI K x)) := by
  obtain ⟨vk, vv, H⟩ := H
  have hp := posI_le x K
  have HF := find_num H.tabK x hK hb
  rw [hx] at HF
  obtain ⟨q, hq⟩ : ∃ q, Kp (posI K x = q) := ⟨_, ⟨rfl⟩⟩
  rw [hq.out] at HF hp ⊢
  obtain ⟨A1, c1, rfl, _⟩ := (H.tabK.tabV.sl (by decide)).2
  obtain ⟨A2, c2, rfl, _⟩ := (H.tabV.sl (by decide)).2
  have k0 := cell_blk (j := 0) (v := .slice A1 K.length c1) H.blk rfl
  have k1 := cell_blk (j := 1) (v := .slice A2 K.length c2) H.blk rfl
  have H := Kp.mk H
  have HF := Kp.mk HF
  go_enter Tryd.func15, Tryd.ntmps15
  go_wp2_with fail
  refine HF.out.mono ?_
  rintro e w1 ⟨rfl, rfl⟩
  clear HF
  go_wp2
  have hl : (IV K).length = K.length := IV_length K
  have HA : Own W0 (w1.alloc (.cells #[.int .i64 x] 3)).drew (R * Row 9 1 (.slice A2 K.length c2) K.length V * Blk g (.cells (.slice A1 K.length c1 :: .slice A2 K.length c2 :: rest).toArray T) * Row 3 1 (.slice A1 K.length c1) K.length (IV K) * Blk w1.heap.size (.cells #[.int .i64 x] 3)) := by
    have := (H.out.alloc (.cells #[.int .i64 x] 3)).drew
    exact this.eq (by ac_rfl)
  have HB : Own W0 ((w1.alloc (.cells #[.int .i64 x] 3)).alloc (.cells #[(.string (str z))] 9)).drew (R * Row 9 1 (.slice A2 K.length c2) K.length V * Blk g (.cells (.slice A1 K.length c1 :: .slice A2 K.length c2 :: rest).toArray T) * Blk (w1.heap.size + 1) (.cells #[(.string (str z))] 9) * Row 3 1 (.slice A1 K.length c1) K.length (IV K) * Blk w1.heap.size (.cells #[.int .i64 x] 3)) := by
    have := ((H.out.alloc (.cells #[.int .i64 x] 3)).alloc (.cells #[(.string (str z))] 9)).drew
    rw [World.size_alloc] at this
    exact this.eq (by ac_rfl)
  have HC : Own W0 ((w1.alloc (.cells #[(.string (str z))] 9)).alloc (.cells #[.int .i64 x] 3)).drew (R * Row 9 1 (.slice A2 K.length c2) K.length V * Blk g (.cells (.slice A1 K.length c1 :: .slice A2 K.length c2 :: rest).toArray T) * Blk w1.heap.size (.cells #[(.string (str z))] 9) * Row 3 1 (.slice A1 K.length c1) K.length (IV K) * Blk (w1.heap.size + 1) (.cells #[.int .i64 x] 3)) := by
    have := ((H.out.alloc (.cells #[(.string (str z))] 9)).alloc (.cells #[.int .i64 x] 3)).drew
    rw [World.size_alloc] at this
    exact this.eq (by ac_rfl)
  have kx0 := cell_blk (w := w1.alloc (.cells #[.int .i64 x] 3)) (j := 0) (v := .slice A1 K.length c1) (H.out.alloc _).rot.blk rfl
  have kx1 := cell_blk (w := w1.alloc (.cells #[.int .i64 x] 3)) (j := 1) (v := .slice A2 K.length c2) (H.out.alloc _).rot.blk rfl
  have kz0 := cell_blk (w := w1.alloc (.cells #[(.string (str z))] 9)) (j := 0) (v := .slice A1 K.length c1) (H.out.alloc _).rot.blk rfl
  have kz1 := cell_blk (w := w1.alloc (.cells #[(.string (str z))] 9)) (j := 1) (v := .slice A2 K.length c2) (H.out.alloc _).rot.blk rfl
  have kxz0 := cell_blk (w := (w1.alloc (.cells #[.int .i64 x] 3)).alloc (.cells #[(.string (str z))] 9)) (j := 0) (v := .slice A1 K.length c1) ((H.out.alloc (.cells #[.int .i64 x] 3)).alloc (.cells #[(.string (str z))] 9)).rot.drop.rot.blk rfl
  have kxz1 := cell_blk (w := (w1.alloc (.cells #[.int .i64 x] 3)).alloc (.cells #[(.string (str z))] 9)) (j := 1) (v := .slice A2 K.length c2) ((H.out.alloc (.cells #[.int .i64 x] 3)).alloc (.cells #[(.string (str z))] 9)).rot.drop.rot.blk rfl
  have kzx0 := cell_blk (w := (w1.alloc (.cells #[(.string (str z))] 9)).alloc (.cells #[.int .i64 x] 3)) (j := 0) (v := .slice A1 K.length c1) ((H.out.alloc (.cells #[(.string (str z))] 9)).alloc (.cells #[.int .i64 x] 3)).rot.drop.rot.blk rfl
  have kzx1 := cell_blk (w := (w1.alloc (.cells #[(.string (str z))] 9)).alloc (.cells #[.int .i64 x] 3)) (j := 1) (v := .slice A2 K.length c2) ((H.out.alloc (.cells #[(.string (str z))] 9)).alloc (.cells #[.int .i64 x] 3)).rot.drop.rot.blk rfl
  have CA := Kp.mk (ins_int HA hb rfl (IV_one K) hp)
  have CB := Kp.mk (ins_int HB hb rfl (IV_one K) hp)
  have CC := Kp.mk (ins_int HC hb rfl (IV_one K) hp)
  have CV : ∀ (w2 : World) (R2 : HP) (b : Nat), Own W0 w2 (R2 * Row 9 1 (.slice A2 K.length c2) K.length V * Blk b (.cells #[(.string (str z))] 9)) → Calls Tryd.prog 33 #[.slice A2 K.length c2, .int .i64 q, .slice (some ⟨b, 0, none⟩) 1 1] w2 (InsEnd W0 R2 9 K.length q V (.string (str z))) := fun w2 R2 b h => ins_string h hb rfl hV1 hp
  have CV := Kp.mk CV
  clear HA HB HC
  have hKl : (K.take q ++ x :: K.drop q).length = K.length + 1 := by rw [List.length_append, List.length_cons, List.length_take, List.length_drop]; omega
  have hIV : IV (K.take q ++ x :: K.drop q) = (IV K).take q ++ .int .i64 x :: (IV K).drop q := by simp [IV, List.map_take, List.map_drop]
  have hKl := Kp.mk hKl
  have hIV := Kp.mk hIV
  go_region_law (first | (go_simp; (go_at_call 32; first | ((with_reducible refine CA.out.mono ?_); rintro e wq ⟨v1, rfl, HQ⟩; obtain ⟨A3, c3, rfl, _⟩ := (HQ.sl (by decide)).2; have kq := cell_blk (j := 1) (v := .slice A2 K.length c2) (HQ.focB g).blk rfl; have kq2 := cell_blk (j := 1) (v := .slice A2 K.length c2) ((HQ.alloc (.cells #[(.string (str z))] 9)).focB g).blk rfl; have GV := Kp.mk (CV.out _ (R * Blk g (.cells (.slice A1 K.length c1 :: .slice A2 K.length c2 :: rest).toArray T) * Row 3 1 (.slice A3 (K.length + 1) c3) (K.length + 1) ((IV K).take q ++ .int .i64 x :: (IV K).drop q)) _ ((HQ.foc (Row 9 1 (.slice A2 K.length c2) K.length V)).alloc (.cells #[(.string (str z))] 9))); clear HQ) | ((with_reducible refine CB.out.mono ?_); rintro e wq ⟨v1, rfl, HQ⟩; obtain ⟨A3, c3, rfl, _⟩ := (HQ.sl (by decide)).2; have kq := cell_blk (j := 1) (v := .slice A2 K.length c2) (HQ.focB g).blk rfl; have GV := Kp.mk (CV.out _ (R * Blk g (.cells (.slice A1 K.length c1 :: .slice A2 K.length c2 :: rest).toArray T) * Row 3 1 (.slice A3 (K.length + 1) c3) (K.length + 1) ((IV K).take q ++ .int .i64 x :: (IV K).drop q)) _ ((HQ.foc (Row 9 1 (.slice A2 K.length c2) K.length V)).foc (Blk (w1.heap.size + 1) (.cells #[(.string (str z))] 9)))); clear HQ) | ((with_reducible refine CC.out.mono ?_); rintro e wq ⟨v1, rfl, HQ⟩; obtain ⟨A3, c3, rfl, _⟩ := (HQ.sl (by decide)).2; have kq := cell_blk (j := 1) (v := .slice A2 K.length c2) (HQ.focB g).blk rfl; have GV := Kp.mk (CV.out _ (R * Blk g (.cells (.slice A1 K.length c1 :: .slice A2 K.length c2 :: rest).toArray T) * Row 3 1 (.slice A3 (K.length + 1) c3) (K.length + 1) ((IV K).take q ++ .int .i64 x :: (IV K).drop q)) _ ((HQ.foc (Row 9 1 (.slice A2 K.length c2) K.length V)).foc (Blk w1.heap.size (.cells #[(.string (str z))] 9)))); clear HQ))) | (go_simp; (go_at_call 33; (with_reducible refine GV.out.mono ?_); rintro e wz ⟨v2, rfl, HZ⟩; obtain ⟨A4, c4, rfl, _⟩ := (HZ.sl (by decide)).2; have kz0 := cell_blk (j := 0) (v := .slice A1 K.length c1) (HZ.focB g).blk rfl; have kz1 := cell_blk (j := 1) (v := .slice A2 K.length c2) (HZ.focB g).blk rfl; have zf : ∀ j, wz.frozen? ⟨g, j, none⟩ = false := fun j => frz_blk (HZ.focB g).blk; have HZ1 := Kp.mk HZ; clear HZ GV kq)))
  all_goals
    go_wp2
    go_ret
    refine ⟨rfl, .slice A3 (K.length + 1) c3, .slice A4 (K.length + 1) c4, ?_⟩
    rw [hKl.out, hIV.out]
    first
      | (have F := ((HZ1.out.focB g).set 0 (.slice A3 (K.length + 1) c3)).set 1 (.slice A4 (K.length + 1) c4)
         rw [set0_two, set1_two] at F
         exact F)
      | (have F := ((HZ1.out.focB g).set 1 (.slice A4 (K.length + 1) c4)).set 0 (.slice A3 (K.length + 1) c3)
         rw [set1_two, set0_two] at F
         exact F)
end Go.Proofs.YtllapldkcfhklaaDoorSep
