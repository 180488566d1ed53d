/- Own work: Until, Back of a stack, by walks. -/
import Derived.Test.YtbijlkbfndkdcaaDoorOpM
namespace Go.Proofs.YtbijlkbfndkdcaaDoorSep
open Go.RowKit Go.Lib Go.Proofs
/-- A stack of elements, of which the first m are open. -/
def EndH (R : HP) (s d : Nat) (L : List Nm) (A : Option Addr) (c : Nat) (v : Value) (m : Nat) : HP :=
  R * Row 65 10 (.slice A (madeF L).1.length c) (madeF L).1.length (nodesC (madeF L).1) * Blk d (docO (.slice A (madeF L).1.length c)) * Row 3 1 v m (IV ((madeF L).2.take m)) * Blk s (stO d v)
section
variable {W0 w : World} {R : HP} {s d c : Nat} {A : Option Addr} {v nv : Value} {L : List Nm}
theorem madeF_pos (L : List Nm) : 0 < (madeF L).1.length := by
  refine snoc_ind (P := fun L => 0 < (madeF L).1.length) (by decide) (fun L x ih => ?_) L
  rw [madeF_snoc]
  have := addF_len (madeF L).1 (spF x.2) x.1
  show 0 < (addF (madeF L).1 (spF x.2) x.1).length
  omega
theorem EndH.doc {m : Nat} (H : Own W0 w (EndH R s d L A c v m)) : DocR w d (madeF L).1 := by
  unfold EndH at H
  exact H.drop.drop.docR (madeF_pos L)
/-- What is asked of an element that is open. -/
theorem end_Is {m : Nat} (H : Own W0 w (EndH R s d L A c v m)) (hL : L.length ≤ 100) (i : Nat) (x : Nm) (hx : L[i]? = some x) {id : Nat} (hid : (madeF L).2[i]? = some id) (N : List (List UInt8)) (hN : N.length ≤ 100000) (HN : Sl w nv 1 N.length (SV N)) :
    Calls Tryd.prog 29 #[.pointer (some ⟨d, 0, none⟩), .int .i64 id, nv] w fun e w' => e = .returned (.bool (decide (spF x.2 = 0) && hasB N x.1)) ∧ w' = w := by
  obtain ⟨id2, j, h1, h2⟩ := made_node L i x hx
  obtain rfl : id2 = id := Option.some.inj (h1.symm.trans hid)
  have hml := (madeF_len L).1
  exact dom_Is (EndH.doc H) (by omega) id2 _ h2 rfl N hN HN
theorem take_two {α : Type} {l : List α} {m : Nat} {x : α} (h : l[m]? = some x) : l.take (m + 1) = l.take m ++ [x] := by rw [List.take_add_one, h]; rfl
theorem end_Pop {m : Nat} (H : Own W0 w (EndH R s d L A c v (m + 1))) (hL : L.length ≤ 100) {id : Nat} (hid : (madeF L).2[m]? = some id) :
    Calls Tryd.prog 23 #[.pointer (some ⟨s, 0, none⟩)] w fun e w' => e = .returned (.int .i64 id) ∧ ∃ v', Own W0 w' (EndH R s d L A c v' m) := by
  have hlt := (List.getElem?_eq_some_iff.1 hid).1
  have hml := (madeF_len L).2
  have hlen : ((madeF L).2.take m).length = m := by rw [List.length_take]; omega
  unfold EndH at H ⊢
  rw [take_two hid] at H
  have hl1 : ((madeF L).2.take m ++ [id]).length = m + 1 := by simp [hlen]
  have h := stack_Pop (v := v) (l := (madeF L).2.take m ++ [id]) (by rw [hl1]; exact H) (by omega)
  rw [topF_snoc, List.dropLast_concat, hlen] at h
  exact h
theorem end_Top {m : Nat} (H : Own W0 w (EndH R s d L A c v (m + 1))) (hL : L.length ≤ 100) {id : Nat} (hid : (madeF L).2[m]? = some id) :
    Calls Tryd.prog 22 #[.pointer (some ⟨s, 0, none⟩)] w fun e w' => e = .returned (.int .i64 id) ∧ Own W0 w' (EndH R s d L A c v (m + 1)) := by
  have hlt := (List.getElem?_eq_some_iff.1 hid).1
  have hml := (madeF_len L).2
  have hlen : ((madeF L).2.take m).length = m := by rw [List.length_take]; omega
  unfold EndH at H ⊢
  rw [take_two hid] at H ⊢
  have hl1 : ((madeF L).2.take m ++ [id]).length = m + 1 := by simp [hlen]
  have h := stack_Top (v := v) (l := (madeF L).2.take m ++ [id]) (by rw [hl1]; exact H) (by omega)
  rw [topF_snoc, hl1] at h
  exact h
set_option maxHeartbeats 2000000 in
theorem stack_Until (H : Own W0 w (EndH R s d L A c v L.length)) (hL : L.length ≤ 100) (a b : List UInt8) (HN : Held W0 R nv 1 2 (SV [a, b])) :
    Calls Tryd.prog 10 #[.pointer (some ⟨s, 0, none⟩), nv] w fun e w' => e = .returned (.tuple #[]) ∧ ∃ v', Own W0 w' (EndH R s d L A c v' (untilF (isF a b) L)) := by
  obtain ⟨p, hp⟩ : ∃ p, Kp (isF a b = p) := ⟨_, ⟨rfl⟩⟩
  obtain ⟨T, hT⟩ : ∃ T, Kp (untilF (isF a b) L = T) := ⟨_, ⟨rfl⟩⟩
  rw [hT.out]
  have hIs : Kp (∀ (wq : World) (v2 : Value) (m i : Nat) (x : Nm) (id : Nat), Own W0 wq (EndH R s d L A c v2 m) → L[i]? = some x → (madeF L).2[i]? = some id → Calls Tryd.prog 29 #[.pointer (some ⟨d, 0, none⟩), .int .i64 id, nv] wq fun e w' => e = .returned (.bool (isF a b x)) ∧ w' = wq) := ⟨fun wq v2 m i x id h hx hid => end_Is h hL i x hx hid [a, b] (by decide : 2 ≤ 100000) (HN.sl (show Own W0 wq (R * _ * _ * _ * _) from h).drop.drop.drop.drop)⟩
  have H := Kp.mk H
  go_enter Tryd.func10, Tryd.ntmps10
  go_wp2
  go_loopg [] L.length (fun gk wr => ∃ v', gk ≤ L.length ∧ Kp (untilF (isF a b) (L.take gk) = T) ∧ Kp (Own W0 wr (EndH R s d L A c v' gk)))
  case atStart => exact ⟨v, Nat.le_refl _, ⟨by rw [List.take_length]; exact hT.out⟩, H⟩
  case round =>
    obtain ⟨v', hg, ht, HO⟩ := hrel
    rcases gk with _ | m
    · have k1 := cell_blk (j := 1) (v := v') (show Own W0 wr (_ * Blk s (stO d v')) from HO.out).blk rfl
      obtain ⟨_, A0, c0, rfl, _⟩ := (show Own W0 wr (_ * Row 3 1 v' 0 _ * Blk s (stO d v')) from HO.out).drop.sl (by decide)
      have hT0 : T = 0 := by rw [← ht.out]; rfl
      subst hT0
      clear hIs
      go_wp2
      go_end0
      exact ⟨rfl, _, HO.out⟩
    · obtain ⟨x, hx⟩ : ∃ x, L[m]? = some x := ⟨_, List.getElem?_eq_getElem (by omega)⟩
      obtain ⟨id, hid⟩ : ∃ id, (madeF L).2[m]? = some id := ⟨_, List.getElem?_eq_getElem (by have := (madeF_len L).2; omega)⟩
      have HP := Kp.mk (end_Pop HO.out.drew hL hid)
      have k0 := cell_blk (j := 0) (v := .pointer (some ⟨d, 0, none⟩)) (show Own W0 wr (_ * Blk s (stO d v')) from HO.out).blk rfl
      have k1 := cell_blk (j := 1) (v := v') (show Own W0 wr (_ * Blk s (stO d v')) from HO.out).blk rfl
      obtain ⟨_, A0, c0, rfl, _⟩ := (show Own W0 wr (_ * Row 3 1 v' (m + 1) _ * Blk s (stO d v')) from HO.out).drop.sl (by decide)
      have hu := untilF_snoc (isF a b) (L.take m) x
      rw [← take_two hx, ht.out, List.length_take, Nat.min_eq_left (by omega)] at hu
      have hIs2 : Kp (∀ (wq : World) (v2 : Value), Own W0 wq (EndH R s d L A c v2 m) → Calls Tryd.prog 29 #[.pointer (some ⟨d, 0, none⟩), .int .i64 id, nv] wq fun e w' => e = .returned (.bool (isF a b x)) ∧ w' = wq) := ⟨fun wq v2 h => hIs.out wq v2 m m x id h hx hid⟩
      obtain ⟨q, hq⟩ : ∃ q, isF a b x = q := ⟨_, rfl⟩
      rw [hq] at hu hIs2
      replace hu := Kp.mk hu
      clear hx hid hq hIs H
      go_wp2
      go_region_law (go_simp; first | (go_at_call 23; refine HP.out.mono ?_; rintro e wq ⟨rfl, v2, HQ⟩; have kq := cell_blk (j := 0) (v := .pointer (some ⟨d, 0, none⟩)) (show Own W0 wq (_ * Blk s (stO d v2)) from HQ).blk rfl; have HJ := Kp.mk (hIs2.out wq v2 HQ); replace HQ := Kp.mk HQ) | (go_at_call 29; refine HJ.out.mono ?_; rintro e wz ⟨rfl, rfl⟩))
      all_goals
        rcases q with _ | _
        · have hu2 := hu.out
          rw [if_neg (by simp)] at hu2
          replace hu2 := Kp.mk hu2
          go_wp2
          go_roundg m
          case rel => exact ⟨v2, by omega, ⟨hu2.out.symm⟩, HQ⟩
          case measure => omega
        · have hu2 := hu.out
          rw [if_pos rfl] at hu2
          subst hu2
          go_wp2
          refine bodyPost_ret (results_none rfl _ _ _) rfl ?_
          exact ⟨rfl, _, HQ.out⟩
set_option maxHeartbeats 2000000 in
theorem stack_Back (H : Own W0 w (EndH R s d L A c v L.length)) (hL : L.length ≤ 100) (a b : List UInt8) (HN : Held W0 R nv 1 2 (SV [a, b])) :
    Calls Tryd.prog 11 #[.pointer (some ⟨s, 0, none⟩), nv] w fun e w' => e = .returned (.tuple #[]) ∧ ∃ v', Own W0 w' (EndH R s d L A c v' (backF (isF a b) L)) := by
  obtain ⟨T, hT⟩ : ∃ T, Kp (backF (isF a b) L = T) := ⟨_, ⟨rfl⟩⟩
  rw [hT.out]
  have hIs : Kp (∀ (wq : World) (v2 : Value) (m i : Nat) (x : Nm) (id : Nat), Own W0 wq (EndH R s d L A c v2 m) → L[i]? = some x → (madeF L).2[i]? = some id → Calls Tryd.prog 29 #[.pointer (some ⟨d, 0, none⟩), .int .i64 id, nv] wq fun e w' => e = .returned (.bool (isF a b x)) ∧ Own W0 w' (EndH R s d L A c v2 m)) := ⟨fun wq v2 m i x id h hx hid => (end_Is h hL i x hx hid [a, b] (by decide : 2 ≤ 100000) (HN.sl (show Own W0 wq (R * _ * _ * _ * _) from h).drop.drop.drop.drop)).mono (fun e w' ⟨h1, h2⟩ => ⟨h1, h2 ▸ h⟩)⟩
  have H := Kp.mk H
  go_enter Tryd.func11, Tryd.ntmps11
  go_wp2
  go_loopg [] L.length (fun gk wr => ∃ v', gk ≤ L.length ∧ Kp (backF (isF a b) (L.take gk) = T) ∧ Kp (Own W0 wr (EndH R s d L A c v' gk)))
  case atStart => exact ⟨v, Nat.le_refl _, ⟨by rw [List.take_length]; exact hT.out⟩, H⟩
  case round =>
    obtain ⟨v', hg, ht, HO⟩ := hrel
    rcases gk with _ | m
    · obtain ⟨_, A0, c0, rfl, _⟩ := (show Own W0 wr (_ * Row 3 1 v' 0 _ * Blk s (stO d v')) from HO.out).drop.sl (by decide)
      have k1 := cell_blk (j := 1) (v := .slice A0 0 c0) (show Own W0 wr (_ * Blk s (stO d (.slice A0 0 c0))) from HO.out).blk rfl
      have hT0 : T = 0 := by rw [← ht.out]; rfl
      subst hT0
      clear hIs
      haveI : Nonempty (OwnW W0 (EndH R s d L A c (.slice A0 0 c0) 0)) := ⟨⟨_, HO.out⟩⟩
      have k1b : ∀ x : OwnW W0 (EndH R s d L A c (.slice A0 0 c0) 0), x.w.cell? ⟨s, 1, none⟩ = some (.slice A0 0 c0) := fun x => cell_blk (show Own W0 x.w (_ * Blk s (stO d (.slice A0 0 c0))) from x.own).blk rfl
      clear k1
      go_wp2
      refine wp_region_own HO.out (by kernel_rfl) (by kernel_rfl) ?_
      repeat (go_big_quiet_step (fail))
      refine wpQuiet_nil ?_
      rintro _ ⟨x, rfl⟩
      go_wp2
      go_end0
      exact ⟨rfl, _, x.own⟩
    · obtain ⟨x, hx⟩ : ∃ x, L[m]? = some x := ⟨_, List.getElem?_eq_getElem (by omega)⟩
      obtain ⟨id, hid⟩ : ∃ id, (madeF L).2[m]? = some id := ⟨_, List.getElem?_eq_getElem (by have := (madeF_len L).2; omega)⟩
      obtain ⟨_, A0, c0, rfl, _⟩ := (show Own W0 wr (_ * Row 3 1 v' (m + 1) _ * Blk s (stO d v')) from HO.out).drop.sl (by decide)
      have hu := backF_snoc (isF a b) (L.take m) x
      rw [← take_two hx, ht.out, List.length_take, Nat.min_eq_left (by omega)] at hu
      obtain ⟨q, hq⟩ : ∃ q, isF a b x = q := ⟨_, rfl⟩
      haveI : Nonempty (OwnW W0 (EndH R s d L A c (.slice A0 (m + 1) c0) (m + 1))) := ⟨⟨_, HO.out⟩⟩
      have k0b : ∀ x : OwnW W0 (EndH R s d L A c (.slice A0 (m + 1) c0) (m + 1)), x.w.cell? ⟨s, 0, none⟩ = some (.pointer (some ⟨d, 0, none⟩)) := fun x => cell_blk (show Own W0 x.w (_ * Blk s (stO d (.slice A0 (m + 1) c0))) from x.own).blk rfl
      have k1b : ∀ x : OwnW W0 (EndH R s d L A c (.slice A0 (m + 1) c0) (m + 1)), x.w.cell? ⟨s, 1, none⟩ = some (.slice A0 (m + 1) c0) := fun x => cell_blk (show Own W0 x.w (_ * Blk s (stO d (.slice A0 (m + 1) c0))) from x.own).blk rfl
      have HT : Kp (∀ x : OwnW W0 (EndH R s d L A c (.slice A0 (m + 1) c0) (m + 1)), Calls Tryd.prog 22 #[.pointer (some ⟨s, 0, none⟩)] x.w fun e w' => e = .returned (.int .i64 id) ∧ Own W0 w' (EndH R s d L A c (.slice A0 (m + 1) c0) (m + 1))) := ⟨fun x => end_Top x.own hL hid⟩
      have HI : Kp (∀ y : OwnW W0 (EndH R s d L A c (.slice A0 (m + 1) c0) (m + 1)), Calls Tryd.prog 29 #[.pointer (some ⟨d, 0, none⟩), .int .i64 id, nv] y.w fun e w' => e = .returned (.bool q) ∧ Own W0 w' (EndH R s d L A c (.slice A0 (m + 1) c0) (m + 1))) := ⟨fun y => by rw [← hq]; exact hIs.out y.w _ (m + 1) m x id y.own hx hid⟩
      rw [hq] at hu
      have hP : Kp (∀ y : OwnW W0 (EndH R s d L A c (.slice A0 (m + 1) c0) (m + 1)), Calls Tryd.prog 23 #[.pointer (some ⟨s, 0, none⟩)] y.w fun e w' => e = .returned (.int .i64 id) ∧ ∃ v', Own W0 w' (EndH R s d L A c v' m)) := ⟨fun y => end_Pop y.own hL hid⟩
      replace hu := Kp.mk hu
      clear hx hid hq hIs H
      go_wp2
      refine wp_region_own HO.out (by kernel_rfl) (by kernel_rfl) ?_
      repeat (go_big_quiet_step (first | (go_at_call 22; exact own_quiet_call (HT.out _)) | (go_at_call 29; exact own_quiet_call (HI.out _))))
      refine wpQuiet_nil ?_
      rintro _ ⟨y, rfl⟩
      rcases q with _ | _
      · have hu2 := hu.out
        rw [if_neg (by simp)] at hu2
        replace hu2 := Kp.mk hu2
        go_wp2_with fail
        refine (hP.out y).mono ?_
        rintro e wq ⟨rfl, v2, HQ⟩
        replace HQ := Kp.mk HQ
        go_wp2
        go_roundg m
        case rel => exact ⟨v2, by omega, ⟨hu2.out.symm⟩, HQ⟩
        case measure => omega
      · have hu2 := hu.out
        rw [if_pos rfl] at hu2
        subst hu2
        go_wp2
        go_end0
        exact ⟨rfl, _, y.own⟩
end
end Go.Proofs.YtbijlkbfndkdcaaDoorSep
