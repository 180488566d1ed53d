/- Own work: Imply of a stack, by a walk. -/
import Derived.Test.YtbijlkbfndkdcaaDoorOpN
namespace Go.Proofs.YtbijlkbfndkdcaaDoorSep
open Go.RowKit Go.Lib Go.Proofs
def implT : List (List UInt8) := [[100, 100], [100, 116], [108, 105], [111, 112, 116, 103, 114, 111, 117, 112], [111, 112, 116, 105, 111, 110], [112], [114, 98], [114, 112], [114, 116], [114, 116, 99]]
def tabT : List (List UInt8) := [[99, 97, 112, 116, 105, 111, 110], [99, 111, 108, 103, 114, 111, 117, 112], [116, 98, 111, 100, 121], [116, 100], [116, 102, 111, 111, 116], [116, 104], [116, 104, 101, 97, 100], [116, 114]]
def isN (N : List (List UInt8)) (x : Nm) : Bool := decide (spF x.2 = 0) && hasB N x.1
/-- An element that ends where nothing says so. -/
def goesF (bt : List UInt8) (al : Bool) (x : Nm) : Bool := !(!decide (bt = []) && isN [bt] x) && (isN implT x || (al && isN tabT x))
def implyF (bt : List UInt8) (al : Bool) (L : List Nm) : Nat := backF (fun x => !goesF bt al x) L
def Implied (W0 : World) (R : HP) (u : Value) : Prop := ∀ w, Own W0 w R → w.cell? ⟨0, 0, none⟩ = some u ∧ Sl w u 1 10 (SV implT)
theorem Implied.more {W0 : World} {R Y : HP} {u : Value} (h : Implied W0 R u) : Implied W0 (R * Y) u := fun w H => h w H.drop
section
variable {W0 w : World} {R : HP} {s d c : Nat} {A : Option Addr} {v nv : Value} {L : List Nm}
theorem end_Top0 (H : Own W0 w (EndH R s d L A c v 0)) :
    Calls Tryd.prog 22 #[.pointer (some ⟨s, 0, none⟩)] w fun e w' => e = .returned (.int .i64 (-1)) ∧ Own W0 w' (EndH R s d L A c v 0) :=
  stack_Top (l := []) H (by decide)
def tabO : Obj := .cells #[.string ⟨#[99, 97, 112, 116, 105, 111, 110]⟩, .string ⟨#[99, 111, 108, 103, 114, 111, 117, 112]⟩, .string ⟨#[116, 98, 111, 100, 121]⟩, .string ⟨#[116, 100]⟩, .string ⟨#[116, 102, 111, 111, 116]⟩, .string ⟨#[116, 104]⟩, .string ⟨#[116, 104, 101, 97, 100]⟩, .string ⟨#[116, 114]⟩] 9
set_option maxHeartbeats 20000000 in
theorem stack_Imply (H : Own W0 w (EndH R s d L A c v L.length)) (hL : L.length ≤ 100) (bt : List UInt8) (al : Bool) {u : Value} (hU : Implied W0 R u) :
    Calls Tryd.prog 13 #[.pointer (some ⟨s, 0, none⟩), .string (str bt), .bool al] w fun e w' => e = .returned (.tuple #[]) ∧ ∃ v', Own W0 w' (EndH R s d L A c v' (implyF bt al L)) := by
  unfold implyF
  obtain ⟨T, hT⟩ : ∃ T, Kp (backF (fun x => !goesF bt al x) L = T) := ⟨_, ⟨rfl⟩⟩
  rw [hT.out]
  have hImp : Kp (∀ (wq : World) (v2 : Value) (m : Nat), Own W0 wq (EndH R s d L A c v2 m) → wq.cell? ⟨0, 0, none⟩ = some u ∧ Sl wq u 1 10 (SV implT)) := ⟨fun wq v2 m h => hU wq (show Own W0 wq (R * _ * _ * _ * _) from h).drop.drop.drop.drop⟩
  have hIs : Kp (∀ (wq : World) (v2 : Value) (m i : Nat) (x : Nm) (id : Nat) (N : List (List UInt8)) (nv : Value), Own W0 wq (EndH R s d L A c v2 m) → L[i]? = some x → (madeF L).2[i]? = some id → N.length ≤ 100000 → Sl wq nv 1 N.length (SV N) → Calls Tryd.prog 29 #[.pointer (some ⟨d, 0, none⟩), .int .i64 id, nv] wq fun e w' => e = .returned (.bool (isN N x)) ∧ w' = wq) := ⟨fun wq v2 m i x id N nv h hx hid hN HN => end_Is h hL i x hx hid N hN HN⟩
  have H := Kp.mk H
  go_enter Tryd.func13, Tryd.ntmps13
  go_wp2
  go_loopg [] L.length (fun gk wr => ∃ v', gk ≤ L.length ∧ Kp (backF (fun x => !goesF bt al x) (L.take gk) = T) ∧ Kp (Own W0 wr (EndH R s d L A c v' gk)))
  case atStart => exact ⟨v, Nat.le_refl _, ⟨by rw [List.take_length]; exact hT.out⟩, H⟩
  case round =>
    obtain ⟨v', hg, ht, HO⟩ := hrel
    rcases gk with _ | m
    · have HT := Kp.mk (end_Top0 HO.out)
      have hT0 : T = 0 := by rw [← ht.out]; rfl
      subst hT0
      clear hIs hImp
      go_wp2_with fail
      refine HT.out.mono ?_
      rintro e w1 ⟨rfl, H1⟩
      replace H1 := Kp.mk H1
      go_wp2
      refine bodyPost_ret (results_none rfl _ _ _) rfl ?_
      exact ⟨rfl, _, H1.out⟩
    · obtain ⟨x, hx⟩ : ∃ x, L[m]? = some x := ⟨_, List.getElem?_eq_getElem (by omega)⟩
      obtain ⟨id, hid⟩ : ∃ id, (madeF L).2[m]? = some id := ⟨_, List.getElem?_eq_getElem (by have := (madeF_len L).2; omega)⟩
      have hu := backF_snoc (fun x => !goesF bt al x) (L.take m) x
      rw [← take_two hx, ht.out, List.length_take, Nat.min_eq_left (by omega)] at hu
      have hgo : goesF bt al x = (!(!decide (bt = []) && isN [bt] x) && (isN implT x || (al && isN tabT x))) := rfl
      obtain ⟨r1, hr1⟩ : ∃ q, isN [bt] x = q := ⟨_, rfl⟩
      obtain ⟨r2, hr2⟩ : ∃ q, isN implT x = q := ⟨_, rfl⟩
      obtain ⟨r3, hr3⟩ : ∃ q, isN tabT x = q := ⟨_, rfl⟩
      rw [hr1, hr2, hr3] at hgo
      have HT := Kp.mk (end_Top HO.out hL hid)
      have hI1 : Kp (∀ (wq : World), Own W0 wq (EndH R s d L A c v' (m + 1)) → Calls Tryd.prog 29 #[.pointer (some ⟨d, 0, none⟩), .int .i64 id, .slice (some ⟨wq.heap.size, 0, none⟩) 1 1] (wq.alloc (.cells #[.string (str bt)] 9)) fun e w' => e = .returned (.bool r1) ∧ w' = wq.alloc (.cells #[.string (str bt)] 9)) := ⟨fun wq h => by rw [← hr1]; exact hIs.out _ v' (m + 1) m x id [bt] _ (h.box _) hx hid (by decide : 1 ≤ 100000) (sl_box wq #[.string (str bt)] 9 1 1 rfl (by decide))⟩
      have hI2 : Kp (∀ (wq : World), Own W0 wq (EndH R s d L A c v' (m + 1)) → Calls Tryd.prog 29 #[.pointer (some ⟨d, 0, none⟩), .int .i64 id, u] wq fun e w' => e = .returned (.bool r2) ∧ w' = wq) := ⟨fun wq h => by rw [← hr2]; exact hIs.out _ v' (m + 1) m x id implT _ h hx hid (by decide) (hImp.out wq v' (m + 1) h).2⟩
      have hI3 : Kp (∀ (wq : World), Own W0 wq (EndH R s d L A c v' (m + 1)) → Calls Tryd.prog 29 #[.pointer (some ⟨d, 0, none⟩), .int .i64 id, .slice (some ⟨wq.heap.size, 0, none⟩) 8 8] (wq.alloc tabO).drew fun e w' => e = .returned (.bool r3) ∧ w' = (wq.alloc tabO).drew) := ⟨fun wq h => by rw [← hr3]; exact hIs.out _ v' (m + 1) m x id tabT _ (h.box _).drew hx hid (by decide) ((sl_box wq #[.string ⟨#[99, 97, 112, 116, 105, 111, 110]⟩, .string ⟨#[99, 111, 108, 103, 114, 111, 117, 112]⟩, .string ⟨#[116, 98, 111, 100, 121]⟩, .string ⟨#[116, 100]⟩, .string ⟨#[116, 102, 111, 111, 116]⟩, .string ⟨#[116, 104]⟩, .string ⟨#[116, 104, 101, 97, 100]⟩, .string ⟨#[116, 114]⟩] 9 1 8 rfl (by decide)).drawn ⟨1, rfl⟩)⟩
      have hP : Kp (∀ wq, Own W0 wq (EndH R s d L A c v' (m + 1)) → Calls Tryd.prog 23 #[.pointer (some ⟨s, 0, none⟩)] wq fun e w' => e = .returned (.int .i64 id) ∧ ∃ v', Own W0 w' (EndH R s d L A c v' m)) := ⟨fun wq h => end_Pop h hL hid⟩
      have hgl : Kp (∀ wq, Own W0 wq (EndH R s d L A c v' (m + 1)) → wq.cell? ⟨0, 0, none⟩ = some u) := ⟨fun wq h => (hImp.out wq v' (m + 1) h).1⟩
      have hsd : Kp (∀ wq, Own W0 wq (EndH R s d L A c v' (m + 1)) → wq.cell? ⟨s, 0, none⟩ = some (.pointer (some ⟨d, 0, none⟩))) := ⟨fun wq h => cell_blk (show Own W0 wq (_ * Blk s (stO d v')) from h).blk rfl⟩
      have hx2 : ((id : Int) == -1) = false := by rw [beq_eq_false_iff_ne]; omega
      replace hu := Kp.mk hu
      replace hgo := Kp.mk hgo
      clear hr1 hr2 hr3 hx hid hIs H hImp HO
      go_wp2_with fail
      refine HT.out.mono ?_
      rintro e w1 ⟨rfl, H1⟩
      clear HT
      have ks := hsd.out _ H1
      replace H1 := Kp.mk H1
      go_upto_region 1 with fail
      go_cut [24] (fun v24 w' => v24 = .bool (!decide (bt = []) && r1) ∧ Kp (Own W0 w' (EndH R s d L A c v' (m + 1))))
      case first =>
        by_cases hb : bt = []
        · have e1 : (str bt).toList.isEmpty = true := by rw [str_toList, hb]; rfl
          have e2 : (str bt).toList = [] := by rw [str_toList, hb]
          have hd := Kp.mk (decide_eq_true hb)
          clear hb
          go_wp2_with fail
          go_meet
          exact ⟨by rw [hd.out]; rfl, H1⟩
        · have e1 : (str bt).toList.isEmpty = false := by rw [str_toList]; cases bt <;> simp_all
          have hd := Kp.mk (decide_eq_false hb)
          have HX := Kp.mk (hI1.out _ H1.out)
          clear hb
          go_wp2_with fail
          refine HX.out.mono ?_
          rintro e w2 ⟨rfl, rfl⟩
          go_wp2
          go_meet
          exact ⟨by rw [hd.out]; rfl, ⟨H1.out.box _⟩⟩
      case' rest =>
        obtain ⟨rfl, H2⟩ := hcut
        obtain ⟨q1, hq1⟩ : ∃ q1, (!decide (bt = []) && r1) = q1 := ⟨_, rfl⟩
        have hgo2 := hgo.out
        rw [hq1] at hgo2 ⊢
        replace hgo2 := Kp.mk hgo2
        clear hq1 ks H1 hgo
        rcases q1 with _ | _
        · have ks := hsd.out _ H2.out
          have kg := hgl.out _ H2.out
          go_upto_region 2 with fail
          go_cut [45] (fun v45 w' => v45 = .bool (!(r2 || (al && r3))) ∧ Kp (Own W0 w' (EndH R s d L A c v' (m + 1))))
          case first =>
            by_cases hq : r2 = false ∧ al = true
            · obtain ⟨rfl, rfl⟩ := hq
              have HA := Kp.mk (hI2.out _ H2.out.drew)
              have HB := Kp.mk (hI3.out _ H2.out)
              have ks2 := hsd.out _ (H2.out.box tabO)
              unfold tabO at HB ks2
              clear hgo2 hu hP hgl hsd hI1 hI2 hI3
              go_region_law (go_simp; (go_at_call 29; first | ((with_reducible refine HA.out.mono ?_); rintro e wz ⟨rfl, rfl⟩) | ((with_reducible refine HB.out.mono ?_); rintro e wz ⟨rfl, rfl⟩)))
              all_goals
                go_wp2
                go_meet
                exact ⟨rfl, ⟨(H2.out.box _).drew⟩⟩
            · have hq2 : r2 = true ∨ (r2 = false ∧ al = false) := by revert hq; cases r2 <;> cases al <;> simp
              haveI : Nonempty (OwnW W0 (EndH R s d L A c v' (m + 1))) := ⟨⟨_, H2.out⟩⟩
              have HI : Kp (∀ y : OwnW W0 (EndH R s d L A c v' (m + 1)), Calls Tryd.prog 29 #[.pointer (some ⟨d, 0, none⟩), .int .i64 id, u] y.w fun e w' => e = .returned (.bool r2) ∧ Own W0 w' (EndH R s d L A c v' (m + 1))) := ⟨fun y => (hI2.out y.w y.own).mono fun e w' ⟨h1, h2⟩ => ⟨h1, h2 ▸ y.own⟩⟩
              have ksb : ∀ y : OwnW W0 (EndH R s d L A c v' (m + 1)), y.w.cell? ⟨s, 0, none⟩ = some (.pointer (some ⟨d, 0, none⟩)) := fun y => hsd.out y.w y.own
              have kgb : ∀ y : OwnW W0 (EndH R s d L A c v' (m + 1)), y.w.cell? ⟨0, 0, none⟩ = some u := fun y => hgl.out y.w y.own
              clear hq ks kg
              rcases hq2 with rfl | ⟨rfl, rfl⟩
              all_goals
                refine wp_region_own H2.out (by kernel_rfl) (by kernel_rfl) ?_
                repeat (go_big_quiet_step ((go_at_call 29; exact own_quiet_call (HI.out _))))
                refine wpQuiet_nil ?_
                rintro _ ⟨y, rfl⟩
                go_wp2
                go_meet
                exact ⟨rfl, ⟨y.own⟩⟩
          case' rest =>
            obtain ⟨rfl, H3⟩ := hcut
            obtain ⟨q2, hq2⟩ : ∃ q2, (r2 || (al && r3)) = q2 := ⟨_, rfl⟩
            have hgo3 := hgo2.out
            rw [hq2] at hgo3 ⊢
            have hu2 := hu.out
            rw [hgo3] at hu2
            clear hq2 hgo2 hu ks kg H2 hgo3
            rcases q2 with _ | _
            · have hu3 : T = m + 1 := by simpa using hu2
              subst hu3
              go_wp2
              refine bodyPost_ret (results_none rfl _ _ _) rfl ?_
              exact ⟨rfl, _, H3.out⟩
            · have hu3 : Kp (backF (fun x => !goesF bt al x) (L.take m) = T) := ⟨by simpa using hu2.symm⟩
              have HX := Kp.mk (hP.out _ H3.out)
              clear hu2
              go_wp2_with fail
              refine HX.out.mono ?_
              rintro e wq ⟨rfl, v2, HQ⟩
              replace HQ := Kp.mk HQ
              go_wp2
              go_roundg m
              case rel => exact ⟨v2, by omega, hu3, HQ⟩
              case measure => omega
        · have hu2 := hu.out
          rw [hgo2.out] at hu2
          have hu3 : T = m + 1 := by simpa using hu2
          clear hu2 hu hgo2
          subst hu3
          go_wp2
          refine bodyPost_ret (results_none rfl _ _ _) rfl ?_
          exact ⟨rfl, _, H2.out⟩
end
end Go.Proofs.YtbijlkbfndkdcaaDoorSep
