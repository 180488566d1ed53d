/- Own work: attributes that are alike, whatever their order, by a walk. -/
import Derived.Test.YtbijlkbfndkdcaaDoorOfA
namespace Go.Proofs.YtbijlkbfndkdcaaDoorSep
open Go.RowKit Go.Lib Go.Proofs
def hitA (B : List At) (x : At) : Bool := match getAt B x.1 with | some y => decide (y.2 = x.2) | none => false
def alikeA (A B : List At) : Bool := decide (A.length = B.length) && A.all (hitA B)
theorem all_cut {α : Type} {l : List α} {p : α → Bool} {k : Nat} {x : α} (hx : l[k]? = some x) (h : (l.take k).all p = true) (hp : p x = true) : (l.take (k + 1)).all p = true := by
  rw [List.take_add_one, hx, List.all_append, h]
  simp [hp]
theorem all_miss {α : Type} {l : List α} {p : α → Bool} {k : Nat} {x : α} (hx : l[k]? = some x) (hp : p x = false) : l.all p = false := by
  rw [List.all_eq_false]
  exact ⟨x, List.mem_of_getElem? hx, by rw [hp]; simp⟩
set_option maxHeartbeats 2000000 in
theorem token_Alike {W0 w : World} {R : HP} {av bv : Value} {A B : List At} (H : Own W0 w R) (HA : Held W0 R av 2 A.length (attrC A)) (HB : Held W0 R bv 2 B.length (attrC B)) (hA : A.length ≤ 100000) (hB : B.length ≤ 100000) :
    Calls Tryd.prog 30 #[av, bv] w fun e w' => e = .returned (.bool (alikeA A B)) ∧ Own W0 w' R := by
  obtain ⟨_, Aa, ca, rfl, _⟩ := HA.sl H
  obtain ⟨_, Ab, cb, rfl, _⟩ := HB.sl H
  obtain ⟨T, hT⟩ : ∃ T, Kp (alikeA A B = T) := ⟨_, ⟨rfl⟩⟩
  rw [hT.out]
  have HG := Kp.mk (fun w9 (Y : HP) (h : Own W0 w9 (R * Y)) (n : List UInt8) => token_Get h HB.more hB n)
  replace HA := Kp.mk HA
  replace H := Kp.mk H
  clear HB
  by_cases hl : A.length = B.length
  case neg =>
    have hT0 : T = false := by rw [← hT.out, alikeA, decide_eq_false hl, Bool.false_and]
    subst hT0
    have f1 : ((A.length : Int) == (B.length : Int)) = false := by rw [beq_eq_false_iff_ne]; omega
    have f2 : ((A.length : Int) != (B.length : Int)) = true := by rw [bne_iff_ne]; omega
    clear hl
    go_enter Tryd.func30, Tryd.ntmps30
    go_wp2
    go_ret
    exact ⟨rfl, H.out⟩
  case pos =>
    have hT1 : Kp (T = A.all (hitA B)) := ⟨by rw [← hT.out, alikeA, decide_eq_true hl, Bool.true_and]⟩
    rw [← hl] at HG ⊢
    clear hl hT
    go_enter Tryd.func30, Tryd.ntmps30
    go_wp2
    go_loopg [16] A.length (fun gk v wr => ∃ pos : Nat, v = .int .i64 pos ∧ pos ≤ A.length ∧ Kp (gk + pos = A.length) ∧ Kp ((A.take pos).all (hitA B) = true) ∧ Kp (Own W0 wr R))
    case atStart => exact ⟨0, rfl, Nat.zero_le _, ⟨by omega⟩, ⟨rfl⟩, H⟩
    case round =>
      obtain ⟨pos, rfl, hpos, hgk, hall, HO⟩ := hrel
      by_cases hlt : pos < A.length
      · obtain ⟨x, hx⟩ : ∃ x, A[pos]? = some x := ⟨_, List.getElem?_eq_getElem hlt⟩
        obtain ⟨ad, cc, hv, g0, g1⟩ := (HA.out.sl HO.out).elem pos hlt
        injection hv with q1 q2 q3
        subst q1 q3
        have c0 := g0 _ (attrC_get A pos x hx).1
        have c1 := g1 0 _ (attrC_get A pos x hx).2
        have HX := HG.out _ _ (HO.out.alloc (.cells #[.string (str x.1), .string (str x.2)] 42)) x.1
        have hit : hitA B x = match getAt B x.1 with | some y => decide (y.2 = x.2) | none => false := rfl
        obtain ⟨o, ho⟩ : ∃ o, getAt B x.1 = o := ⟨_, rfl⟩
        rw [ho] at HX hit
        clear g0 g1 H
        rcases o with _ | y
        · have hT2 : T = false := hT1.out.trans (all_miss hx hit)
          subst hT2
          unfold getV at HX
          dsimp only at HX
          replace HX := Kp.mk HX
          clear hit hx ho
          go_wp2_with fail
          refine HX.out.mono ?_
          rintro e w2 ⟨rfl, H2⟩
          replace H2 := Kp.mk H2.drop
          go_wp2
          go_ret
          exact ⟨rfl, H2.out⟩
        · unfold getV at HX
          dsimp only at HX hit
          replace HX := Kp.mk HX
          have ee := str_beq y.2 x.2
          by_cases hq : y.2 = x.2
          · rw [decide_eq_true hq] at ee hit
            have hc := Kp.mk (all_cut hx hall.out hit)
            clear hit hx ho hq
            go_wp2_with fail
            refine HX.out.mono ?_
            rintro e w2 ⟨rfl, H2⟩
            have kx := cell_blk (j := 1) (v := .string (str x.2)) H2.blk rfl
            replace H2 := Kp.mk H2.drop
            go_wp2
            go_roundg (A.length - (pos + 1))
            case rel => exact ⟨pos + 1, by go_num, by omega, ⟨by omega⟩, hc, H2⟩
            case measure => have := hgk.out; omega
          · rw [decide_eq_false hq] at ee hit
            have hT2 : T = false := hT1.out.trans (all_miss hx hit)
            subst hT2
            clear hit hx ho hq
            go_wp2_with fail
            refine HX.out.mono ?_
            rintro e w2 ⟨rfl, H2⟩
            have kx := cell_blk (j := 1) (v := .string (str x.2)) H2.blk rfl
            replace H2 := Kp.mk H2.drop
            go_wp2
            go_ret
            exact ⟨rfl, H2.out⟩
      · obtain rfl : pos = A.length := by omega
        rw [List.take_length] at hall
        have hT2 : T = true := hT1.out.trans hall.out
        subst hT2
        clear hall
        go_wp2
        go_ret
        exact ⟨rfl, HO.out⟩
end Go.Proofs.YtbijlkbfndkdcaaDoorSep
