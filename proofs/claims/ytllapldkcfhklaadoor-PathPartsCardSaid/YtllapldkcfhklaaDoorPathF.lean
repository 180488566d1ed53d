/- Own work: the law's right by a walk. -/
import Derived.Test.YtllapldkcfhklaaDoorPathE
namespace Go.Proofs.YtllapldkcfhklaaDoorSep
open Go.RowKit Go.Lib Go.Proofs Go.Shelf
theorem all_cutL {α : Type} {l : List α} {p : α → Bool} {k : Nat} (h : k < l.length) (hp : (l.take k).all p = true) : (l.take (k + 1)).all p = p l[k] := by
  rw [List.take_add_one, List.getElem?_eq_getElem h, List.all_append, hp]
  simp
theorem all_badL {α : Type} {l : List α} {p : α → Bool} {k : Nat} (h : k < l.length) (hp : p l[k] = false) : l.all p = false := by
  rw [List.all_eq_false]
  exact ⟨_, List.getElem_mem h, by simp [hp]⟩
set_option maxHeartbeats 8000000 in
theorem law_right {W0 w : World} {R : HP} (H : Own W0 w R) (l : List UInt8) (hl : l.length ≤ 100000) :
    Calls Tryd.prog 11 #[.string (str l)] w fun e w' => e = .returned (.bool (rightF l)) ∧ Own W0 w' R := by
  have hsz : (str l).size = l.length := str_size l
  have hN : (splitF l).length ≤ 100001 := by have := partsGo_len l []; change (partsGo [] l).length ≤ _; omega
  have hps : ∀ p ∈ splitF l, p.length ≤ 100000 := fun p h => Nat.le_trans (splitF_each l p h) hl
  have HS := law_parts H (str l) (by omega)
  rw [str_data] at HS
  have hn : rightF l = (decide (1 ≤ l.length ∧ l.length ≤ 200) && decide ((splitF l).length ≤ 16) && (splitF l).all partF) := rfl
  obtain ⟨L, hLe⟩ : ∃ L, splitF l = L := ⟨_, rfl⟩
  rw [hLe] at HS hN hps hn
  replace HS := Kp.mk HS
  clear hLe H
  by_cases h0 : ¬ (1 ≤ l.length ∧ l.length ≤ 200 ∧ L.length ≤ 16)
  · have hr : rightF l = false := by
      rw [hn]
      by_cases g : 1 ≤ l.length ∧ l.length ≤ 200
      · rw [decide_eq_true g, decide_eq_false (p := L.length ≤ 16) (by omega)]; rfl
      · rw [decide_eq_false g]; rfl
    rw [hr]
    clear hn hr hps
    go_enter Tryd.func11, Tryd.ntmps11
    go_wp2_with fail
    refine HS.out.mono ?_
    rintro e w1 ⟨v, rfl, H1⟩
    obtain ⟨_, A, c, rfl, _⟩ := H1.sl (by decide)
    replace H1 := Kp.mk H1
    by_cases g1 : l.length < 1
    · have t1 : decide (((str l).size : Int) < 1) = true := decide_eq_true (by omega)
      have t1' : (str l).size < 1 := by omega
      clear h0 hsz hl
      go_wp2
      go_ret
      exact ⟨rfl, H1.out.drop⟩
    have t1 : decide (((str l).size : Int) < 1) = false := decide_eq_false (by omega)
    have t1' : ¬ (str l).size < 1 := by omega
    by_cases g2 : 200 < l.length
    · have t2 : decide ((200 : Int) < ((str l).size : Int)) = true := decide_eq_true (by omega)
      have t2' : 200 < (str l).size := by omega
      clear h0 hsz hl
      go_wp2
      go_ret
      exact ⟨rfl, H1.out.drop⟩
    have t2 : decide ((200 : Int) < ((str l).size : Int)) = false := decide_eq_false (by omega)
    have t2' : ¬ 200 < (str l).size := by omega
    have t3 : decide ((16 : Int) < (L.length : Int)) = true := decide_eq_true (by omega)
    have t3' : 16 < L.length := by omega
    clear h0 hsz hl
    go_wp2
    go_ret
    exact ⟨rfl, H1.out.drop⟩
  have h0' : 1 ≤ l.length ∧ l.length ≤ 200 ∧ L.length ≤ 16 := Classical.not_not.1 h0
  clear h0
  have hr : rightF l = L.all partF := by rw [hn, decide_eq_true ⟨h0'.1, h0'.2.1⟩, decide_eq_true h0'.2.2]; rfl
  rw [hr]
  clear hn hr
  have t1 : decide (((str l).size : Int) < 1) = false := decide_eq_false (by omega)
  have t1' : ¬ (str l).size < 1 := by omega
  have t2 : decide ((200 : Int) < ((str l).size : Int)) = false := decide_eq_false (by omega)
  have t2' : ¬ 200 < (str l).size := by omega
  have t3 : decide ((16 : Int) < (L.length : Int)) = false := decide_eq_false (by omega)
  have t3' : ¬ 16 < L.length := by omega
  clear h0' hsz hl
  replace hps := Kp.mk hps
  go_enter Tryd.func11, Tryd.ntmps11
  go_wp2_with fail
  refine HS.out.mono ?_
  rintro e w1 ⟨v, rfl, H1⟩
  obtain ⟨_, A, c, rfl, _⟩ := H1.sl (by decide)
  replace H1 := Kp.mk H1
  go_wp2
  go_loopg [25] L.length (fun gk v wr => ∃ pos : Nat, v = .int .i64 pos ∧ pos ≤ L.length ∧ Kp (gk + pos = L.length) ∧ Kp ((L.take pos).all partF = true) ∧ Kp (Own W0 wr (R * Row 9 1 (.slice A L.length c) L.length (SV L))))
  case atStart => exact ⟨0, rfl, Nat.zero_le _, ⟨by omega⟩, ⟨by simp⟩, H1⟩
  case round =>
    obtain ⟨pos, rfl, hpos, hgk, hall, HO⟩ := hrel
    by_cases hlt : pos < L.length
    · obtain ⟨p, hpp⟩ : ∃ p, L[pos] = p := ⟨_, rfl⟩
      obtain ⟨Ak, ck, hk1, hk2⟩ := (HO.out.sl (by decide)).at_ pos hlt
      injection hk1 with q1 q2 q3
      subst q1 q3
      rw [SV_get L pos hlt p hpp] at hk2
      have hple : p.length ≤ 100000 := hps.out p (hpp ▸ List.getElem_mem hlt)
      have hcut := all_cutL (p := partF) hlt hall.out
      have hbad := all_badL (p := partF) hlt
      rw [hpp] at hcut hbad
      obtain ⟨b0, hb0⟩ : ∃ b, decide (p = []) = b := ⟨_, rfl⟩
      obtain ⟨b1, hb1⟩ : ∃ b, decide (p = [46]) = b := ⟨_, rfl⟩
      obtain ⟨b2, hb2⟩ : ∃ b, decide (p = [46, 46]) = b := ⟨_, rfl⟩
      have s0 : (str p).toList.isEmpty = b0 := by rw [str_toList, ← hb0]; cases p <;> simp
      have s1 : ((str p).toList == [46]) = b1 := by rw [str_toList, ← hb1, Bool.eq_iff_iff]; simp
      have s2 : ((str p).toList == [46, 46]) = b2 := by rw [str_toList, ← hb2, Bool.eq_iff_iff]; simp
      have hn : partF p = (!(b0 || b1 || b2) && p.all fun c => okN c.toNat) := by
        rw [partF, hb0, hb1, hb2]
        rfl
      rw [hn] at hcut hbad
      have hpz : (str p).size = p.length := str_size p
      clear hb0 hb1 hb2 hpp hn
      by_cases hb : (b0 || b1 || b2) = true
      · rw [hb] at hbad
        replace hbad := Kp.mk (hbad rfl)
        clear hcut
        rcases b0 with _ | _ <;> rcases b1 with _ | _ <;> rcases b2 with _ | _ <;> first | (cases hb; done) | skip
        all_goals
          clear hb
          go_wp2
          go_ret
          exact ⟨by first | rfl | (rw [hbad.out]; rfl), HO.out.drop⟩
      obtain ⟨rfl, rfl, rfl⟩ : b0 = false ∧ b1 = false ∧ b2 = false := by
        revert hb; cases b0 <;> cases b1 <;> cases b2 <;> simp
      rw [show (!(false || false || false) && p.all fun c => okN c.toNat) = p.all fun c => okN c.toNat from rfl] at hcut hbad
      replace hcut := Kp.mk hcut
      replace hbad := Kp.mk hbad
      replace hpz := Kp.mk hpz
      clear hb
      go_wp2
      go_loopg [6] p.length (fun gj v wr => ∃ j : Nat, v = .int .i64 j ∧ j ≤ p.length ∧ Kp (gj + j = p.length) ∧ Kp ((p.take j).all (fun c => okN c.toNat) = true) ∧ Kp (Own W0 wr (R * Row 9 1 (.slice (some Ak) L.length c) L.length (SV L))))
      case atStart => exact ⟨0, rfl, Nat.zero_le _, ⟨by omega⟩, ⟨by simp⟩, HO⟩
      case round =>
        obtain ⟨j, rfl, hj, hgj, haj, HJ⟩ := hrel
        by_cases hjt : j < p.length
        · have u1 : decide ((j : Int) < ((str p).size : Int)) = true := decide_eq_true (by rw [hpz.out]; omega)
          have u1' : j < (str p).size := by rw [hpz.out]; exact hjt
          have hat := str_at p j u1'
          generalize hy : p[j]'hjt = y at hat
          have hbd : okN y.toNat = false → (p.all fun c => okN c.toNat) = false := fun hb => all_bad (p := fun c => okN c.toNat) hjt (by show okN (p[j]'hjt).toNat = false; rw [hy]; exact hb)
          have hgd : (p.take (j + 1)).all (fun c => okN c.toNat) = okN y.toNat := (all_cut hjt haj.out).trans (by show okN (p[j]'hjt).toNat = _; rw [hy])
          clear hy
          obtain ⟨x, hx⟩ : ∃ x, y.toNat = x := ⟨_, rfl⟩
          have hxb : x < 256 := by rw [← hx]; exact y.toNat_lt
          rw [hx] at hbd hgd
          rcases ok_cases x with h | h | h | h | ⟨h, h'⟩ | ⟨h, h'⟩ | ⟨h, h'⟩ | ⟨h, h'⟩ | h | h | ⟨h, h'⟩ | h
          all_goals
            first
              | have e : okN x = false := by simp [okN]; omega
              | have e : okN x = true := by simp [okN]; omega
          all_goals
            try have p1 : decide ((97 : Int) ≤ (x : Int)) = true := decide_eq_true (by omega)
            try have p1 : decide ((97 : Int) ≤ (x : Int)) = false := decide_eq_false (by omega)
            try have p2 : decide ((x : Int) ≤ 122) = true := decide_eq_true (by omega)
            try have p2 : decide ((x : Int) ≤ 122) = false := decide_eq_false (by omega)
            try have q1 : decide ((65 : Int) ≤ (x : Int)) = true := decide_eq_true (by omega)
            try have q1 : decide ((65 : Int) ≤ (x : Int)) = false := decide_eq_false (by omega)
            try have q2 : decide ((x : Int) ≤ 90) = true := decide_eq_true (by omega)
            try have q2 : decide ((x : Int) ≤ 90) = false := decide_eq_false (by omega)
            try have p3 : decide ((48 : Int) ≤ (x : Int)) = true := decide_eq_true (by omega)
            try have p3 : decide ((48 : Int) ≤ (x : Int)) = false := decide_eq_false (by omega)
            try have p4 : decide ((x : Int) ≤ 57) = true := decide_eq_true (by omega)
            try have p4 : decide ((x : Int) ≤ 57) = false := decide_eq_false (by omega)
            try have p5 : ((x : Int) == 46) = true := by rw [beq_iff_eq]; omega
            try have p5 : ((x : Int) == 46) = false := by rw [beq_eq_false_iff_ne]; omega
            try have p6 : ((x : Int) == 45) = true := by rw [beq_iff_eq]; omega
            try have p6 : ((x : Int) == 45) = false := by rw [beq_eq_false_iff_ne]; omega
            try have p7 : ((x : Int) == 95) = true := by rw [beq_iff_eq]; omega
            try have p7 : ((x : Int) == 95) = false := by rw [beq_eq_false_iff_ne]; omega
            try have r5 : ((x : Int) != 46) = true := by rw [bne_iff_ne]; omega
            try have r5 : ((x : Int) != 46) = false := by rw [bne_eq_false_iff_eq]; omega
            try have r6 : ((x : Int) != 45) = true := by rw [bne_iff_ne]; omega
            try have r6 : ((x : Int) != 45) = false := by rw [bne_eq_false_iff_eq]; omega
            try have r7 : ((x : Int) != 95) = true := by rw [bne_iff_ne]; omega
            try have r7 : ((x : Int) != 95) = false := by rw [bne_eq_false_iff_eq]; omega
            first
              | (rw [e] at hgd
                 replace hgd := Kp.mk hgd
                 clear hbd e
                 go_wp2
                 go_roundg (p.length - (j + 1))
                 case rel => exact ⟨j + 1, by go_num, by omega, ⟨by omega⟩, hgd, HJ⟩
                 case measure => have := hgj.out; omega)
              | (have hbd2 := Kp.mk (hbd e)
                 clear hbd hgd e
                 go_wp2
                 go_ret
                 exact ⟨by rw [hbad.out hbd2.out]; rfl, HJ.out.drop⟩)
        · have u1 : decide ((j : Int) < ((str p).size : Int)) = false := decide_eq_false (by rw [hpz.out]; omega)
          have u1' : ¬ j < (str p).size := by rw [hpz.out]; exact hjt
          obtain rfl : j = p.length := by omega
          rw [List.take_length] at haj
          have hc2 := Kp.mk (hcut.out.trans haj.out)
          clear hcut hbad haj
          go_wp2
          go_roundg (L.length - (pos + 1))
          case rel => exact ⟨pos + 1, by go_num, by omega, ⟨by omega⟩, hc2, HJ⟩
          case measure => have := hgk.out; omega
    · obtain rfl : pos = L.length := by omega
      rw [List.take_length] at hall
      go_wp2
      go_ret
      exact ⟨by rw [hall.out]; rfl, HO.out.drop⟩
end Go.Proofs.YtllapldkcfhklaaDoorSep
