/- Own work: path.Right, Hidden, Page, Dir by walks. -/
import Derived.Test.YtllapldkcfhklaaDoorPathC
namespace Go.Proofs.YtllapldkcfhklaaDoorSep
open Go.RowKit Go.Lib Go.Proofs Go.Shelf

theorem splitF_each (l p : List UInt8) (h : p ∈ splitF l) : p.length ≤ l.length := by
  have := partsGo_each l [] p h
  simpa using this
theorem not_any (L : List (List UInt8)) : (!L.any fun p => !partF p) = L.all partF := by
  rw [List.not_any_eq_all_not]
  simp
set_option maxHeartbeats 4000000 in
theorem path_Right {W0 w : World} {R : HP} {m : Int} (hm : MaxL W0 R m) (H : Own W0 w R) (l : List UInt8) (hl : l.length ≤ 100000) :
    Calls Tryd.prog 10 #[.string (str l)] w fun e w' => e = .returned (.bool (rightF l)) ∧ Own W0 w' R := by
  have hsz : (str l).size = l.length := str_size l
  have H := Kp.mk H
  by_cases h0 : l.length = 0
  · have hn : rightF l = false := by rw [rightF, decide_eq_false (by omega)]; rfl
    rw [hn]
    have t1 : (((str l).size : Int) == 0) = true := by rw [beq_iff_eq]; omega
    have t1' : (str l).size = 0 := by omega
    clear hn
    rw [h0] at hsz
    clear h0
    go_enter Tryd.func10, Tryd.ntmps10
    go_wp2
    go_ret
    exact ⟨rfl, H.out⟩
  have t1 : (((str l).size : Int) == 0) = false := by rw [beq_eq_false_iff_ne]; omega
  have t1' : ¬ (str l).size = 0 := by omega
  by_cases h8 : 200 < l.length
  · have hn : rightF l = false := by rw [rightF, decide_eq_false (by omega)]; rfl
    rw [hn]
    have t2 : decide ((200 : Int) < ((str l).size : Int)) = true := decide_eq_true (by omega)
    have t2' : 200 < (str l).size := by omega
    clear hn h0 hsz h8
    go_enter Tryd.func10, Tryd.ntmps10
    go_wp2
    go_ret
    exact ⟨rfl, H.out⟩
  have t2 : decide ((200 : Int) < ((str l).size : Int)) = false := decide_eq_false (by omega)
  have t2' : ¬ 200 < (str l).size := by omega
  have hlen : l.length ≤ 200 := by omega
  have hn : rightF l = (decide ((splitF l).length ≤ 16) && (splitF l).all partF) := by
    rw [rightF, show decide (1 ≤ l.length ∧ l.length ≤ 200) = true from decide_eq_true ⟨by omega, by omega⟩, Bool.true_and]
  rw [hn]
  have he := fun p h => Nat.le_trans (splitF_each l p h) (Nat.le_trans hlen (by decide : 200 ≤ 1000))
  have hN : (splitF l).length ≤ 100000 := by have := partsGo_len l []; change (partsGo [] l).length ≤ _; omega
  have hna := not_any (splitF l)
  have HS := path_Split hm H.out l hl
  obtain ⟨L, hLe⟩ : ∃ L, splitF l = L := ⟨_, rfl⟩
  rw [hLe] at HS hna hN he ⊢
  replace HS := Kp.mk HS
  replace he := Kp.mk he
  clear hn h0 hsz h8 hLe hm
  by_cases h16 : 16 < L.length
  · have g1 : decide ((L.length : Int) ≤ 16) = false := decide_eq_false (by omega)
    have g1' : ¬ L.length ≤ 16 := by omega
    have g2 : decide (L.length ≤ 16) = false := decide_eq_false (by omega)
    rw [g2]
    clear hna
    go_enter Tryd.func10, Tryd.ntmps10
    go_wp2_with fail
    refine HS.out.mono ?_
    rintro e w1 ⟨v, rfl, H1⟩
    obtain ⟨_, A, c, rfl, _⟩ := H1.sl (by decide)
    replace H1 := Kp.mk H1
    go_wp2
    go_ret
    exact ⟨rfl, H1.out.drop⟩
  · have g1 : decide ((L.length : Int) ≤ 16) = true := decide_eq_true (by omega)
    have g1' : L.length ≤ 16 := by omega
    have g2 : decide (L.length ≤ 16) = true := decide_eq_true (by omega)
    rw [g2, ← hna]
    have hC := fun w v (H1 : Own W0 w (R * Row 9 1 v L.length (SV L))) => path_ContainsFunc L hN he.out H1
    obtain ⟨q, hq⟩ : ∃ q, L.any (fun p => !partF p) = q := ⟨_, rfl⟩
    rw [hq] at hC ⊢
    replace hC := Kp.mk hC
    clear hq hna
    go_enter Tryd.func10, Tryd.ntmps10
    go_wp2_with fail
    refine HS.out.mono ?_
    rintro e w1 ⟨v, rfl, H1⟩
    obtain ⟨_, A, c, rfl, _⟩ := H1.sl (by decide)
    replace H1 := Kp.mk H1
    go_wp2_with fail
    refine (hC.out _ _ H1.out).mono ?_
    rintro e w1 ⟨rfl, H2⟩
    replace H2 := Kp.mk H2
    go_wp2
    go_ret
    exact ⟨rfl, H2.out.drop⟩
set_option maxHeartbeats 4000000 in
theorem path_Hidden {W0 w : World} {R : HP} {m : Int} (hm : MaxL W0 R m) (H : Own W0 w R) (l : List UInt8) (hl : l.length ≤ 100000) :
    Calls Tryd.prog 12 #[.string (str l)] w fun e w' => e = .returned (.bool (hiddenF l)) ∧ Own W0 w' R := by
  have hN : (splitF l).length ≤ 100001 := by have := partsGo_len l []; change (partsGo [] l).length ≤ _; omega
  rw [hiddenF]
  have HS := path_Split hm H l hl
  obtain ⟨L, hLe⟩ : ∃ L, splitF l = L := ⟨_, rfl⟩
  rw [hLe] at HS hN ⊢
  replace HS := Kp.mk HS
  clear hLe hm
  go_enter Tryd.func12, Tryd.ntmps12
  go_wp2_with fail
  refine HS.out.mono ?_
  rintro e w1 ⟨v, rfl, H1⟩
  obtain ⟨_, A, c, rfl, _⟩ := H1.sl (by decide)
  replace H1 := Kp.mk H1
  go_wp2
  go_loopg [8] L.length (fun gk v wr => ∃ pos : Nat, v = .int .i64 pos ∧ pos ≤ L.length ∧ Kp (gk + pos = L.length) ∧ Kp ((L.take pos).any lowF = false) ∧ Kp (Own W0 wr (R * Row 9 1 (.slice A L.length c) L.length (SV L))))
  case atStart => exact ⟨0, rfl, Nat.zero_le _, ⟨by omega⟩, ⟨by simp⟩, H1⟩
  case round =>
    obtain ⟨pos, rfl, hpos, hgk, hany, HO⟩ := hrel
    by_cases hlt : pos < L.length
    · obtain ⟨p, hpp⟩ : ∃ p, L[pos] = p := ⟨_, rfl⟩
      obtain ⟨Ak, ck, hk1, hk2⟩ := (HO.out.sl (by decide)).at_ pos hlt
      injection hk1 with q1 q2 q3
      subst q1 q3
      rw [SV_get L pos hlt p hpp] at hk2
      have hcut := any_cut (p := lowF) hlt hany.out
      have hhit := any_hit (p := lowF) hlt
      rw [hpp] at hcut hhit
      have hC := Tryd.strings_HasPrefix (str p) ⟨#[95]⟩ wr
      rw [show hasPrefix (str p).data.toList (ByteArray.mk #[95]).data.toList = lowF p by rw [lowF]; rfl] at hC
      generalize lowF p = q at hcut hhit hC
      replace hC := Kp.mk hC
      replace hcut := Kp.mk hcut
      replace hhit := Kp.mk hhit
      clear hpp
      go_wp2_with fail
      refine hC.out.mono ?_
      rintro e w1 ⟨rfl, rfl⟩
      rcases q with _ | _
      · go_wp2
        go_roundg (L.length - (pos + 1))
        case rel => exact ⟨pos + 1, by go_num, by omega, ⟨by omega⟩, hcut, HO⟩
        case measure => have := hgk.out; omega
      · go_wp2
        go_ret
        exact ⟨by rw [hhit.out trivial]; rfl, HO.out.drop⟩
    · obtain rfl : pos = L.length := by omega
      rw [List.take_length] at hany
      go_wp2
      go_ret
      exact ⟨by rw [hany.out]; rfl, HO.out.drop⟩
theorem path_Page {W0 w : World} {R : HP} {m : Int} (hm : MaxL W0 R m) (H : Own W0 w R) (l : List UInt8) (hl : l.length ≤ 100000) :
    Calls Tryd.prog 13 #[.string (str l)] w fun e w' => e = .returned (.bool (pageF l)) ∧ Own W0 w' R := by
  have hC := fun w => Tryd.strings_HasSuffix (str l) ⟨#[46, 104, 116, 109, 108]⟩ w (by rw [str_size]; omega)
  rw [show hasSuffix (str l).data.toList (ByteArray.mk #[46, 104, 116, 109, 108]).data.toList = hasSuffix l [46, 104, 116, 109, 108] from rfl] at hC
  rw [pageF]
  have HR := fun w (H : Own W0 w R) => path_Right hm H l hl
  have HH := fun w (H : Own W0 w R) => path_Hidden hm H l hl
  generalize rightF l = a at HR ⊢
  generalize hasSuffix l [46, 104, 116, 109, 108] = b at hC ⊢
  generalize hiddenF l = c at HH ⊢
  replace hC := Kp.mk hC
  replace HR := Kp.mk HR
  replace HH := Kp.mk HH
  have H := Kp.mk H
  go_enter Tryd.func13, Tryd.ntmps13
  go_wp2_with fail
  refine (HR.out w H.out).mono ?_
  rintro e w1 ⟨rfl, H1⟩
  replace H1 := Kp.mk H1
  rcases a with _ | _
  · go_wp2
    go_ret
    exact ⟨rfl, H1.out⟩
  go_wp2_with fail
  refine (hC.out _).mono ?_
  rintro e w1 ⟨rfl, rfl⟩
  rcases b with _ | _
  · go_wp2
    go_ret
    exact ⟨rfl, H1.out⟩
  go_wp2_with fail
  refine (HH.out _ H1.out).mono ?_
  rintro e w1 ⟨rfl, H2⟩
  replace H2 := Kp.mk H2
  go_wp2
  go_ret
  exact ⟨rfl, H2.out⟩
theorem path_Dir {W0 w : World} {R : HP} (H : Own W0 w R) (l : List UInt8) (hl : l.length ≤ 100000) :
    Calls Tryd.prog 14 #[.string (str l)] w fun e w' => e = .returned (.string (str (dirF l))) ∧ Own W0 w' R := by
  obtain ⟨h1, h2, h3⟩ := last_at l
  have hd : (dirF l).length ≤ l.length := by have := congrArg List.length (dir_last l); simp at this; omega
  have hsz : (str l).size = l.length := str_size l
  have hx : (str l).extract 0 (dirF l).length = str (dirF l) := by rw [ext_take, str_data, ← h2, h1]
  have hC := fun w => Tryd.strings_LastIndexByte (str l) 47 (by rw [str_size]; omega) w
  generalize lastIndexByte (str l) 47 = r at h3 hC
  obtain rfl : r = ((dirF l).length : Int) - 1 := by omega
  generalize dirF l = d at hd hx hC ⊢
  clear h1 h2 h3
  replace hx := Kp.mk hx
  replace hC := Kp.mk hC
  have H := Kp.mk H
  have g1 : d.length ≤ (str l).size := by omega
  have g2 : ((d.length : Int) - 1 + 1) = (d.length : Int) := by omega
  go_enter Tryd.func14, Tryd.ntmps14
  go_wp2_with fail
  refine (hC.out _).mono ?_
  rintro e w1 ⟨rfl, rfl⟩
  go_wp2
  go_ret
  exact ⟨by rw [← hx.out]; simp, H.out⟩
end Go.Proofs.YtllapldkcfhklaaDoorSep
