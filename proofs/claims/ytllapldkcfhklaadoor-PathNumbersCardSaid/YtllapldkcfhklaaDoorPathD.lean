/- Own work: path.Hidden, Page, Dir by walks. -/
import Derived.Test.YtllapldkcfhklaaDoorPathDr
namespace Go.Proofs.YtllapldkcfhklaaDoorSep
open Go.RowKit Go.Lib Go.Proofs Go.Shelf
set_option maxHeartbeats 4000000 in
theorem path_Hidden {W0 w : World} {R : HP} {m : Int} (hm : MaxL W0 R m) (H : Own W0 w R) (l : List UInt8) (hl : l.length ≤ 100000) :
    Calls Tryd.prog 12 #[.string (str l)] w fun e w' => e = .returned (.bool (hiddenF l)) ∧ Own W0 w' R := by
  have hN : (splitF l).length ≤ 100001 := by have := partsGo_len l []; change (partsGo [] l).length ≤ _; omega
  rw [hiddenF]
  have HS := path_Split hm H l hl
  obtain ⟨L, hLe⟩ : ∃ L, splitF l = L := ⟨_, rfl⟩
  rw [hLe] at HS hN ⊢
  replace HS := Kp.mk HS
  clear hLe hm
  go_enter Tryd.func12, Tryd.ntmps12
  go_wp2_with fail
  refine HS.out.mono ?_
  rintro e w1 ⟨v, rfl, H1⟩
  obtain ⟨_, A, c, rfl, _⟩ := H1.sl (by decide)
  replace H1 := Kp.mk H1
  go_wp2
  go_loopg [8] L.length (fun gk v wr => ∃ pos : Nat, v = .int .i64 pos ∧ pos ≤ L.length ∧ Kp (gk + pos = L.length) ∧ Kp ((L.take pos).any lowF = false) ∧ Kp (Own W0 wr (R * Row 9 1 (.slice A L.length c) L.length (SV L))))
  case atStart => exact ⟨0, rfl, Nat.zero_le _, ⟨by omega⟩, ⟨by simp⟩, H1⟩
  case round =>
    obtain ⟨pos, rfl, hpos, hgk, hany, HO⟩ := hrel
    by_cases hlt : pos < L.length
    · obtain ⟨p, hpp⟩ : ∃ p, L[pos] = p := ⟨_, rfl⟩
      obtain ⟨Ak, ck, hk1, hk2⟩ := (HO.out.sl (by decide)).at_ pos hlt
      injection hk1 with q1 q2 q3
      subst q1 q3
      rw [SV_get L pos hlt p hpp] at hk2
      have hcut := any_cut (p := lowF) hlt hany.out
      have hhit := any_hit (p := lowF) hlt
      rw [hpp] at hcut hhit
      have hC := Tryd.strings_HasPrefix (str p) ⟨#[95]⟩ wr
      rw [show hasPrefix (str p).data.toList (ByteArray.mk #[95]).data.toList = lowF p by rw [lowF]; rfl] at hC
      generalize lowF p = q at hcut hhit hC
      replace hC := Kp.mk hC
      replace hcut := Kp.mk hcut
      replace hhit := Kp.mk hhit
      clear hpp
      go_wp2_with fail
      refine hC.out.mono ?_
      rintro e w1 ⟨rfl, rfl⟩
      rcases q with _ | _
      · go_wp2
        go_roundg (L.length - (pos + 1))
        case rel => exact ⟨pos + 1, by go_num, by omega, ⟨by omega⟩, hcut, HO⟩
        case measure => have := hgk.out; omega
      · go_wp2
        go_ret
        exact ⟨by rw [hhit.out trivial]; rfl, HO.out.drop⟩
    · obtain rfl : pos = L.length := by omega
      rw [List.take_length] at hany
      go_wp2
      go_ret
      exact ⟨by rw [hany.out]; rfl, HO.out.drop⟩
theorem path_Page {W0 w : World} {R : HP} {m : Int} (hm : MaxL W0 R m) (H : Own W0 w R) (l : List UInt8) (hl : l.length ≤ 100000) :
    Calls Tryd.prog 13 #[.string (str l)] w fun e w' => e = .returned (.bool (pageF l)) ∧ Own W0 w' R := by
  have hC := fun w => Tryd.strings_HasSuffix (str l) ⟨#[46, 104, 116, 109, 108]⟩ w (by rw [str_size]; omega)
  rw [show hasSuffix (str l).data.toList (ByteArray.mk #[46, 104, 116, 109, 108]).data.toList = hasSuffix l [46, 104, 116, 109, 108] from rfl] at hC
  rw [pageF]
  have HR := fun w (H : Own W0 w R) => path_Right hm H l hl
  have HH := fun w (H : Own W0 w R) => path_Hidden hm H l hl
  generalize rightF l = a at HR ⊢
  generalize hasSuffix l [46, 104, 116, 109, 108] = b at hC ⊢
  generalize hiddenF l = c at HH ⊢
  replace hC := Kp.mk hC
  replace HR := Kp.mk HR
  replace HH := Kp.mk HH
  have H := Kp.mk H
  go_enter Tryd.func13, Tryd.ntmps13
  go_wp2_with fail
  refine (HR.out w H.out).mono ?_
  rintro e w1 ⟨rfl, H1⟩
  replace H1 := Kp.mk H1
  rcases a with _ | _
  · go_wp2
    go_ret
    exact ⟨rfl, H1.out⟩
  go_wp2_with fail
  refine (hC.out _).mono ?_
  rintro e w1 ⟨rfl, rfl⟩
  rcases b with _ | _
  · go_wp2
    go_ret
    exact ⟨rfl, H1.out⟩
  go_wp2_with fail
  refine (HH.out _ H1.out).mono ?_
  rintro e w1 ⟨rfl, H2⟩
  replace H2 := Kp.mk H2
  go_wp2
  go_ret
  exact ⟨rfl, H2.out⟩
theorem path_Dir {W0 w : World} {R : HP} (H : Own W0 w R) (l : List UInt8) (hl : l.length ≤ 100000) :
    Calls Tryd.prog 14 #[.string (str l)] w fun e w' => e = .returned (.string (str (dirF l))) ∧ Own W0 w' R := by
  obtain ⟨h1, h2, h3⟩ := last_at l
  have hd : (dirF l).length ≤ l.length := by have := congrArg List.length (dir_last l); simp at this; omega
  have hsz : (str l).size = l.length := str_size l
  have hx : (str l).extract 0 (dirF l).length = str (dirF l) := by rw [ext_take, str_data, ← h2, h1]
  have hC := fun w => Tryd.strings_LastIndexByte (str l) 47 (by rw [str_size]; omega) w
  generalize lastIndexByte (str l) 47 = r at h3 hC
  obtain rfl : r = ((dirF l).length : Int) - 1 := by omega
  generalize dirF l = d at hd hx hC ⊢
  clear h1 h2 h3
  replace hx := Kp.mk hx
  replace hC := Kp.mk hC
  have H := Kp.mk H
  have g1 : d.length ≤ (str l).size := by omega
  have g2 : ((d.length : Int) - 1 + 1) = (d.length : Int) := by omega
  go_enter Tryd.func14, Tryd.ntmps14
  go_wp2_with fail
  refine (hC.out _).mono ?_
  rintro e w1 ⟨rfl, rfl⟩
  go_wp2
  go_ret
  exact ⟨by rw [← hx.out]; simp, H.out⟩
end Go.Proofs.YtllapldkcfhklaaDoorSep
