/- Own work: slices.BinarySearch at texts, by a walk. -/
import Derived.Test.YtllapldkcfhklaaDoorTabP
import Derived.Test.YtllapldkcfhklaaDoorQuiet
import Derived.Test.YtllapldkcfhklaaDoorProg
namespace Go.Proofs.YtllapldkcfhklaaDoorSep
open Go.RowKit Go.Lib Go.Proofs

theorem cmp_isNaN (x : ByteArray) (w : World) : Calls Tryd.prog 68 #[.string x] w fun e w' => e = .returned (.bool false) ∧ w' = w := by
  go_enter Tryd.func68, Tryd.ntmps68
  go_wp2
  go_ret
  exact ⟨by simp, rfl⟩
theorem slices_isNaN (x : ByteArray) (w : World) : Calls Tryd.prog 60 #[.string x] w fun e w' => e = .returned (.bool false) ∧ w' = w := by
  go_enter Tryd.func60, Tryd.ntmps60
  go_wp2
  go_ret
  exact ⟨by simp, rfl⟩
theorem cmp_Less (a b : List UInt8) (w : World) : Calls Tryd.prog 59 #[.string (str a), .string (str b)] w fun e w' => e = .returned (.bool (ltB a b)) ∧ w' = w := by
  have h1 : (str a).toList = a := str_toList a
  have h2 : (str b).toList = b := str_toList b
  have hn := Kp.mk (cmp_isNaN (str a) w)
  have hl : Op.bytesLess a b = ltB a b := rfl
  go_enter Tryd.func59, Tryd.ntmps59
  go_wp2_with fail
  refine hn.out.mono ?_
  rintro e w1 ⟨rfl, rfl⟩
  go_wp2
  go_ret
  exact ⟨rfl, rfl⟩
set_option maxHeartbeats 4000000 in
theorem bin_search {w : World} {g n c : Nat} {K : List (List UInt8)} (x : List UInt8) (hK : sortedK K) (hn : K.length = n) (hb : n ≤ 1000000)
    (hc : ∀ j (h : j < K.length), w.cell? ⟨g, j, none⟩ = some (.string (str K[j]))) :
    Calls Tryd.prog 51 #[.slice (some ⟨g, 0, none⟩) n c, .string (str x)] w fun e w' => e = .returned (.tuple #[.int .i64 (posF K x : Nat), .bool (hasK K x)]) ∧ w' = w := by
  obtain ⟨I, hI⟩ : ∃ I, Kp (posF K x = I) := ⟨_, ⟨rfl⟩⟩
  have hle := posF_le x K
  have hbe := posF_below x K
  have hab := posF_above x K hK
  obtain ⟨hv, hhv⟩ : ∃ hv, Kp (hasK K x = hv) := ⟨_, ⟨rfl⟩⟩
  rw [hhv.out]
  rw [hI.out] at hle hbe hab ⊢
  replace hbe := Kp.mk hbe
  replace hab := Kp.mk hab
  replace hc := Kp.mk hc
  rw [hn] at hle
  go_enter Tryd.func51, Tryd.ntmps51
  go_wp2
  go_loopg [7, 8] n (fun gk vi vj wr => ∃ lo hi : Nat, lo ≤ I ∧ I ≤ hi ∧ hi ≤ n ∧ vi = .int .i64 lo ∧ vj = .int .i64 hi ∧ Kp (hi - lo ≤ gk) ∧ wr = w)
  case atStart => exact ⟨0, n, Nat.zero_le _, hle, Nat.le_refl _, rfl, rfl, ⟨by omega⟩, rfl⟩
  case round =>
    obtain ⟨lo, hi, h1, h2, h3, rfl, rfl, hg, rfl⟩ := hrel
    by_cases hlt : lo < hi
    · obtain ⟨h, hh⟩ : ∃ h, Kp ((lo + hi) / 2 = h) := ⟨_, ⟨rfl⟩⟩
      have hh1 : lo ≤ h := by rw [← hh.out]; omega
      have hh2 : h < hi := by rw [← hh.out]; omega
      have hhn : h < K.length := by omega
      have hcell := hc.out h hhn
      have hL := Kp.mk (cmp_Less K[h] x wr)
      have d1 : ((lo : Int) + (hi : Int)) / 2 = (h : Int) := by rw [← hh.out]; omega
      obtain ⟨kh, hkh⟩ : ∃ kh, K[h] = kh := ⟨_, rfl⟩
      rw [hkh] at hcell hL
      have hlo1 := hbe.out h hhn
      have hhi1 := hab.out h hhn
      rw [hkh] at hlo1 hhi1
      have e1 : (h : Int) < (n : Int) := by omega
      have e2 : h < n := by omega
      by_cases hI2 : h < I
      · rw [hlo1 hI2] at hL
        clear hlo1 hhi1 hkh
        go_wp2_with fail
        refine hL.out.mono ?_
        rintro e w1 ⟨rfl, rfl⟩
        go_wp2
        go_roundg (hi - (h + 1))
        case measure => have := hg.out; omega
        case rel => exact ⟨h + 1, hi, by omega, h2, h3, by go_num, rfl, ⟨by omega⟩, rfl⟩
      · rw [hhi1 (by omega)] at hL
        clear hlo1 hhi1 hkh
        go_wp2_with fail
        refine hL.out.mono ?_
        rintro e w1 ⟨rfl, rfl⟩
        go_wp2
        go_roundg (h - lo)
        case measure => have := hg.out; omega
        case rel => exact ⟨lo, h, h1, by omega, by omega, rfl, rfl, ⟨by omega⟩, rfl⟩
    · obtain rfl : lo = I := by omega
      obtain rfl : lo = hi := by omega
      have hx := str_toList x
      by_cases hl : lo < n
      · have hlK : lo < K.length := by omega
        have hcell := hc.out lo hlK
        have hhas : hv = (K[lo] == x) := by
          rw [← hhv.out, hasK, hI.out, List.getElem?_eq_getElem hlK, Bool.eq_iff_iff]
          simp
        obtain ⟨kl, hkl⟩ : ∃ kl, K[lo] = kl := ⟨_, rfl⟩
        rw [hkl] at hcell hhas
        have hk := str_toList kl
        have hN := Kp.mk (slices_isNaN (str kl) wr)
        have e1 : (lo : Int) < (n : Int) := by omega
        clear hkl hlt h1 h2
        rcases hb2 : kl == x with _ | _
        · rw [hb2] at hhas
          subst hhas
          go_wp2_with fail
          refine hN.out.mono ?_
          rintro e w1 ⟨rfl, rfl⟩
          go_wp2
          go_ret2
          exact ⟨rfl, rfl⟩
        · rw [hb2] at hhas
          subst hhas
          go_wp2
          go_ret2
          exact ⟨rfl, rfl⟩
      · have hhas : hv = false := by
          rw [← hhv.out, hasK, hI.out, List.getElem?_eq_none (by omega)]
          rfl
        subst hhas
        have e1 : ¬ (lo : Int) < (n : Int) := by omega
        clear hlt h1 h2
        go_wp2
        go_ret2
        exact ⟨rfl, rfl⟩
end Go.Proofs.YtllapldkcfhklaaDoorSep
