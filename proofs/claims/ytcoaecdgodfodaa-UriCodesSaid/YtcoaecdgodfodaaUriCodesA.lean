/- Own work: a law by a walk: signs written as numbers, and back. -/
import Derived.Test.YtcoaecdgodfodaaUriCodeP
import Derived.Test.YtcoaecdgodfodaaUriR
namespace Go.Proofs.YtcoaecdgodfodaaSep
open Go.RowKit Go.Lib Go.Proofs

set_option maxRecDepth 20000 in
set_option maxHeartbeats 4000000 in
theorem uriCodes_core (l : List UInt8) (b : Bool) (x : UInt8) (w : World) (hl : l.length ≤ 200) :
    Calls Try.prog 7 #[.string (str l), .bool b, .int .u8 (x.toNat : Int)] w fun e w' => e = .returned (.bool true) ∧ Below w.heap.size w w' := by
  have HH := Kp.mk (law_head (own_start w))
  have hsl : (str l).size = l.length := str_size l
  have t1 : decide ((200 : Int) < (l.length : Int)) = false := decide_eq_false (by omega)
  have t1' : decide (200 < l.length) = false := decide_eq_false (by omega)
  obtain ⟨en, hen⟩ : ∃ en, Kp (encF b l = en) := ⟨_, ⟨rfl⟩⟩
  have hnl0 := encF_len b l
  rw [hen.out] at hnl0
  have hnl : en.length ≤ 600 := by omega
  clear hnl0
  have hok : Kp (∀ x ∈ en, okN b x.toNat) := ⟨by rw [← hen.out]; exact enc_ok b l⟩
  have hD1 := Kp.mk (decode_enc0 b l)
  have hD2 := Kp.mk (decode_bad b l x)
  have hD3 := Kp.mk (decode_cut b l)
  rw [hen.out] at hD1 hD2 hD3
  obtain ⟨se, hse⟩ : ∃ se, Kp (str en = se) := ⟨_, ⟨rfl⟩⟩
  obtain ⟨ne, hne0⟩ : ∃ ne, Kp (en.length = ne) := ⟨_, ⟨rfl⟩⟩
  have hne : se.size = ne := by rw [← hse.out, ← hne0.out]; exact str_size en
  rw [hne0.out] at hnl
  go_enter Try.func7, Try.ntmps7
  go_wp2_with fail
  refine HH.out.mono ?_
  rintro e w1 ⟨rfl, H1⟩
  have HE := uri_Encode H1 (str l) b (by omega)
  rw [str_data, hen.out, hse.out] at HE
  have HE := Kp.mk HE
  clear HH H1
  go_wp2_with fail
  refine HE.out.mono ?_
  rintro e w2 ⟨rfl, H2⟩
  have H2 := Kp.mk H2
  clear HE hen
  go_wp2
  go_loopg [8] ne (fun g i wr => ∃ (k : Nat), k ≤ ne ∧ i = .int .i64 k ∧ Kp (g + k = ne) ∧ wr = w2)
  case atStart => exact ⟨0, Nat.zero_le _, rfl, ⟨by omega⟩, rfl⟩
  case round =>
    obtain ⟨k, hk, rfl, hg, rfl⟩ := hrel
    by_cases hlt : k < ne
    · obtain ⟨c, hcs⟩ : ∃ c, se[k]'(by omega) = c := ⟨_, rfl⟩
      have ho := hok.out c (by
        have h2 : k < (str en).size := by rw [hse.out]; omega
        have : (str en)[k]'h2 = c := by simp only [hse.out]; exact hcs
        rw [← this]
        exact List.getElem_mem _)
      unfold okN at ho
      clear hD1 hD2 hD3 hok hse hne0
      rcases ho with ⟨h1, h2⟩ | ⟨h1, h2⟩ | ⟨h1, h2⟩ | h1 | h1 | h1 | h1 | h1 | ⟨rfl, h1⟩
      all_goals
        go_wp2
        go_roundg (ne - (k + 1))
        case measure => have := hg.out; omega
        case rel => exact ⟨k + 1, by omega, by go_num, ⟨by have := hg.out; omega⟩, rfl⟩
    · obtain rfl : k = ne := by omega
      clear hk hlt
      have HD := uri_Decode H2.out (str en) (by rw [hse.out]; omega)
      unfold DecEnd at HD
      rw [str_data, hD1.out, hse.out] at HD
      simp only [Option.getD_some, Option.isSome_some, if_true] at HD
      have HD := Kp.mk HD
      have h37 : (⟨#[37]⟩ : ByteArray).size = 1 := rfl
      have h48 : (⟨#[48]⟩ : ByteArray).size = 1 := rfl
      have h374 : (⟨#[37, 52]⟩ : ByteArray).size = 2 := rfl
      have hxs : (str [x]).size = 1 := rfl
      have hA2 : se ++ ⟨#[37]⟩ ++ str [x] ++ ⟨#[48]⟩ = str (en ++ [37, x, 48]) := by
        rw [← hse.out, show (⟨#[37]⟩ : ByteArray) = str [37] from rfl, show (⟨#[48]⟩ : ByteArray) = str [48] from rfl, str_app, str_app, str_app]
        simp
      have hA3 : se ++ ⟨#[37, 52]⟩ = str (en ++ [37, 52]) := by
        rw [← hse.out, show (⟨#[37, 52]⟩ : ByteArray) = str [37, 52] from rfl, str_app]
      obtain ⟨y1, hy1⟩ : ∃ y, Kp (str ((decodeF (en ++ [37, x, 48])).getD []) = y) := ⟨_, ⟨rfl⟩⟩
      have HD2 : ∀ w4, Own w w4 (Old w) → Calls Try.prog 18 #[.string (se ++ ⟨#[37]⟩ ++ str [x] ++ ⟨#[48]⟩)] w4 fun e w' => e = .returned (.tuple #[.string y1, .int .i64 (if hexB x then 0 else 2)]) ∧ Own w w' (Old w) := fun w4 h4 => by
        have := uri_Decode h4 (se ++ ⟨#[37]⟩ ++ str [x] ++ ⟨#[48]⟩) (by rw [hA2, str_size, List.length_append, hne0.out]; simp; omega)
        unfold DecEnd at this
        rw [hA2, str_data, hD2.out, hy1.out] at this
        rw [hA2]
        exact this
      have HD3 : ∀ w4, Own w w4 (Old w) → Calls Try.prog 18 #[.string (se ++ ⟨#[37, 52]⟩)] w4 fun e w' => e = .returned (.tuple #[.string (str []), .int .i64 2]) ∧ Own w w' (Old w) := fun w4 h4 => by
        have := uri_Decode h4 (se ++ ⟨#[37, 52]⟩) (by rw [hA3, str_size, List.length_append, hne0.out]; simp; omega)
        unfold DecEnd at this
        rw [hA3, str_data, hD3.out] at this
        rw [hA3]
        exact this
      have HD2 := Kp.mk HD2
      have HD3 := Kp.mk HD3
      have hno1 : ¬ 9223372036854775807 < k + 1 := by omega
      have hno2 : ¬ 9223372036854775807 < k + 1 + 1 := by omega
      have hno3 : ¬ 9223372036854775807 < k + 1 + 1 + 1 := by omega
      have hno4 : ¬ 9223372036854775807 < k + 2 := by omega
      have hx256 := x.toNat_lt
      have hcase : (hexB x = true ∧ ((48 ≤ x.toNat ∧ x.toNat ≤ 57) ∨ (65 ≤ x.toNat ∧ x.toNat ≤ 70) ∨ (97 ≤ x.toNat ∧ x.toNat ≤ 102))) ∨ (hexB x = false ∧ (x.toNat < 48 ∨ (57 < x.toNat ∧ x.toNat < 65) ∨ (70 < x.toNat ∧ x.toNat < 97) ∨ 102 < x.toNat)) := by
        rcases hh : hexB x with _ | _
        · refine .inr ⟨rfl, ?_⟩
          simp [hexB] at hh
          omega
        · refine .inl ⟨rfl, ?_⟩
          simp [hexB] at hh
          omega
      clear hA2 hA3 hD1 hD2 hD3 hy1 hok hse hne0
      rcases hcase with ⟨hh, ⟨g1, g2⟩ | ⟨g1, g2⟩ | ⟨g1, g2⟩⟩ | ⟨hh, g1 | ⟨g1, g2⟩ | ⟨g1, g2⟩ | g1⟩
      all_goals
        rw [hh] at HD2
        simp only [Bool.false_eq_true, if_false, if_true] at HD2
        clear hh
        go_wp2_with fail
        refine HD.out.mono ?_
        rintro e w3 ⟨rfl, H3⟩
        have hcv := run_str (l := [x]) Try.underlying39 Try.underlying5 Try.underlying9 (sl_box w3 #[.int .u8 (x.toNat : Int)] 5 1 1 rfl (by decide))
        have H4 := Kp.mk (H3.box (.cells #[.int .u8 (x.toNat : Int)] 5))
        go_wp2_with fail
        refine (HD2.out _ H4.out).mono ?_
        rintro e w5 ⟨rfl, H5⟩
        have H5 := Kp.mk H5
        clear hcv H4
        go_wp2_with fail
        refine (HD3.out _ H5.out).mono ?_
        rintro e w6 ⟨rfl, H6⟩
        have H6 := Kp.mk H6
        go_wp2
        go_ret
        first
          | exact ⟨rfl, H6.out.old⟩
          | (refine ⟨?_, H6.out.old⟩
             show Ending.returned (Value.bool _) = _
             refine congrArg (fun b => Ending.returned (Value.bool b)) ?_
             simp
             omega)
end Go.Proofs.YtcoaecdgodfodaaSep
