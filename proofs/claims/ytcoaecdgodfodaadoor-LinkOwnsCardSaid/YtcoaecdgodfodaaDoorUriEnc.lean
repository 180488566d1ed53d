/- Own work: uri.Encode, by a walk. -/
import Derived.Test.YtcoaecdgodfodaaDoorUriM
namespace Go.Proofs.YtcoaecdgodfodaaDoorSep
open Go.RowKit Go.Lib Go.Proofs

def plainB (c : UInt8) : Bool := letterB c || digitB c || decide (c = 45) || decide (c = 46) || decide (c = 95) || decide (c = 126)
theorem text_LetterW (c : UInt8) (w : World) : Calls Tryd.prog 35 #[.int .i32 (IntKind.i32.wrap (c.toNat : Int))] w fun e w' => e = .returned (.bool (letterB c)) ∧ w' = w := by
  rw [i32_u8]
  exact text_Letter c w
theorem text_DigitW (c : UInt8) (w : World) : Calls Tryd.prog 36 #[.int .i32 (IntKind.i32.wrap (c.toNat : Int))] w fun e w' => e = .returned (.bool (digitB c)) ∧ w' = w := by
  rw [i32_u8]
  exact text_Digit c w
set_option maxHeartbeats 1000000 in
theorem uri_plain (c : UInt8) (w : World) : Calls Tryd.prog 43 #[.int .u8 (c.toNat : Int)] w fun e w' => e = .returned (.bool (plainB c)) ∧ w' = w := by
  have hcw := w32 c
  have e45 := byte_eq c 45
  have e46 := byte_eq c 46
  have e95 := byte_eq c 95
  have e126 := byte_eq c 126
  have hL := Kp.mk (text_Letter c w)
  have hD := Kp.mk (text_Digit c w)
  simp only [show ((45 : UInt8).toNat : Int) = 45 from rfl, show ((46 : UInt8).toNat : Int) = 46 from rfl, show ((95 : UInt8).toNat : Int) = 95 from rfl, show ((126 : UInt8).toNat : Int) = 126 from rfl] at e45 e46 e95 e126
  obtain ⟨p, hp⟩ : ∃ p, Kp (plainB c = p) := ⟨_, ⟨rfl⟩⟩
  have hp2 : Kp ((letterB c || digitB c || decide (c = 45) || decide (c = 46) || decide (c = 95) || decide (c = 126)) = p) := ⟨hp.out⟩
  rw [hp.out]
  generalize letterB c = bl at *
  generalize digitB c = bd at *
  generalize decide (c = 45) = b1 at *
  generalize decide (c = 46) = b2 at *
  generalize decide (c = 95) = b3 at *
  generalize decide (c = 126) = b4 at *
  cases bl
  case' true =>
    go_enter Tryd.func43, Tryd.ntmps43
    go_wp2_with fail
    refine hL.out.mono ?_
    rintro e w2 ⟨rfl, rfl⟩
    go_wp2
    go_ret
    exact ⟨by rw [← hp2.out]; rfl, rfl⟩
  cases bd
  case' true =>
    go_enter Tryd.func43, Tryd.ntmps43
    go_wp2_with fail
    refine hL.out.mono ?_
    rintro e w2 ⟨rfl, rfl⟩
    go_wp2_with fail
    refine hD.out.mono ?_
    rintro e w2 ⟨rfl, rfl⟩
    go_wp2
    go_ret
    exact ⟨by rw [← hp2.out]; rfl, rfl⟩
  cases b1 <;> cases b2 <;> cases b3 <;> cases b4
  all_goals
    go_enter Tryd.func43, Tryd.ntmps43
    go_wp2_with fail
    refine hL.out.mono ?_
    rintro e w2 ⟨rfl, rfl⟩
    go_wp2_with fail
    refine hD.out.mono ?_
    rintro e w2 ⟨rfl, rfl⟩
    go_wp2
    go_ret
    exact ⟨by rw [← hp2.out]; rfl, rfl⟩
def hexD (n : Nat) : UInt8 := if n < 10 then UInt8.ofNat (48 + n) else UInt8.ofNat (55 + n)
theorem hexD_at (a : Nat) (h : a < (⟨#[48, 49, 50, 51, 52, 53, 54, 55, 56, 57, 65, 66, 67, 68, 69, 70]⟩ : ByteArray).size) : (⟨#[48, 49, 50, 51, 52, 53, 54, 55, 56, 57, 65, 66, 67, 68, 69, 70]⟩ : ByteArray)[a]'h = hexD a := by
  have key : ∀ a : Fin 16, (⟨#[48, 49, 50, 51, 52, 53, 54, 55, 56, 57, 65, 66, 67, 68, 69, 70]⟩ : ByteArray)[a.val]'a.isLt = hexD a.val := by decide +kernel
  exact key ⟨a, h⟩
theorem and15 (c : UInt8) : bits .and .u8 ((c.toNat : Nat) : Int) 15 = ((c.toNat % 16 : Nat) : Int) := by
  have key : ∀ a : Fin 256, bits .and .u8 ((a.val : Nat) : Int) 15 = ((a.val % 16 : Nat) : Int) := by decide +kernel
  exact key ⟨c.toNat, c.toNat_lt⟩
def encB (b : Bool) (c : UInt8) : List UInt8 := if plainB c || (b && decide (c = 47)) then [c] else [37, hexD (c.toNat / 16), hexD (c.toNat % 16)]
def encF (b : Bool) (l : List UInt8) : List UInt8 := l.flatMap (encB b)
set_option maxHeartbeats 2000000 in
theorem uri_Encode {W0 w : World} {R : HP} (H : Own W0 w R) (s : ByteArray) (b : Bool) (hs : s.size ≤ 1000000) :
    Calls Tryd.prog 29 #[.string s, .bool b] w fun e w' => e = .returned (.string (str (encF b s.data.toList))) ∧ Own W0 w' R := by
  have HH := Kp.mk (H.nil 5 1)
  go_enter Tryd.func29, Tryd.ntmps29
  go_wp2
  go_loopg [5, 10] s.size (fun g vb i wr => ∃ (k : Nat) (acc : List UInt8), k ≤ s.size ∧ i = .int .i64 k ∧ Kp (g + k = s.size) ∧ Kp (acc.length ≤ 3 * k) ∧ Kp (encF b s.data.toList = acc ++ encF b (s.data.toList.drop k)) ∧ Kp (Own W0 wr (R * Row 5 1 vb acc.length (U acc))))
  case atStart => exact ⟨0, [], Nat.zero_le _, rfl, ⟨by omega⟩, ⟨by simp⟩, ⟨by simp⟩, HH⟩
  case round =>
    obtain ⟨k, acc, hk, rfl, hg, hacc, hd, HO⟩ := hrel
    by_cases hlt : k < s.size
    · obtain ⟨c, hc⟩ : ∃ c, s[k] = c := ⟨_, rfl⟩
      have hdk := s_drop s k hlt
      rw [hc] at hdk
      rw [hdk] at hd
      have hb := byte_eq c 47
      rw [show (((47 : UInt8).toNat : Nat) : Int) = 47 from rfl] at hb
      have hal := hacc.out
      clear hdk
      have hP := Kp.mk (uri_plain c wr)
      have he : Kp (encF b s.data.toList = (acc ++ encB b c) ++ encF b (s.data.toList.drop (k + 1))) := ⟨by rw [hd.out]; simp [encF]⟩
      have heB : encB b c = if plainB c || (b && decide (c = 47)) then [c] else [37, hexD (c.toNat / 16), hexD (c.toNat % 16)] := rfl
      have heB := Kp.mk heB
      clear hd
      generalize plainB c = p at *
      generalize decide (c = 47) = q at *
      by_cases hpq : (p || (b && q)) = true
      · have he2 : Kp (encB b c = [c]) := ⟨by rw [heB.out, if_pos hpq]⟩
        rw [he2.out] at he
        clear heB he2
        have hcase : p = true ∨ p = false ∧ b = true ∧ q = true := by revert hpq; cases p <;> cases b <;> cases q <;> simp
        clear hpq
        rcases hcase with rfl | ⟨rfl, rfl, rfl⟩
        all_goals
          go_wp2_with fail
          refine hP.out.mono ?_
          rintro e w2 ⟨rfl, rfl⟩
          go_wp2_with (at_builtin; go_must (refine own_append (v := u5) (vx := .slice (some ⟨w2.heap.size, 0, none⟩) 1 1) (HO.out.box (.cells #[.int .u8 (c.toNat : Int)] 5)) rfl (.tmp 25) (.tmp 27) 47 (.int .u8 0) 1 1 (U [c]) rfl Tryd.underlying47 info_u8 rfl (by decide) rfl rfl ?c1 (U_one _) ?c2 ?c3 ?_))
          case c1 => exact sl_box w2 #[_] _ 1 1 rfl (by decide)
          case c2 => unfold maxLen; omega
          case c3 => omega
          intro v4 w4 H4 hz4 _
          rw [← U_append] at H4
          go_wp2
          go_roundg (s.size - (k + 1))
          case measure => have := hg.out; omega
          case rel => exact ⟨k + 1, acc ++ [c], by omega, by go_num, ⟨by have := hg.out; omega⟩, ⟨by rw [List.length_append]; simp; omega⟩, he, ⟨by rw [List.length_append]; exact H4⟩⟩
      · have he2 : Kp (encB b c = [37, hexD (c.toNat / 16), hexD (c.toNat % 16)]) := ⟨by rw [heB.out, if_neg hpq]⟩
        rw [he2.out] at he
        clear heB he2
        obtain ⟨a, ha⟩ : ∃ a, c.toNat / 16 = a := ⟨_, rfl⟩
        obtain ⟨a2, ha2⟩ : ∃ a, c.toNat % 16 = a := ⟨_, rfl⟩
        have hc256 := c.toNat_lt
        have d1 : ((c.toNat : Nat) : Int) / 16 = (a : Int) := by omega
        have d2 : bits .and .u8 ((c.toNat : Nat) : Int) 15 = (a2 : Int) := by rw [← ha2]; exact and15 c
        have d3 : a < 16 := by omega
        have d4 : a2 < 16 := by omega
        have d5 : (a : Int) < 16 := by omega
        have d6 : (a2 : Int) < 16 := by omega
        rw [ha, ha2] at he
        have hx1 := fun h => hexD_at a h
        have hx2 := fun h => hexD_at a2 h
        generalize hexD a = x1 at *
        generalize hexD a2 = x2 at *
        clear ha ha2 hc256
        have hcase : p = false ∧ b = false ∨ p = false ∧ b = true ∧ q = false := by revert hpq; cases p <;> cases b <;> cases q <;> simp
        clear hpq
        rcases hcase with ⟨rfl, rfl⟩ | ⟨rfl, rfl, rfl⟩
        all_goals
          go_wp2_with fail
          refine hP.out.mono ?_
          rintro e w2 ⟨rfl, rfl⟩
          go_wp2_with fail
          have HB := Kp.mk ((HO.out.box (.cells #[.int .u8 37, .int .u8 (x1.toNat : Int), .int .u8 (x2.toNat : Int)] 5)).drew)
          have hsl := Kp.mk ((sl_box w2 #[.int .u8 37, .int .u8 (x1.toNat : Int), .int .u8 (x2.toNat : Int)] 5 1 3 rfl (by decide)).drawn ⟨1, rfl⟩)
          go_region_law (refine step_own_append (v := u5) (vx := .slice (some ⟨w2.heap.size, 0, none⟩) 3 3) HB.out ?_ (.tmp 29) (.tmp 36) 47 (.int .u8 0) 1 3 (U [37, x1, x2]) rfl Tryd.underlying47 info_u8 rfl (by decide) rfl rfl hsl.out (U_one _) ?_ ?_ ?_; (go_simp); (unfold maxLen; omega); omega; (intro v4 w4 H4 hz4 _))
          all_goals
            rw [← U_append] at H4
            have H5 : Kp (Own W0 w4 (R * Row 5 1 v4 (acc ++ [37, x1, x2]).length (U (acc ++ [37, x1, x2])))) := ⟨by rw [List.length_append]; exact H4⟩
            clear HB hsl H4
            go_wp2
            go_roundg (s.size - (k + 1))
            case measure => have := hg.out; omega
            case rel => exact ⟨k + 1, acc ++ [37, x1, x2], by omega, by go_num, ⟨by have := hg.out; omega⟩, ⟨by rw [List.length_append]; simp; omega⟩, he, H5⟩
    · obtain rfl : k = s.size := by omega
      rw [s_end] at hd
      obtain ⟨A, cc, hv, _⟩ := (HO.out.sl (by decide)).2
      subst hv
      have hcv := HO.out.run_str Tryd.underlying47 Tryd.underlying5 Tryd.underlying9
      have hd2 : Kp (encF b s.data.toList = acc) := ⟨by rw [hd.out]; simp [encF]⟩
      clear hlt hk hd
      go_wp2
      go_ret
      rw [hd2.out]
      exact ⟨rfl, HO.out.drop⟩
end Go.Proofs.YtcoaecdgodfodaaDoorSep
