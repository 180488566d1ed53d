/- Own work: uri.Decode, by a walk. -/
import Derived.Test.YtcoaecdgodfodaaDoorUriL
import Derived.Test.YtcoaecdgodfodaaDoorBig
namespace Go.Proofs.YtcoaecdgodfodaaDoorSep
open Go.RowKit Go.Lib Go.Proofs

theorem info_u8 : (Tryd.prog.info? 5).map (fun i => (i.zero, i.size, i.bytes)) = some (some (.int .u8 0), 1, 1) := by kernel_rfl
theorem decode_plain (c : UInt8) (t : List UInt8) (h : ¬ c = 37) : decodeF (c :: t) = (decodeF t).map (c :: ·) := by rw [decodeF, if_neg h]
theorem decode_short (t : List UInt8) (h : t.length < 2) : decodeF (37 :: t) = none := by rw [decodeF, if_pos rfl, if_neg (by omega)]
theorem decode_two (a b : UInt8) (u : List UInt8) : decodeF (37 :: a :: b :: u) = if 0 ≤ hexF a ∧ 0 ≤ hexF b then (decodeF u).map (UInt8.ofNat (hexF a * 16 + hexF b).toNat :: ·) else none := by
  rw [decodeF, if_pos rfl, if_pos (by simp)]
  simp
theorem hex_val (x y : Int) (hx : 0 ≤ x ∧ x ≤ 15) (hy : 0 ≤ y ∧ y ≤ 15) : IntKind.u8.wrap (bits .or .i64 (IntKind.i64.wrap (x * 16)) y) = ((UInt8.ofNat (x * 16 + y).toNat).toNat : Int) := by
  obtain ⟨a, rfl⟩ : ∃ a : Nat, x = a := ⟨x.toNat, by omega⟩
  obtain ⟨b, rfl⟩ : ∃ b : Nat, y = b := ⟨y.toNat, by omega⟩
  have h : ∀ (a b : Fin 16), IntKind.u8.wrap (bits .or .i64 (IntKind.i64.wrap (((a.val : Nat) : Int) * 16)) ((b.val : Nat) : Int)) = ((UInt8.ofNat (((a.val : Nat) : Int) * 16 + ((b.val : Nat) : Int)).toNat).toNat : Int) := by decide +kernel
  exact h ⟨a, by omega⟩ ⟨b, by omega⟩
theorem i32_u8 (c : UInt8) : IntKind.i32.wrap (c.toNat : Int) = (c.toNat : Int) := by
  have := c.toNat_lt
  rw [IntKind.wrap_i32]
  omega
theorem text_HexW (c : UInt8) (w : World) : Calls Tryd.prog 24 #[.int .i32 (IntKind.i32.wrap (c.toNat : Int))] w fun e w' => e = .returned (.int .i64 (hexF c)) ∧ w' = w := by
  rw [i32_u8]
  exact text_Hex c w
def DecEnd (W0 : World) (R : HP) (l : List UInt8) (e : Ending) (w' : World) : Prop :=
  e = .returned (.tuple #[.string (str ((decodeF l).getD [])), .int .i64 (if (decodeF l).isSome then 0 else 2)]) ∧ Own W0 w' R
set_option maxHeartbeats 2000000 in
theorem uri_Decode {W0 w : World} {R : HP} (H : Own W0 w R) (s : ByteArray) (hs : s.size ≤ 1000000000) :
    Calls Tryd.prog 10 #[.string s] w (DecEnd W0 R s.data.toList) := by
  have HH := Kp.mk (H.nil 5 1)
  go_enter Tryd.func10, Tryd.ntmps10
  go_wp2
  go_loopg [4, 5] s.size (fun g vb i wr => ∃ (k : Nat) (acc : List UInt8), k ≤ s.size ∧ i = .int .i64 k ∧ Kp (g + k = s.size) ∧ Kp (acc.length ≤ k) ∧ Kp (decodeF s.data.toList = (decodeF (s.data.toList.drop k)).map (acc ++ ·)) ∧ Kp (Own W0 wr (R * Row 5 1 vb acc.length (U acc))))
  case atStart => exact ⟨0, [], Nat.zero_le _, rfl, ⟨by omega⟩, ⟨by simp⟩, ⟨by simp⟩, HH⟩
  case round =>
    obtain ⟨k, acc, hk, rfl, hg, hacc, hd, HO⟩ := hrel
    by_cases hlt : k < s.size
    · obtain ⟨c, hc⟩ : ∃ c, s[k] = c := ⟨_, rfl⟩
      have hdk := s_drop s k hlt
      rw [hc] at hdk
      rw [hdk] at hd
      have hb := byte_eq c 37
      rw [show (((37 : UInt8).toNat : Nat) : Int) = 37 from rfl] at hb
      clear hdk
      by_cases h37 : c = 37
      · rw [decide_eq_true h37] at hb
        rw [h37] at hd
        by_cases h2 : k + 2 < s.size
        · have h2b : decide ((s.size : Int) ≤ (k : Int) + 2) = false := decide_eq_false (by omega)
          obtain ⟨c1, hc1⟩ : ∃ c1, s[k + 1]'(by omega) = c1 := ⟨_, rfl⟩
          obtain ⟨c2, hc2⟩ : ∃ c2, s[k + 2]'h2 = c2 := ⟨_, rfl⟩
          have hd1 := s_drop s (k + 1) (by omega)
          have hd2 := s_drop s (k + 2) h2
          rw [hc1] at hd1
          rw [hc2] at hd2
          rw [hd1, hd2, decode_two] at hd
          have hw1 := w32 c1
          have hw2 := w32 c2
          clear h37 hd1 hd2
          have hf1 := hexF_fit c1
          have hf2 := hexF_fit c2
          by_cases hx1 : hexF c1 < 0
          · have t1 : decide (hexF c1 < 0) = true := decide_eq_true hx1
            rw [if_neg (by omega)] at hd
            clear hx1
            go_wp2_with fail
            refine (text_Hex c1 _).mono ?_
            rintro e w1 ⟨rfl, rfl⟩
            go_wp2
            go_ret2
            unfold DecEnd
            rw [hd.out]
            exact ⟨rfl, HO.out.drop⟩
          · have t1 : decide (hexF c1 < 0) = false := decide_eq_false hx1
            go_wp2_with fail
            refine (text_Hex c1 _).mono ?_
            rintro e w1 ⟨rfl, rfl⟩
            by_cases hx2 : hexF c2 < 0
            · have t2 : decide (hexF c2 < 0) = true := decide_eq_true hx2
              rw [if_neg (by omega)] at hd
              clear hx1 hx2
              go_wp2_with fail
              refine (text_Hex c2 _).mono ?_
              rintro e w1 ⟨rfl, rfl⟩
              go_wp2
              go_ret2
              unfold DecEnd
              rw [hd.out]
              exact ⟨rfl, HO.out.drop⟩
            · have t2 : decide (hexF c2 < 0) = false := decide_eq_false hx2
              rw [if_pos (by omega)] at hd
              go_wp2_with fail
              refine (text_Hex c2 _).mono ?_
              rintro e w1 ⟨rfl, rfl⟩
              go_wp2
              have HA := Kp.mk HO.out.drew
              have hal := hacc.out
              obtain ⟨d, hdd⟩ : ∃ d, Kp (UInt8.ofNat (hexF c1 * 16 + hexF c2).toNat = d) := ⟨_, ⟨rfl⟩⟩
              have hval := Kp.mk (hex_val (hexF c1) (hexF c2) (by omega) (by omega))
              rw [hdd.out] at hd hval
              have v1 : IntKind.i64.wrap ((k : Int) + 1) = (k : Int) + 1 := by rw [IntKind.wrap_i64]; omega
              have v2 : IntKind.i64.wrap ((k : Int) + 2) = (k : Int) + 2 := by rw [IntKind.wrap_i64]; omega
              have v3 : ((k : Int) + 1).toNat = k + 1 := by omega
              have v4 : ((k : Int) + 2).toNat = k + 2 := by omega
              have v5 : (0 : Int) ≤ (k : Int) + 1 := by omega
              have v6 : (k : Int) + 1 < (s.size : Int) := by omega
              have v7 : (0 : Int) ≤ (k : Int) + 2 := by omega
              have v8 : (k : Int) + 2 < (s.size : Int) := by omega
              clear t1 t2 h2b hw1 hw2
              have HB := Kp.mk ((HO.out.box (.cells #[.int .u8 (d.toNat : Int)] 5)).drew)
              have hsl := Kp.mk ((sl_box w1 #[.int .u8 (d.toNat : Int)] 5 1 1 rfl (by decide)).drawn ⟨1, rfl⟩)
              have hval2 := hval.out
              go_region_law (first | (go_simp; (go_at_call 24; refine (text_HexW _ _).mono ?_; rintro e wq ⟨rfl, rfl⟩)) | (refine step_own_append (v := u4) (vx := .slice (some ⟨w1.heap.size, 0, none⟩) 1 1) HB.out ?_ (.tmp 45) (.tmp 61) 47 (.int .u8 0) 1 1 (U [d]) rfl Tryd.underlying47 info_u8 rfl (by decide) rfl rfl hsl.out (U_one _) ?_ ?_ ?_; (go_simp); (unfold maxLen; omega); omega; (intro v4 w4 H4 hz4 _)))
              all_goals
                rw [← U_append] at H4
                have hd3 : Kp (decodeF s.data.toList = (decodeF (s.data.toList.drop (k + 3))).map ((acc ++ [d]) ++ ·)) := ⟨by rw [hd.out, Option.map_map]; congr 1; funext r; simp⟩
                have H5 : Kp (Own W0 w4 (R * Row 5 1 v4 (acc ++ [d]).length (U (acc ++ [d])))) := ⟨by rw [List.length_append]; exact H4⟩
                clear hd hval hval2 HB hsl HA H4
                go_wp2
                go_roundg (s.size - (k + 3))
                case measure => have := hg.out; omega
                case rel => exact ⟨k + 3, acc ++ [d], by omega, by go_num, ⟨by have := hg.out; omega⟩, ⟨by rw [List.length_append]; simp; omega⟩, hd3, H5⟩
        · have h2b : decide ((s.size : Int) ≤ (k : Int) + 2) = true := decide_eq_true (by omega)
          rw [decode_short _ (by rw [List.length_drop, data_length]; omega)] at hd
          clear h37
          go_wp2
          go_ret2
          unfold DecEnd
          rw [hd.out]
          exact ⟨rfl, HO.out.drop⟩
      · rw [decide_eq_false h37] at hb
        rw [decode_plain _ _ h37] at hd
        have hd2 : Kp (decodeF s.data.toList = (decodeF (s.data.toList.drop (k + 1))).map ((acc ++ [c]) ++ ·)) := ⟨by rw [hd.out, Option.map_map]; congr 1; funext r; simp⟩
        have hal := hacc.out
        clear h37 hd
        go_wp2_with (at_builtin; go_must (refine own_append (v := u4) (vx := .slice (some ⟨wr.heap.size, 0, none⟩) 1 1) (HO.out.box (.cells #[.int .u8 (c.toNat : Int)] 5)) rfl (.tmp 16) (.tmp 20) 47 (.int .u8 0) 1 1 (U [c]) rfl Tryd.underlying47 info_u8 rfl (by decide) rfl rfl ?c1 (U_one _) ?c2 ?c3 ?_))
        case c1 => exact sl_box wr #[_] _ 1 1 rfl (by decide)
        case c2 => unfold maxLen; omega
        case c3 => omega
        intro v4 w4 H4 hz4 _
        rw [← U_append] at H4
        go_wp2
        go_roundg (s.size - (k + 1))
        case measure => have := hg.out; omega
        case rel => exact ⟨k + 1, acc ++ [c], by omega, by go_num, ⟨by have := hg.out; omega⟩, ⟨by rw [List.length_append]; simp; omega⟩, hd2, ⟨by rw [List.length_append]; exact H4⟩⟩
    · obtain rfl : k = s.size := by omega
      rw [s_end, decodeF] at hd
      obtain ⟨A, cc, hv, _⟩ := (HO.out.sl (by decide)).2
      subst hv
      have hcv := HO.out.run_str Tryd.underlying47 Tryd.underlying5 Tryd.underlying9
      clear hlt hk
      go_wp2
      go_ret2
      unfold DecEnd
      rw [hd.out]
      exact ⟨by simp, HO.out.drop⟩
end Go.Proofs.YtcoaecdgodfodaaDoorSep
