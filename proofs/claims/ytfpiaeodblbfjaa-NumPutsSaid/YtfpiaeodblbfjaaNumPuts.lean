/- Own work: NumPuts. -/
import Derived.Test.YtfpiaeodblbfjaaNumPutC
import Derived.Test.YtfpiaeodblbfjaaNumApart
namespace Go.Proofs.YtfpiaeodblbfjaaSep
open Go.RowKit Go.Lib Go.Proofs

set_option maxHeartbeats 4000000 in
set_option maxRecDepth 100000 in
theorem numPuts_core (w : World) (v0 : Value) (zs : List Int) (hw : ∀ x ∈ zs, (Lit.int .u64 x).wf = true) (g0 : Sl w v0 1 zs.length (zs.map (Value.int .u64))) (v1 : Value) (ss : List ByteArray) (g1 : Sl w v1 1 ss.length (ss.map Value.string)) (hz : zs.length ≤ 30) (hs : ss.length ≤ 30) :
    Calls Try.prog 6 #[v0, v1] w fun e w' => e = .returned (.bool true) ∧ Below w.heap.size w w' := by
  have HH := Kp.mk (head3 (own_start w))
  have G0 := Kp.mk g0
  have G1 := Kp.mk g1
  have HW := Kp.mk hw
  obtain ⟨A0, c0, rfl, l0, _⟩ := g0.2
  obtain ⟨A1, c1, rfl, l1, _⟩ := g1.2
  clear g0 g1 hw
  go_enter Try.func6, Try.ntmps6
  go_wp2_with fail
  refine HH.out.mono ?_
  rintro e w1 ⟨rfl, H1⟩
  have HA := Kp.mk ((((H1.box (.cells #[] 5)).zero 5 1 w1.heap.size 0).box (.cells #[] 5)).zero 5 1 (w1.heap.size + 1) 0)
  clear H1
  go_wp2
  go_loopg [5, 6, 30] zs.length (fun g vb vw i wr => ∃ k : Nat, k ≤ zs.length ∧ i = .int .i64 k ∧ Kp (g + k = zs.length) ∧ Kp (Own w wr (Old w * Row 5 1 vb (catN (zs.take k)).length (U (catN (zs.take k))) * Row 5 1 vw (catN (zs.take k)).length (U (catN (zs.take k))))))
  case atStart => exact ⟨0, Nat.zero_le _, rfl, ⟨by omega⟩, ⟨by simpa [catN, U] using HA.out⟩⟩
  case round =>
    obtain ⟨k, hk, rfl, hg, HO⟩ := hrel
    by_cases hlt : k < zs.length
    · obtain ⟨A', c', y, he, hc, hy, hy2⟩ := (G0.out.heldF.sl HO.out).num HW.out k hlt
      injection he with e1 e2 e3
      subst e1
      clear e2 e3
      have hlen := catN_len HW.out k
      have hpl := putN_len64 hy2.out
      have HP := Kp.mk (num_Put HO.out.rot y hy2.out (by omega))
      go_wp2_with fail
      refine HP.out.mono ?_
      rintro e w2 ⟨v2, rfl, H2, hz2⟩
      have HQ := Kp.mk (law_put H2 y hy2.out)
      clear HP hz2
      go_wp2_with fail
      refine HQ.out.mono ?_
      rintro e w3 ⟨v3, rfl, H3, hz3⟩
      clear HQ hz3
      rw [Nat.zero_add, List.nil_append] at H3
      have HX := Kp.mk (H3.focR u6)
      have HY := Kp.mk (H3.sl (by decide))
      have H3 := Kp.mk H3
      obtain ⟨A3, c3, hv3, _⟩ := (H3.out.sl (by decide)).2
      subst hv3
      go_wp2_with (at_builtin; go_must (refine own_append (v := u6) (vx := .slice A3 (putN y).length c3) (HX.out) rfl (.tmp 37) (.tmp 39) 24 (.int .u8 0) 1 (putN y).length (U (putN y)) rfl Try.underlying24 info_u8 rfl (by decide) rfl rfl HY.out (U_one _) ?c1 ?c2 ?_))
      case c1 => unfold maxLen; omega
      case c2 => omega
      intro v4 w4 H4 hz4 _
      go_wp2
      go_roundg (zs.length - (k + 1))
      case measure => have := hg.out; omega
      case rel =>
        refine ⟨k + 1, by omega, by go_num, ⟨by have := hg.out; omega⟩, ⟨?_⟩⟩
        rw [catN_step hy.out, List.length_append, U_append]
        exact H4.rot.drop
    · obtain rfl : k = zs.length := by omega
      rw [List.take_length] at HO
      clear hg hlt hk
      go_wp2
      go_loopg [5, 6, 44] ss.length (fun g vb vw i wr => ∃ k : Nat, k ≤ ss.length ∧ i = .int .i64 k ∧ Kp (g + k = ss.length) ∧ Kp (∀ j s, j < k → ss[j]? = some s → s.size ≤ 300) ∧ Kp (Own w wr (Old w * Row 5 1 vb (catN zs ++ catS (ss.take k)).length (U (catN zs ++ catS (ss.take k))) * Row 5 1 vw (catN zs ++ catS (ss.take k)).length (U (catN zs ++ catS (ss.take k))))))
      case atStart => exact ⟨0, Nat.zero_le _, rfl, ⟨by omega⟩, ⟨fun j s h => by omega⟩, ⟨by simpa [catS] using HO.out⟩⟩
      case round =>
        clear HO
        obtain ⟨k, hk, rfl, hg, hsz, HO⟩ := hrel
        by_cases hlt : k < ss.length
        · obtain ⟨A', c', s, he, hc, hy⟩ := (G1.out.heldF.sl HO.out).txt k hlt
          injection he with e1 e2 e3
          subst e1
          clear e2 e3
          by_cases h3 : s.size ≤ 300
          · have h1 : decide ((300 : Int) < (s.size : Int)) = false := decide_eq_false (by omega)
            have h1b : decide (300 < s.size) = false := decide_eq_false (by omega)
            have hln := catN_len HW.out zs.length
            rw [List.take_length] at hln
            have hls := catS_len k hsz.out
            have hlc : (catN zs ++ catS (ss.take k)).length ≤ 10 * zs.length + 310 * k := by rw [List.length_append]; omega
            clear hln hls
            have hpl := putN_len64 (n := s.size) (by omega)
            have HP := Kp.mk (num_Text HO.out.rot s (by omega))
            go_wp2_with fail
            refine HP.out.mono ?_
            rintro e w2 ⟨v2, rfl, H2, hz2⟩
            have HQ := Kp.mk (law_put H2 s.size (by omega))
            clear HP hz2
            go_wp2_with fail
            refine HQ.out.mono ?_
            rintro e w3 ⟨v3, rfl, H3, hz3⟩
            clear HQ hz3
            rw [Nat.zero_add, List.nil_append] at H3
            have HX := Kp.mk (H3.focR u6)
            have HY := Kp.mk (H3.sl (by decide))
            obtain ⟨A3, c3, hv3, _⟩ := (H3.sl (by decide)).2
            subst hv3
            clear H3
            go_wp2_with (at_builtin; go_must (refine own_append (v := u6) (vx := .slice A3 (putN s.size).length c3) (HX.out) rfl (.tmp 54) (.tmp 58) 24 (.int .u8 0) 1 (putN s.size).length (U (putN s.size)) rfl Try.underlying24 info_u8 rfl (by decide) rfl rfl HY.out (U_one _) ?c1 ?c2 ?_))
            case c1 => unfold maxLen; omega
            case c2 => omega
            intro v4 w4 H4 hz4 _
            have H4 := Kp.mk H4
            clear hz4
            go_wp2_with (at_builtin; go_must (refine own_append_str (v := v4) H4.out rfl (.tmp 59) (.tmp 60) 24 9 s rfl Try.underlying24 Try.underlying9 info_u8 rfl rfl ?d1 ?_))
            case d1 => rw [List.length_append] at hlc; omega
            intro v5 w5 H5 hz5 _
            go_wp2
            go_roundg (ss.length - (k + 1))
            case measure => have := hg.out; omega
            case rel =>
              refine ⟨k + 1, by omega, by go_num, ⟨by have := hg.out; omega⟩, ⟨fun j x hj hx => ?_⟩, ⟨?_⟩⟩
              · by_cases hjk : j < k
                · exact hsz.out j x hjk hx
                · obtain rfl : j = k := by omega
                  rw [hy.out] at hx
                  injection hx with hx
                  subst hx
                  exact h3
              · rw [catS_step hy.out]
                have H6 := H5.rot.drop
                simp only [U_append, List.length_append, List.append_assoc, Nat.add_assoc, data_length] at H6 ⊢
                exact H6
          · have h1 : decide ((300 : Int) < (s.size : Int)) = true := decide_eq_true (by omega)
            have h1b : decide (300 < s.size) = true := decide_eq_true (by omega)
            clear h3
            go_wp2
            go_ret
            exact ⟨rfl, HO.out.drop.drop.old⟩
        · obtain rfl : k = ss.length := by omega
          rw [List.take_length] at HO
          obtain ⟨T, hT⟩ : ∃ T, Kp (T = catN zs ++ catS ss) := ⟨_, ⟨rfl⟩⟩
          rw [← hT.out] at HO
          have hTl : Kp (T.length ≤ 10000) := by
            have h1 := catN_len HW.out zs.length
            have h2 := catS_len ss.length hsz.out
            rw [List.take_length] at h1 h2
            refine ⟨?_⟩
            rw [hT.out, List.length_append]
            omega
          clear hg hlt hk hsz
          obtain ⟨A5, c5, hv5, _⟩ := (HO.out.rot.sl (by decide)).2
          obtain ⟨A6, c6, hv6, _⟩ := (HO.out.sl (by decide)).2
          subst hv5
          subst hv6
          have hb5 := HO.out.rot.run_str Try.underlying24 Try.underlying5 Try.underlying9
          have hb6 := HO.out.run_str Try.underlying24 Try.underlying5 Try.underlying9
          have HR := Kp.mk (num_Read HO.out (fun w' H' => H'.rot.sl (by decide)) (by have := hTl.out; omega))
          clear HO
          go_wp2_with fail
          refine HR.out.mono ?_
          rintro e w2 ⟨p, rfl, H2, hz2⟩
          clear HR hz2 hb5 hb6
          have H2 := Kp.mk (H2.rot.drop.rot.drop)
          go_wp2
          go_loopg [72] zs.length (fun g i wr => ∃ k : Nat, k ≤ zs.length ∧ i = .int .i64 k ∧ Kp (g + k = zs.length) ∧ Kp ((catN (zs.drop k) ++ catS ss).length ≤ 10000) ∧ Kp (Own w wr (Old w * Rdr p (catN (zs.drop k) ++ catS ss) 0)))
          case atStart => exact ⟨0, Nat.zero_le _, rfl, ⟨by omega⟩, ⟨by rw [List.drop_zero, ← hT.out]; exact hTl.out⟩, ⟨by rw [List.drop_zero, ← hT.out]; exact H2.out⟩⟩
          case round =>
            clear H2
            obtain ⟨k, hk, rfl, hg, hle, HO⟩ := hrel
            by_cases hlt : k < zs.length
            · obtain ⟨A', c', y, he, hc, hy, hy2⟩ := (G0.out.heldF.sl HO.out).num HW.out k hlt
              injection he with e1 e2 e3
              subst e1
              clear e2 e3
              have hd := Kp.mk (catN_drop hy.out)
              have HN := rdr_Num HO.out 18446744073709551615 (by have := hle.out; omega)
              rw [hd.out, List.append_assoc, numGo_put _ _ _ hy2.out (by have := hy2.out; omega)] at HN
              have HN := Kp.mk HN
              go_wp2_with fail
              refine HN.out.mono ?_
              rintro e w3 ⟨rfl, H3, hz3⟩
              dsimp only at H3 ⊢
              have H3 := Kp.mk H3
              clear HN hz3
              go_wp2
              go_roundg (zs.length - (k + 1))
              case measure => have := hg.out; omega
              case rel => exact ⟨k + 1, by omega, by go_num, ⟨by have := hg.out; omega⟩, ⟨by have := hle.out; rw [hd.out, List.append_assoc, List.length_append] at this; omega⟩, H3⟩
            · obtain rfl : k = zs.length := by omega
              have HO := Kp.mk (by have h := HO.out; rw [List.drop_length] at h; exact h : Own w wr (Old w * Rdr p (catN [] ++ catS ss) 0))
              have hle := Kp.mk (by have h := hle.out; rw [List.drop_length] at h; exact h : (catN [] ++ catS ss).length ≤ 10000)
              rw [show catN [] = [] from rfl, List.nil_append] at HO hle
              clear hg hlt hk
              go_wp2
              go_loopg [83] ss.length (fun g i wr => ∃ k : Nat, k ≤ ss.length ∧ i = .int .i64 k ∧ Kp (g + k = ss.length) ∧ Kp ((catS (ss.drop k)).length ≤ 10000) ∧ Kp (Own w wr (Old w * Rdr p (catS (ss.drop k)) 0)))
              case atStart => exact ⟨0, Nat.zero_le _, rfl, ⟨by omega⟩, ⟨by rw [List.drop_zero]; exact hle.out⟩, ⟨by rw [List.drop_zero]; exact HO.out⟩⟩
              case round =>
                clear HO hle
                obtain ⟨k, hk, rfl, hg, hle, HO⟩ := hrel
                by_cases hlt : k < ss.length
                · obtain ⟨A', c', s, he, hc, hy⟩ := (G1.out.heldF.sl HO.out).txt k hlt
                  injection he with e1 e2 e3
                  subst e1
                  clear e2 e3
                  have hd := Kp.mk (catS_drop hy.out)
                  have hsz : s.size ≤ 10000 := by
                    have := hle.out
                    rw [hd.out, List.length_append, List.length_append, data_length] at this
                    omega
                  have HN := rdr_Text HO.out (s.size : Int) (by omega) (by have := hle.out; omega)
                  rw [hd.out, Int.toNat_natCast, ← data_length, textOf_put _ _ (by rw [data_length]; omega), data_length] at HN
                  have HN := Kp.mk HN
                  have hstr : Kp (str s.data.toList = s) := ⟨by cases s; rfl⟩
                  go_wp2_with fail
                  refine HN.out.mono ?_
                  rintro e w3 ⟨rfl, H3, hz3⟩
                  dsimp only at H3 ⊢
                  have H3 := Kp.mk H3
                  rw [hstr.out]
                  clear HN hz3 hstr
                  go_wp2
                  go_roundg (ss.length - (k + 1))
                  case measure => have := hg.out; omega
                  case rel => exact ⟨k + 1, by omega, by go_num, ⟨by have := hg.out; omega⟩, ⟨by have := hle.out; rw [hd.out, List.length_append] at this; omega⟩, H3⟩
                · obtain rfl : k = ss.length := by omega
                  have HO := Kp.mk (by have h := HO.out; rw [List.drop_length] at h; exact h : Own w wr (Old w * Rdr p (catS []) 0))
                  rw [show catS [] = [] from rfl] at HO
                  clear hg hlt hk hle
                  have h1 := rdr_End HO.out
                  have h2 := rdr_Left HO.out
                  have h3 := rdr_Err HO.out
                  rw [endE_ok rfl] at h1
                  rw [leftN_ok] at h2
                  have h1 := Kp.mk h1
                  have h2 := Kp.mk h2
                  have h3 := Kp.mk h3
                  go_wp2_with fail
                  refine h1.out.mono ?_
                  rintro e w6 ⟨rfl, rfl⟩
                  go_wp2_with fail
                  refine h2.out.mono ?_
                  rintro e w6 ⟨rfl, rfl⟩
                  go_wp2_with fail
                  refine h3.out.mono ?_
                  rintro e w6 ⟨rfl, rfl⟩
                  clear h1 h2 h3
                  go_wp2
                  go_ret
                  exact ⟨rfl, HO.out.drop.old⟩
theorem numPuts_long (w : World) (v0 : Value) (zs : List Int) (g0 : Sl w v0 1 zs.length (zs.map (Value.int .u64))) (v1 : Value) (ss : List ByteArray) (g1 : Sl w v1 1 ss.length (ss.map Value.string)) (h : ¬ (zs.length ≤ 30 ∧ ss.length ≤ 30)) :
    Calls Try.prog 6 #[v0, v1] w fun e w' => e = .returned (.bool true) ∧ Below w.heap.size w w' := by
  have HH := Kp.mk (head3 (own_start w))
  obtain ⟨A0, c0, rfl, l0, _⟩ := g0.2
  obtain ⟨A1, c1, rfl, l1, _⟩ := g1.2
  clear g0 g1
  by_cases hz : zs.length ≤ 30
  all_goals
    go_enter Try.func6, Try.ntmps6
    go_wp2_with fail
    refine HH.out.mono ?_
    rintro e w1 ⟨rfl, H1⟩
    go_wp2
    go_ret
    exact ⟨rfl, H1.old⟩
theorem numPuts_walk (w : World) (v0 : Value) (zs : List Int) (hw : ∀ x ∈ zs, (Lit.int .u64 x).wf = true) (_ : zs.length * 8 ≤ 140737488351232) (g0 : Sl w v0 1 zs.length (zs.map (Value.int .u64))) (v1 : Value) (ss : List ByteArray) (_ : ∀ x ∈ ss, x.size ≤ maxLen) (g1 : Sl w v1 1 ss.length (ss.map Value.string)) :
    Calls Try.prog 6 #[v0, v1] w fun e w' => e = .returned (.bool true) ∧ Below w.heap.size w w' := by
  by_cases h : zs.length ≤ 30 ∧ ss.length ≤ 30
  · exact numPuts_core w v0 zs hw g0 v1 ss g1 h.1 h.2
  · exact numPuts_long w v0 zs g0 v1 ss g1 h
end Go.Proofs.YtfpiaeodblbfjaaSep
