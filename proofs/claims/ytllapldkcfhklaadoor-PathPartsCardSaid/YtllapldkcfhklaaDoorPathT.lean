/- Own work: the law's parts, by a walk. -/
import Derived.Test.YtllapldkcfhklaaDoorLaw
import Derived.Test.YtllapldkcfhklaaDoorPathB
import Derived.Test.YtllapldkcfhklaaDoorTabO
import Derived.Test.YtllapldkcfhklaaDoorProg
namespace Go.Proofs.YtllapldkcfhklaaDoorSep
open Go.RowKit Go.Lib Go.Proofs

theorem info_str : (Tryd.prog.info? 9).map (fun i => (i.zero, i.size, i.bytes)) = some (some (.string ⟨#[]⟩), 1, 16) := by kernel_rfl
theorem partsGo_hit (n t : List UInt8) : partsGo n (47 :: t) = n :: partsGo [] t := by rw [partsGo, if_pos rfl]
theorem partsGo_miss (n t : List UInt8) (c : UInt8) (h : ¬ c = 47) : partsGo n (c :: t) = partsGo (n ++ [c]) t := by rw [partsGo, if_neg h]
theorem str_snoc (n : List UInt8) (c : UInt8) (s : ByteArray) (k : Nat) (h : k < s.size) (hc : s[k] = c) : str n ++ s.extract k (k + 1) = str (n ++ [c]) := by
  rw [ext_mid, show k + 1 - k = 1 by omega, s_drop s k h, hc, ← str_of (str n ++ _), ByteArray.data_append, Array.toList_append, str_data, str_data]
  rfl
set_option maxHeartbeats 1000000 in
theorem law_parts {W0 w : World} {R : HP} (H : Own W0 w R) (s : ByteArray) (hl : s.size ≤ 100000) :
    Calls Tryd.prog 9 #[.string s] w fun e w' => ∃ v, e = .returned v ∧ Own W0 w' (R * Row 9 1 v (splitF s.data.toList).length (SV (splitF s.data.toList))) := by
  have HZ := Kp.mk (((H.box (.cells #[] 9)).zero 9 1 w.heap.size 0))
  go_enter Tryd.func9, Tryd.ntmps9
  go_wp2
  go_loopg [3, 4, 5] s.size (fun g vo vn vi wr => ∃ (k : Nat) (O : List (List UInt8)) (N : List UInt8), k ≤ s.size ∧ vn = .string (str N) ∧ vi = .int .i64 k ∧ Kp (g + k = s.size) ∧ Kp (O.length ≤ k) ∧ Kp (N.length ≤ k) ∧ Kp (splitF s.data.toList = O ++ partsGo N (s.data.toList.drop k)) ∧ Kp (Own W0 wr (R * Row 9 1 vo O.length (SV O))))
  case atStart => exact ⟨0, [], [], Nat.zero_le _, rfl, rfl, ⟨by omega⟩, ⟨by simp⟩, ⟨by simp⟩, ⟨rfl⟩, HZ⟩
  case round =>
    obtain ⟨k, O, N, hk, rfl, rfl, hg, hO, hN, hd, HO⟩ := hrel
    by_cases hlt : k < s.size
    · obtain ⟨c, hc⟩ : ∃ c, s[k] = c := ⟨_, rfl⟩
      have hdk := s_drop s k hlt
      rw [hc] at hdk
      rw [hdk] at hd
      have hb := byte_eq c 47
      rw [show (((47 : UInt8).toNat : Nat) : Int) = 47 from rfl] at hb
      clear hdk
      have hOl := hO.out
      by_cases h47 : c = 47
      · rw [decide_eq_true h47] at hb
        rw [h47, partsGo_hit] at hd
        have hd2 : Kp (splitF s.data.toList = (O ++ [N]) ++ partsGo [] (s.data.toList.drop (k + 1))) := ⟨by rw [hd.out]; simp⟩
        clear h47 hd
        go_wp2_with (at_builtin; go_must (refine own_append (v := u3) (vx := .slice (some ⟨wr.heap.size, 0, none⟩) 1 1) (HO.out.box (.cells #[.string (str N)] 9)) rfl (.tmp 17) (.tmp 19) 23 (.string ⟨#[]⟩) 16 1 (SV [N]) rfl Tryd.underlying23 info_str rfl (by decide) rfl rfl ?c1 (SV_one _) ?c2 ?c3 ?_))
        case c1 => exact sl_box wr #[_] _ 1 1 rfl (by decide)
        case c2 => unfold maxLen; omega
        case c3 => omega
        intro v4 w4 H4 hz4 _
        rw [← SV_append] at H4
        go_wp2
        go_roundg (s.size - (k + 1))
        case measure => have := hg.out; omega
        case rel => exact ⟨k + 1, O ++ [N], [], by omega, rfl, by go_num, ⟨by have := hg.out; omega⟩, ⟨by rw [List.length_append]; simp; omega⟩, ⟨by simp⟩, hd2, ⟨by rw [List.length_append]; exact H4⟩⟩
      · rw [decide_eq_false h47] at hb
        rw [partsGo_miss _ _ _ h47] at hd
        have hap := str_snoc N c s k hlt hc
        have hsn : (str N).size = N.length := str_size N
        have hNl := hN.out
        have hex : (s.extract k (k + 1)).size = 1 := by rw [ByteArray.size_extract]; omega
        have hno : ¬ 9223372036854775807 < N.length + 1 := by omega
        clear h47
        go_wp2
        go_roundg (s.size - (k + 1))
        case measure => have := hg.out; omega
        case rel => exact ⟨k + 1, O, N ++ [c], by omega, rfl, by go_num, ⟨by have := hg.out; omega⟩, ⟨by omega⟩, ⟨by rw [List.length_append]; simp; omega⟩, hd, HO⟩
    · obtain rfl : k = s.size := by omega
      rw [s_end, partsGo] at hd
      have hOl := hO.out
      clear hlt hk
      go_wp2_with (at_builtin; go_must (refine own_append (v := u3) (vx := .slice (some ⟨wr.heap.size, 0, none⟩) 1 1) (HO.out.box (.cells #[.string (str N)] 9)) rfl (.tmp 28) (.tmp 30) 23 (.string ⟨#[]⟩) 16 1 (SV [N]) rfl Tryd.underlying23 info_str rfl (by decide) rfl rfl ?c1 (SV_one _) ?c2 ?c3 ?_))
      case c1 => exact sl_box wr #[_] _ 1 1 rfl (by decide)
      case c2 => unfold maxLen; omega
      case c3 => omega
      intro v4 w4 H4 hz4 _
      rw [← SV_append] at H4
      go_wp2
      go_ret
      exact ⟨v4, rfl, by rw [hd.out, List.length_append]; exact H4⟩
end Go.Proofs.YtllapldkcfhklaaDoorSep
