/- Own work: the law UriInside, by a walk. -/
import Derived.Test.YtcoaecdgodfodaaUriInP
import Derived.Test.YtcoaecdgodfodaaUriS
namespace Go.Proofs.YtcoaecdgodfodaaSep
open Go.RowKit Go.Lib Go.Proofs

set_option maxHeartbeats 4000000 in
set_option maxRecDepth 100000 in
theorem uriInside_core (l : List UInt8) (p : ByteArray) (w : World) (hl : l.length ≤ 100) (hp : p.size ≤ 100) :
    Calls Try.prog 6 #[.string (str l), .string p] w fun e w' => e = .returned (.bool true) ∧ Below w.heap.size w w' := by
  have HH := Kp.mk (law_head (own_start w))
  have hsl : (str l).size = l.length := str_size l
  have HA := fun w => law_at (str l) (by omega) 63 w
  have HB := fun w => law_at (str l) (by omega) 35 w
  have t1 : decide ((100 : Int) < (l.length : Int)) = false := decide_eq_false (by omega)
  have t2 : decide ((100 : Int) < (p.size : Int)) = false := decide_eq_false (by omega)
  have t1' : decide (100 < l.length) = false := decide_eq_false (by omega)
  have t2' : decide (100 < p.size) = false := decide_eq_false (by omega)
  rw [str_data] at HA HB
  have f1 := atF_fit 63 l
  have f2 := atF_fit 35 l
  generalize atF 63 l = i1 at HA f1
  generalize atF 35 l = i2 at HB f2
  change ∀ w, Calls _ _ #[_, .int .u8 63] _ _ at HA
  change ∀ w, Calls _ _ #[_, .int .u8 35] _ _ at HB
  have HA := Kp.mk HA
  have HB := Kp.mk HB
  go_enter Try.func6, Try.ntmps6
  go_wp2_with fail
  refine HH.out.mono ?_
  rintro e w1 ⟨rfl, H1⟩
  have H1 := Kp.mk H1
  clear HH
  go_wp2
  go_loopg [5, 6] p.size (fun g vs vi wr => ∃ (k : Nat) (c : List UInt8), k ≤ p.size ∧ vi = .int .i64 k ∧ vs = .string (str c) ∧ Kp (g + k = p.size) ∧ Kp (c.length ≤ k) ∧ Kp (cleanP c) ∧ wr = w1)
  case atStart => exact ⟨0, [], Nat.zero_le _, rfl, rfl, ⟨by omega⟩, ⟨by simp⟩, ⟨cleanP_nil⟩, rfl⟩
  case round =>
    obtain ⟨k, c, hk, rfl, rfl, hg, hcl, hcp, rfl⟩ := hrel
    by_cases hlt : k < p.size
    · obtain ⟨x, hx⟩ : ∃ x, p[k] = x := ⟨_, rfl⟩
      have hap := str_snoc c x p k hlt hx
      have hcs : (str c).size = c.length := str_size c
      have hcz := hcl.out
      have hex : (p.extract k (k + 1)).size = 1 := by rw [ByteArray.size_extract]; omega
      have hno : ¬ 9223372036854775807 < c.length + 1 := by omega
      have hct : (str c).toList = c := str_toList c
      by_cases hL : 97 ≤ x.toNat ∧ x.toNat ≤ 122
      · obtain ⟨h1, h2⟩ := hL
        have hcp2 := Kp.mk (cleanP_letter c x hcp.out ⟨h1, h2⟩)
        clear HA HB f1 f2
        go_wp2
        go_roundg (p.size - (k + 1))
        case measure => have := hg.out; omega
        case rel => exact ⟨k + 1, c ++ [x], by omega, by go_num, rfl, ⟨by have := hg.out; omega⟩, ⟨by rw [List.length_append]; simp; omega⟩, hcp2, rfl⟩
      · by_cases h47 : x.toNat = 47
        · have hx47 : x = 47 := UInt8.toNat_inj.1 h47
          rcases List.eq_nil_or_concat c with rfl | ⟨q, d, rfl⟩
          · clear HA HB f1 f2 hL hx47
            have he : ([] : List UInt8).isEmpty = true := rfl
            go_wp2
            go_roundg (p.size - (k + 1))
            case measure => have := hg.out; omega
            case rel => exact ⟨k + 1, [], by omega, by go_num, rfl, ⟨by have := hg.out; omega⟩, ⟨by simp⟩, hcp, rfl⟩
          · rw [List.concat_eq_append] at *
            have hem : (q ++ [d]).isEmpty = false := by simp
            have hlast : ∀ h, (str (q ++ [d]))[q.length]'h = d := fun h => str_last q d h
            have hlen : (q ++ [d]).length = q.length + 1 := by simp
            have hidx : ((q.length : Int) + 1 - 1).toNat = q.length := by omega
            have hb := byte_eq d 47
            rw [show (((47 : UInt8).toNat : Nat) : Int) = 47 from rfl] at hb
            have hcp2 := Kp.mk (cleanP_stroke (q ++ [d]) hcp.out (by simp))
            rw [hx47] at hap
            by_cases hd : d = 47
            · rw [decide_eq_true hd] at hb
              clear HA HB f1 f2 hL hd hx47
              go_wp2
              go_roundg (p.size - (k + 1))
              case measure => have := hg.out; omega
              case rel => exact ⟨k + 1, q ++ [d], by omega, by go_num, rfl, ⟨by have := hg.out; omega⟩, ⟨by omega⟩, hcp, rfl⟩
            · rw [decide_eq_false hd] at hb
              clear HA HB f1 f2 hL hd hx47
              go_wp2
              go_roundg (p.size - (k + 1))
              case measure => have := hg.out; omega
              case rel => exact ⟨k + 1, q ++ [d] ++ [47], by omega, by go_num, by rw [List.append_assoc]; rfl, ⟨by have := hg.out; omega⟩, ⟨by rw [List.length_append]; simp at hcz ⊢; omega⟩, hcp2, rfl⟩
        · have hb := byte_eq x 47
          rw [decide_eq_false (fun e => h47 (by rw [e]; rfl)), show (((47 : UInt8).toNat : Nat) : Int) = 47 from rfl] at hb
          have hcase : x.toNat < 97 ∨ 122 < x.toNat := by omega
          clear HA HB f1 f2 hL h47
          rcases hcase with hL | hL
          all_goals
            go_wp2
            go_roundg (p.size - (k + 1))
            case measure => have := hg.out; omega
            case rel => exact ⟨k + 1, c, by omega, by go_num, rfl, ⟨by have := hg.out; omega⟩, ⟨by omega⟩, hcp, rfl⟩
    · obtain rfl : k = p.size := by omega
      have hcs : (str c).size = c.length := str_size c
      have hct : (str c).toList = c := str_toList c
      have hcz := hcl.out
      clear hlt hk hg
      by_cases h0 : c = []
      · have he : c.isEmpty = true := by rw [h0]; rfl
        clear h0
        go_wp2
        go_ret
        exact ⟨rfl, H1.out.old⟩
      · have he : c.isEmpty = false := by simp [h0]
        go_wp2_with fail
        refine (HA.out _).mono ?_
        rintro e w2 ⟨rfl, rfl⟩
        clear HA
        by_cases c1 : 0 ≤ i1
        · have c1' : decide (0 ≤ i1) = true := decide_eq_true c1
          go_wp2
          go_ret
          exact ⟨rfl, H1.out.old⟩
        · have c1' : decide (0 ≤ i1) = false := decide_eq_false c1
          go_wp2_with fail
          refine (HB.out _).mono ?_
          rintro e w2 ⟨rfl, rfl⟩
          clear HB
          by_cases c2 : 0 ≤ i2
          · have c2' : decide (0 ≤ i2) = true := decide_eq_true c2
            go_wp2
            go_ret
            exact ⟨rfl, H1.out.old⟩
          · have c2' : decide (0 ≤ i2) = false := decide_eq_false c2
            have hP1 := parse_clean c hcp.out
            have hP2 := parse_cleanS c hcp.out
            have hT1 := target_clean l c [] [] false hcp.out (by rw [decodeF])
            have hT2 := target_clean l c placeS [120, 32, 121] true hcp.out decode_place
            have HP1 : ∀ w2, Own w w2 (Old w) → Calls Try.prog 14 #[.string (str (47 :: c))] w2 fun e w' => e = .returned (.agg (refV ⟨[], [], 47 :: c, [], [], false, false, false, false⟩)) ∧ Own w w' (Old w) := fun w2 h => by
              have := uri_Parse h (str (47 :: c)) (by rw [str_size, List.length_cons]; omega)
              rw [str_data, hP1] at this
              exact this
            have HP2 : ∀ w2, Own w w2 (Old w) → Calls Try.prog 14 #[.string (str (47 :: c ++ 35 :: placeS))] w2 fun e w' => e = .returned (.agg (refV ⟨[], [], 47 :: c, [], placeS, false, false, false, true⟩)) ∧ Own w w' (Old w) := fun w2 h => by
              have := uri_Parse h (str (47 :: c ++ 35 :: placeS)) (by rw [str_size, List.length_append, List.length_cons]; simp [placeS]; omega)
              rw [str_data, hP2] at this
              exact this
            have HT1 : ∀ w2, Own w w2 (Old w) → Calls Try.prog 17 #[.string (str l), .agg (refV ⟨[], [], 47 :: c, [], [], false, false, false, false⟩)] w2 fun e w' => e = .returned (.tuple #[.string (str (fileF c)), .string ⟨#[]⟩, .int .i64 0]) ∧ Own w w' (Old w) := fun w2 h => by
              have := uri_Target decodeOk h l ⟨[], [], 47 :: c, [], [], false, false, false, false⟩ (by omega) (by simp only [List.length_cons]; omega) (by simp)
              rw [hT1] at this
              exact this
            have HT2 : ∀ w2, Own w w2 (Old w) → Calls Try.prog 17 #[.string (str l), .agg (refV ⟨[], [], 47 :: c, [], placeS, false, false, false, true⟩)] w2 fun e w' => e = .returned (.tuple #[.string (str (fileF c)), .string ⟨#[120, 32, 121]⟩, .int .i64 0]) ∧ Own w w' (Old w) := fun w2 h => by
              have := uri_Target decodeOk h l ⟨[], [], 47 :: c, [], placeS, false, false, false, true⟩ (by omega) (by simp only [List.length_cons]; omega) (by simp [placeS])
              rw [hT2] at this
              exact this
            have HP1 := Kp.mk HP1
            have HP2 := Kp.mk HP2
            have HT1 := Kp.mk HT1
            have HT2 := Kp.mk HT2
            have h47 : (⟨#[47]⟩ : ByteArray).size = 1 := rfl
            have h6 : (⟨#[35, 120, 37, 50, 48, 121]⟩ : ByteArray).size = 6 := rfl
            have hix : (⟨#[105, 110, 100, 101, 120, 46, 104, 116, 109, 108]⟩ : ByteArray).size = 10 := rfl
            have hno1 : ¬ 9223372036854775807 < 1 + c.length := by omega
            have hno2 : ¬ 9223372036854775807 < 1 + c.length + 6 := by omega
            have hno3 : ¬ 9223372036854775807 < c.length + 10 := by omega
            have ha1 : (⟨#[47]⟩ : ByteArray) ++ str c = str (47 :: c) := slash_app c
            have ha2 : str (47 :: c) ++ (⟨#[35, 120, 37, 50, 48, 121]⟩ : ByteArray) = str (47 :: c ++ 35 :: placeS) := str_app (47 :: c) (35 :: placeS)
            have ha3 : str c ++ (⟨#[105, 110, 100, 101, 120, 46, 104, 116, 109, 108]⟩ : ByteArray) = str (c ++ ixHtml) := str_app c ixHtml
            have hz1 : (str (47 :: c)).size = 1 + c.length := by rw [str_size, List.length_cons]; omega
            obtain ⟨q, d, hqd⟩ : ∃ q d, c = q ++ [d] := by
              rcases List.eq_nil_or_concat c with rfl | ⟨q, d, rfl⟩
              · exact absurd rfl h0
              · exact ⟨q, d, by rw [List.concat_eq_append]⟩
            have hf := fileF_last q d
            rw [← hqd] at hf
            have hlast : ∀ h, (str c)[q.length]'h = d := fun h => by
              subst hqd
              exact str_last q d h
            have hlen : c.length = q.length + 1 := by rw [hqd]; simp
            have hidx : ((q.length : Int) + 1 - 1).toNat = q.length := by omega
            have hb := byte_eq d 47
            rw [show (((47 : UInt8).toNat : Nat) : Int) = 47 from rfl] at hb
            have hcase : d = 47 ∧ fileF c = c ++ ixHtml ∨ ¬ d = 47 ∧ fileF c = c := by
              by_cases h : d = 47
              · exact .inl ⟨h, by rw [hf, if_pos h]⟩
              · exact .inr ⟨h, by rw [hf, if_neg h]⟩
            clear hqd hf h0 hP1 hP2 hT1 hT2 hcp f1 f2
            rcases hcase with ⟨hd, hfc⟩ | ⟨hd, hfc⟩
            case' inl => rw [decide_eq_true hd] at hb
            case' inr => rw [decide_eq_false hd] at hb
            all_goals
              rw [hfc] at HT1 HT2
              clear hd hfc
              go_wp2_with fail
              refine (HP1.out _ H1.out).mono ?_
              rintro e w3 ⟨rfl, H3⟩
              have H3 := Kp.mk H3
              clear HP1
              go_wp2_with fail
              refine (HT1.out _ H3.out).mono ?_
              rintro e w4 ⟨rfl, H4⟩
              have H4 := Kp.mk H4
              clear HT1 H3
              go_wp2_with fail
              refine (HP2.out _ H4.out).mono ?_
              rintro e w5 ⟨rfl, H5⟩
              have H5 := Kp.mk H5
              clear HP2 H4
              go_wp2_with fail
              refine (HT2.out _ H5.out).mono ?_
              rintro e w6 ⟨rfl, H6⟩
              have H6 := Kp.mk H6
              have he0 : (⟨#[]⟩ : ByteArray).toList = [] := str_toList []
              have he1 : (str (c ++ ixHtml)).toList = c ++ ixHtml := str_toList _
              clear HT2 H5
              go_wp2
              go_ret
              exact ⟨rfl, H6.out.old⟩
set_option maxHeartbeats 1000000 in
theorem uriInside_long (a s : ByteArray) (w : World) (h : 100 < a.size ∨ a.size ≤ 100 ∧ 100 < s.size) :
    Calls Try.prog 6 #[.string a, .string s] w fun e w' => e = .returned (.bool true) ∧ Below w.heap.size w w' := by
  have HH := Kp.mk (law_head (own_start w))
  rcases h with h | ⟨h1, h⟩
  case' inr =>
    have t1 : decide ((100 : Int) < (a.size : Int)) = false := decide_eq_false (by omega)
    have t1' : decide (100 < a.size) = false := decide_eq_false (by omega)
    have t2 : decide ((100 : Int) < (s.size : Int)) = true := decide_eq_true (by omega)
    have t2' : decide (100 < s.size) = true := decide_eq_true (by omega)
  case' inl =>
    have t1 : decide ((100 : Int) < (a.size : Int)) = true := decide_eq_true (by omega)
    have t1' : decide (100 < a.size) = true := decide_eq_true (by omega)
  all_goals
    go_enter Try.func6, Try.ntmps6
    go_wp2_with fail
    refine HH.out.mono ?_
    rintro e w1 ⟨rfl, H1⟩
    have H1 := Kp.mk H1
    clear HH
    go_wp2
    go_ret
    exact ⟨rfl, H1.out.old⟩
theorem uriInside_walk (a : ByteArray) (_ : a.size ≤ 140737488351232) (s : ByteArray) (_ : s.size ≤ 140737488351232) (w : World) :
    Calls Try.prog 6 #[.string a, .string s] w fun e w' => e = .returned (.bool true) ∧ Below w.heap.size w w' := by
  by_cases h1 : a.size ≤ 100
  · by_cases h2 : s.size ≤ 100
    · have h := uriInside_core a.data.toList s w (by rw [data_length]; omega) h2
      rw [str_of] at h
      exact h
    · exact uriInside_long a s w (.inr ⟨h1, by omega⟩)
  · exact uriInside_long a s w (.inl (by omega))
end Go.Proofs.YtcoaecdgodfodaaSep
