/- Own work: the law UriDots, by a walk. -/
import Derived.Test.YtcoaecdgodfodaaUriDotA
import Derived.Test.YtcoaecdgodfodaaUriR
import Derived.Test.YtcoaecdgodfodaaQuiet
namespace Go.Proofs.YtcoaecdgodfodaaSep
open Go.RowKit Go.Lib Go.Proofs

/-- Dots at a text, as it stands in a frame. -/
theorem dots_at {W0 w : World} {R : HP} (H : Own W0 w R) (l : List UInt8) (hl : l.length ≤ 1000000) :
    Calls Try.prog 11 #[.string (str l)] w fun e w' => e = .returned (.string (str (dotsF l))) ∧ Own W0 w' R := by
  have h := uri_Dots H (str l) (by rw [str_size]; omega)
  rw [str_data] at h
  exact h
def lit2 : ByteArray := ⟨#[46, 46]⟩
set_option maxHeartbeats 4000000 in
set_option maxRecDepth 100000 in
theorem uriDots_end {W0 w : World} {R : HP} (H : Own W0 w R) :
    (∀ w, Own W0 w R → Calls Try.prog 11 #[.string ⟨#[]⟩] w fun e w' => e = .returned (.string ⟨#[]⟩) ∧ Own W0 w' R) ∧
    (∀ w, Own W0 w R → Calls Try.prog 11 #[.string ⟨#[46, 46]⟩] w fun e w' => e = .returned (.string ⟨#[]⟩) ∧ Own W0 w' R) ∧
    (∀ w, Own W0 w R → Calls Try.prog 11 #[.string ⟨#[97, 47, 98]⟩] w fun e w' => e = .returned (.string ⟨#[97, 47, 98]⟩) ∧ Own W0 w' R) := by
  obtain ⟨h1, h2, h3⟩ := dots_three
  refine ⟨fun w h => ?_, fun w h => ?_, fun w h => ?_⟩
  · have := dots_at h [] (by decide)
    rw [h1] at this
    exact this
  · have := dots_at h [46, 46] (by decide)
    rw [h2] at this
    exact this
  · have := dots_at h [97, 47, 98] (by decide)
    rw [h3] at this
    exact this
set_option maxHeartbeats 4000000 in
theorem uriDots_abs (q : List UInt8) (w : World) (hl : q.length < 200) :
    Calls Try.prog 3 #[.string (str (47 :: q))] w fun e w' => e = .returned (.bool true) ∧ Below w.heap.size w w' := by
  have HH := Kp.mk (law_head (own_start w))
  have hz : (str (47 :: q)).size = q.length + 1 := str_size _
  have t1 : decide ((200 : Int) < ((q.length : Nat) : Int) + 1) = false := decide_eq_false (by omega)
  have t1' : decide (200 < q.length + 1) = false := decide_eq_false (by omega)
  have hpl2 : (str (47 :: q)).toList = 47 :: q := str_toList _
  have hpe : ((47 : UInt8) :: q).isEmpty = false := rfl
  have hix : ∀ h, ((str (47 :: q))[0]'h) = 47 := fun h => rfl
  obtain ⟨k1, k2, k3, k4⟩ := dots_law q
  have hlen := dotsF_len (47 :: q)
  rw [k1, List.length_cons] at hlen
  obtain ⟨D, hD⟩ : ∃ D, Kp (dotsL q = D) := ⟨_, ⟨rfl⟩⟩
  obtain ⟨G, hG⟩ : ∃ G, Kp (jl D = G) := ⟨_, ⟨rfl⟩⟩
  have kA : Kp (dotsF (47 :: q) = G) := ⟨by rw [k1, hD.out, hG.out]⟩
  have kB : Kp (splitF G = [] :: D) := ⟨by rw [← hG.out, ← hD.out]; exact k2⟩
  have kC : Kp (okP ([] :: D)) := ⟨by rw [← hD.out]; exact k3⟩
  have kD : Kp (dotsF G = G) := ⟨by rw [← hG.out, ← hD.out]; exact k4⟩
  rw [hD.out, hG.out] at hlen
  have hGz : (str G).size = G.length := str_size _
  have hGt : (str G).toList = G := str_toList _
  clear k1 k2 k3 k4
  go_enter Try.func3, Try.ntmps3
  go_wp2_with fail
  refine HH.out.mono ?_
  rintro e w1 ⟨rfl, H1⟩
  have HD1 := dots_at H1 (47 :: q) (by rw [List.length_cons]; omega)
  rw [kA.out] at HD1
  have HD1 := Kp.mk HD1
  clear HH H1
  go_wp2_with fail
  refine HD1.out.mono ?_
  rintro e w2 ⟨rfl, H2⟩
  have HL := law_dots H2 q (by omega)
  rw [hD.out, hG.out] at HL
  have HL := Kp.mk HL
  clear HD1 H2
  go_wp2_with fail
  refine HL.out.mono ?_
  rintro e w3 ⟨rfl, H3⟩
  have HS := law_split H3 (str G) (by omega)
  rw [str_data, kB.out] at HS
  have HS := Kp.mk HS
  clear HL H3
  go_wp2_with fail
  refine HS.out.mono ?_
  rintro e w4 ⟨v, rfl, H4⟩
  obtain ⟨n, hn⟩ : ∃ n, Kp (([] :: D).length = n) := ⟨_, ⟨rfl⟩⟩
  obtain ⟨PP, hPP⟩ : ∃ PP, Kp (([] :: D) = PP) := ⟨_, ⟨rfl⟩⟩
  have hn0 : 0 < n := by rw [← hn.out]; simp
  rw [hn.out, hPP.out] at H4
  obtain ⟨gp, cp, rfl, hc1, hc2⟩ := H4.at0 hn0
  unfold maxLen at hc2
  have hcell : Kp (∀ j (h : j < n), ∃ x : List UInt8, w4.cell? ⟨gp, j, none⟩ = some (.string (str x)) ∧ (x == [46]) = false ∧ (x == [46, 46]) = false) := ⟨fun j h => by
    have hj : j < PP.length := by rw [← hPP.out, hn.out]; exact h
    have hm := kC.out (PP[j]'hj) (by rw [hPP.out]; exact List.getElem_mem _)
    refine ⟨PP[j]'hj, H4.cellR j _ (by rw [SV, List.getElem?_map, List.getElem?_eq_getElem hj]; rfl), by simpa using hm.1, by simpa using hm.2⟩⟩
  have H4 := Kp.mk H4
  clear HS
  go_wp2
  go_loopg [27] n (fun g vi wr => ∃ j : Nat, j ≤ n ∧ vi = .int .i64 j ∧ Kp (g + j = n) ∧ wr = w4)
  case atStart => exact ⟨0, Nat.zero_le _, rfl, ⟨by omega⟩, rfl⟩
  case round =>
    obtain ⟨j, hj, rfl, hgj, rfl⟩ := hrel
    by_cases hlj : j < n
    · obtain ⟨x, hx1, hx2, hx3⟩ := hcell.out j hlj
      have hxt : (str x).toList = x := str_toList x
      go_wp2
      go_roundg (n - (j + 1))
      case measure => have := hgj.out; omega
      case rel => exact ⟨j + 1, by omega, by go_num, ⟨by have := hgj.out; omega⟩, rfl⟩
    · obtain rfl : j = n := by omega
      have HD2 := dots_at H4.out G (by omega)
      rw [kD.out] at HD2
      have HD2 := Kp.mk HD2
      clear hlj hj
      go_wp2_with fail
      refine HD2.out.mono ?_
      rintro e w5 ⟨rfl, H5⟩
      have hle : decide ((G.length : Int) ≤ (q.length : Int) + 1) = true := decide_eq_true (by omega)
      obtain ⟨D1, D2, D3⟩ := uriDots_end H5
      have D1 := Kp.mk (D1 _ H5)
      have D2 := Kp.mk D2
      have D3 := Kp.mk D3
      clear HD2
      go_wp2_with fail
      refine D1.out.mono ?_
      rintro e w6 ⟨rfl, H6⟩
      have D2 := Kp.mk (D2.out _ H6)
      clear D1
      go_wp2_with fail
      refine D2.out.mono ?_
      rintro e w7 ⟨rfl, H7⟩
      have D3 := Kp.mk (D3.out _ H7)
      clear D2
      go_wp2_with fail
      refine D3.out.mono ?_
      rintro e w8 ⟨rfl, H8⟩
      have H8 := Kp.mk H8
      clear D3
      go_wp2
      go_ret
      exact ⟨rfl, H8.out.drop.old⟩
set_option maxHeartbeats 4000000 in
theorem uriDots_other (l : List UInt8) (w : World) (hl : l.length ≤ 200) (hc : ∀ q, ¬ l = 47 :: q) :
    Calls Try.prog 3 #[.string (str l)] w fun e w' => e = .returned (.bool true) ∧ Below w.heap.size w w' := by
  have HH := Kp.mk (law_head (own_start w))
  have hz : (str l).size = l.length := str_size _
  have t1 : decide ((200 : Int) < ((l.length : Nat) : Int)) = false := decide_eq_false (by omega)
  have t1' : decide (200 < l.length) = false := decide_eq_false (by omega)
  have hpl2 : (str l).toList = l := str_toList _
  have hlen := dotsF_len l
  obtain ⟨G, hG⟩ : ∃ G, Kp (dotsF l = G) := ⟨_, ⟨rfl⟩⟩
  rw [hG.out] at hlen
  have hGz : (str G).size = G.length := str_size _
  have hle : decide ((G.length : Int) ≤ (l.length : Int)) = true := decide_eq_true (by omega)
  have hcase : l.isEmpty = true ∨ (l.isEmpty = false ∧ ∃ c : UInt8, (∀ h, (str l)[0]'h = c) ∧ 0 < l.length ∧ (((c.toNat : Nat) : Int) == 47) = false) := by
    cases l with
    | nil => exact .inl rfl
    | cons c t =>
      refine .inr ⟨rfl, c, fun h => rfl, by simp, ?_⟩
      have := byte_eq c 47
      rw [decide_eq_false (fun e => hc t (by rw [e]))] at this
      exact this
  clear hc
  rcases hcase with he | ⟨he, c, hix, h0, hb⟩
  all_goals
    go_enter Try.func3, Try.ntmps3
    go_wp2_with fail
    refine HH.out.mono ?_
    rintro e w1 ⟨rfl, H1⟩
    have HD1 := dots_at H1 l (by omega)
    rw [hG.out] at HD1
    have HD1 := Kp.mk HD1
    clear HH H1
    go_wp2_with fail
    refine HD1.out.mono ?_
    rintro e w5 ⟨rfl, H5⟩
    obtain ⟨D1, D2, D3⟩ := uriDots_end H5
    have D1 := Kp.mk (D1 _ H5)
    have D2 := Kp.mk D2
    have D3 := Kp.mk D3
    clear HD1
    go_wp2_with fail
    refine D1.out.mono ?_
    rintro e w6 ⟨rfl, H6⟩
    have D2 := Kp.mk (D2.out _ H6)
    clear D1
    go_wp2_with fail
    refine D2.out.mono ?_
    rintro e w7 ⟨rfl, H7⟩
    have D3 := Kp.mk (D3.out _ H7)
    clear D2
    go_wp2_with fail
    refine D3.out.mono ?_
    rintro e w8 ⟨rfl, H8⟩
    have H8 := Kp.mk H8
    clear D3
    go_wp2
    go_ret
    exact ⟨rfl, H8.out.old⟩
set_option maxHeartbeats 1000000 in
theorem uriDots_long (s : ByteArray) (w : World) (h : 200 < s.size) :
    Calls Try.prog 3 #[.string s] w fun e w' => e = .returned (.bool true) ∧ Below w.heap.size w w' := by
  have HH := Kp.mk (law_head (own_start w))
  have t1 : decide ((200 : Int) < (s.size : Int)) = true := decide_eq_true (by omega)
  have t1' : decide (200 < s.size) = true := decide_eq_true (by omega)
  go_enter Try.func3, Try.ntmps3
  go_wp2_with fail
  refine HH.out.mono ?_
  rintro e w1 ⟨rfl, H1⟩
  have H1 := Kp.mk H1
  clear HH
  go_wp2
  go_ret
  exact ⟨rfl, H1.out.old⟩
theorem uriDots_walk (s : ByteArray) (_ : s.size ≤ 140737488351232) (w : World) :
    Calls Try.prog 3 #[.string s] w fun e w' => e = .returned (.bool true) ∧ Below w.heap.size w w' := by
  by_cases h1 : s.size ≤ 200
  · have hl := data_length s
    rw [← str_of s]
    by_cases hc : ∃ q, s.data.toList = 47 :: q
    · obtain ⟨q, hq⟩ := hc
      rw [hq] at hl ⊢
      rw [List.length_cons] at hl
      exact uriDots_abs q w (by omega)
    · exact uriDots_other s.data.toList w (by omega) (fun q hq => hc ⟨q, hq⟩)
  · exact uriDots_long s w (by omega)
end Go.Proofs.YtcoaecdgodfodaaSep
