/- Own work: the law UriAny, at all inputs. -/
import Derived.Test.YtcoaecdgodfodaaUriAny1
import Derived.Test.YtcoaecdgodfodaaUriAny2
import Derived.Test.YtcoaecdgodfodaaUriAny3
import Derived.Test.YtcoaecdgodfodaaUriAny4
import Derived.Test.YtcoaecdgodfodaaUriAny5
namespace Go.Proofs.YtcoaecdgodfodaaSep
open Go.RowKit Go.Lib Go.Proofs

theorem uriAny_core (l m : List UInt8) (w : World) (hl : l.length ≤ 200) (hm : m.length ≤ 200) :
    Calls Try.prog 4 #[.string (str l), .string (str m)] w fun e w' => e = .returned (.bool true) ∧ Below w.heap.size w w' := by
  have h1 := (parseF_len l).1
  have h2 := (parseF_len m).1
  obtain ⟨b, hb⟩ : ∃ b, parseF l = b := ⟨_, rfl⟩
  obtain ⟨r, hr⟩ : ∃ r, parseF m = r := ⟨_, rfl⟩
  rw [hb] at h1
  rw [hr] at h2
  obtain ⟨sc, au, pa, qu, fr, bs, ba, bq, bf⟩ := b
  obtain ⟨sc2, au2, pa2, qu2, fr2, bs2, ba2, bq2, bf2⟩ := r
  dsimp only at h1 h2
  have h1 : pa.length ≤ 200 := by omega
  have h2 : pa2.length ≤ 200 := by omega
  cases bs2 with
  | true => exact uriAny_scheme l m w hl hm sc au pa qu fr sc2 au2 pa2 qu2 fr2 bs ba bq bf ba2 bq2 bf2 hb hr h1 h2
  | false =>
    cases ba2 with
    | true => exact uriAny_auth l m w hl hm sc au pa qu fr sc2 au2 pa2 qu2 fr2 bs ba bq bf bq2 bf2 hb hr h1 h2
    | false =>
      rcases pa2 with _ | ⟨c2, q2⟩
      · cases bq2 with
        | true => exact uriAny_empty_true l m w hl hm sc au pa qu fr sc2 au2 [] qu2 fr2 bs ba bq bf bf2 hb hr h1 h2 rfl
        | false => exact uriAny_empty_false l m w hl hm sc au pa qu fr sc2 au2 [] qu2 fr2 bs ba bq bf bf2 hb hr h1 h2 rfl
      · by_cases hc : c2 = 47
        · exact uriAny_abs l m w hl hm sc au pa qu fr sc2 au2 (c2 :: q2) qu2 fr2 bs ba bq bf bq2 bf2 hb hr h1 h2 c2 q2 rfl hc
        · exact uriAny_rel l m w hl hm sc au pa qu fr sc2 au2 (c2 :: q2) qu2 fr2 bs ba bq bf bq2 bf2 hb hr h1 h2 c2 q2 rfl hc
set_option maxHeartbeats 1000000 in
set_option maxRecDepth 100000 in
theorem uriAny_long (a s : ByteArray) (w : World) (h : 200 < a.size ∨ a.size ≤ 200 ∧ 200 < s.size) :
    Calls Try.prog 4 #[.string a, .string s] w fun e w' => e = .returned (.bool true) ∧ Below w.heap.size w w' := by
  have HH := Kp.mk (law_head (own_start w))
  rcases h with h | ⟨h1, h⟩
  case' inr =>
    have t1 : decide ((200 : Int) < (a.size : Int)) = false := decide_eq_false (by omega)
    have t1' : decide (200 < a.size) = false := decide_eq_false (by omega)
    have t2 : decide ((200 : Int) < (s.size : Int)) = true := decide_eq_true (by omega)
    have t2' : decide (200 < s.size) = true := decide_eq_true (by omega)
  case' inl =>
    have t1 : decide ((200 : Int) < (a.size : Int)) = true := decide_eq_true (by omega)
    have t1' : decide (200 < a.size) = true := decide_eq_true (by omega)
  all_goals
    go_enter Try.func4, Try.ntmps4
    go_wp2_with fail
    refine HH.out.mono ?_
    rintro e w1 ⟨rfl, H1⟩
    have H1 := Kp.mk H1
    clear HH
    go_wp2
    go_ret
    exact ⟨rfl, H1.out.old⟩
theorem uriAny_walk (a : ByteArray) (_ : a.size ≤ 140737488351232) (s : ByteArray) (_ : s.size ≤ 140737488351232) (w : World) :
    Calls Try.prog 4 #[.string a, .string s] w fun e w' => e = .returned (.bool true) ∧ Below w.heap.size w w' := by
  by_cases h1 : a.size ≤ 200
  · by_cases h2 : s.size ≤ 200
    · have h := uriAny_core a.data.toList s.data.toList w (by rw [data_length]; omega) (by rw [data_length]; omega)
      rw [str_of, str_of] at h
      exact h
    · exact uriAny_long a s w (.inr ⟨h1, by omega⟩)
  · exact uriAny_long a s w (.inl (by omega))
end Go.Proofs.YtcoaecdgodfodaaSep
