/- Own work: a reference in its parts, by a walk. -/
import Derived.Test.YtcoaecdgodfodaaDoorUriB
import Derived.Test.YtcoaecdgodfodaaDoorBig
namespace Go.Proofs.YtcoaecdgodfodaaDoorSep
open Go.RowKit Go.Lib Go.Proofs

structure RefL where
  scheme : List UInt8
  auth : List UInt8
  path : List UInt8
  query : List UInt8
  frag : List UInt8
  hs : Bool
  ha : Bool
  hq : Bool
  hf : Bool
def refV (r : RefL) : Array Value := #[.string (str r.scheme), .string (str r.auth), .string (str r.path), .string (str r.query), .string (str r.frag), .bool r.hs, .bool r.ha, .bool r.hq, .bool r.hf]
def nilS : Value := .string ⟨#[]⟩
/-- A reference whose text has neither a place nor a query. -/
def parse3 (q f : List UInt8 × Bool) (sc : List UInt8 × Bool) (l : List UInt8) : RefL :=
  if Lib.hasPrefix l [47, 47] then ⟨sc.1, before 47 (l.drop 2), (l.drop 2).drop (before 47 (l.drop 2)).length, q.1, f.1, sc.2, true, q.2, f.2⟩
  else ⟨sc.1, [], l, q.1, f.1, sc.2, false, q.2, f.2⟩
def parse2 (q f : List UInt8 × Bool) (l : List UInt8) : RefL :=
  match schemeF l with
  | some r => parse3 q f (r.1, true) r.2
  | none => parse3 q f ([], false) l
def parseF (l : List UInt8) : RefL := parse2 (cutAt 63 (cutAt 35 l).1).2 (cutAt 35 l).2 (cutAt 63 (cutAt 35 l).1).1
set_option maxHeartbeats 2000000 in
theorem uri_Parse {W0 w : World} {R : HP} (H : Own W0 w R) (s : ByteArray) (hs : s.size < 4611686018427387904) :
    Calls Tryd.prog 8 #[.string s] w fun e w' => e = .returned (.agg (refV (parseF s.data.toList))) ∧ Own W0 w' R := by
  obtain ⟨z, hz⟩ : ∃ z, Kp (z = Obj.cells #[nilS, nilS, nilS, nilS, nilS, .bool false, .bool false, .bool false, .bool false] 28) := ⟨_, ⟨rfl⟩⟩
  have H0 := (H.alloc z).alloc z
  rw [World.size_alloc] at H0
  obtain ⟨b, hb⟩ : ∃ b, Kp (w.heap.size = b) := ⟨_, ⟨rfl⟩⟩
  rw [hb.out, hz.out] at H0
  unfold nilS at H0
  have H0 := Kp.mk H0
  clear hz H
  go_enter Tryd.func8, Tryd.ntmps8
  go_wp2_with fail
  refine (strings_Cut1 s hs 35 _).mono ?_
  rintro e w1 ⟨rfl, n, hw⟩
  rw [hb.out]
  have H1 := Kp.mk (H0.out.drawn ⟨n, hw⟩)
  clear hw H0
  obtain ⟨⟨l1, f1, hf⟩, hc1⟩ : ∃ r, Kp (cutAt 35 s.data.toList = r) := ⟨_, ⟨rfl⟩⟩
  rw [hc1.out]
  dsimp only
  have c4 := cell_blk (j := 4) (v := .string ⟨#[]⟩) H1.out.blk rfl
  have c8 := cell_blk (j := 8) (v := .bool false) H1.out.blk rfl
  have z3 : ∀ j, w1.frozen? ⟨b + 1, j, none⟩ = false := fun j => frz_blk H1.out.blk
  have hl1 : (str l1).size < 4611686018427387904 := by
    have := (cutAt_len 35 s.data.toList).1
    rw [hc1.out, data_length] at this
    simp only at this
    rw [str_size]; omega
  go_wp2_with fail
  refine (strings_Cut1 (str l1) hl1 63 _).mono ?_
  rintro e w2 ⟨rfl, n, hw⟩
  have H2 : Own W0 w2 (R * Blk b (.cells #[.string ⟨#[]⟩, .string ⟨#[]⟩, .string ⟨#[]⟩, .string ⟨#[]⟩, .string ⟨#[]⟩, .bool false, .bool false, .bool false, .bool false] 28) * Blk (b + 1) (.cells #[.string ⟨#[]⟩, .string ⟨#[]⟩, .string ⟨#[]⟩, .string ⟨#[]⟩, .string (str f1), .bool false, .bool false, .bool false, .bool hf] 28)) := ((H1.out.set 4 (.string (str f1))).set 8 (.bool hf)).drawn ⟨n, hw⟩
  have H2 := Kp.mk H2
  clear hw H1 c4 c8 z3
  rw [str_data]
  obtain ⟨⟨l2, q, hq⟩, hc2⟩ : ∃ r, Kp (cutAt 63 l1 = r) := ⟨_, ⟨rfl⟩⟩
  rw [hc2.out]
  dsimp only
  have hl2 : (str l2).size < 4611686018427387904 := by
    have := (cutAt_len 63 l1).1
    rw [hc2.out] at this
    simp only at this
    rw [str_size] at hl1 ⊢; omega
  have c3 := cell_blk (j := 3) (v := .string ⟨#[]⟩) H2.out.blk rfl
  have c7 := cell_blk (j := 7) (v := .bool false) H2.out.blk rfl
  have z3 : ∀ j, w2.frozen? ⟨b + 1, j, none⟩ = false := fun j => frz_blk H2.out.blk
  go_wp2_with fail
  refine (uri_scheme (str l2) hl2 _).mono ?_
  rintro e w3 ⟨a1, a2, rfl, hsc, n, hw⟩
  have H3 : Own W0 w3 (R * Blk b (.cells #[.string ⟨#[]⟩, .string ⟨#[]⟩, .string ⟨#[]⟩, .string ⟨#[]⟩, .string ⟨#[]⟩, .bool false, .bool false, .bool false, .bool false] 28) * Blk (b + 1) (.cells #[.string ⟨#[]⟩, .string ⟨#[]⟩, .string ⟨#[]⟩, .string (str q), .string (str f1), .bool false, .bool false, .bool hq, .bool hf] 28)) := ((H2.out.set 3 (.string (str q))).set 7 (.bool hq)).drawn ⟨n, hw⟩
  have H3 := Kp.mk H3
  clear hw H2 c3 c7 z3
  rw [str_data] at hsc ⊢
  have hP : Kp (parseF s.data.toList = parse2 (q, hq) (f1, hf) l2) := ⟨by rw [parseF, hc1.out, hc2.out]⟩
  have hlen := schemeF_len l2
  clear hc1 hc2 hl1
  rcases hF : schemeF l2 with _ | ⟨s1, l3⟩
  case' none =>
    have hP : Kp (parseF s.data.toList = parse3 (q, hq) (f1, hf) ([], false) l2) := ⟨by rw [hP.out, parse2, hF]⟩
    rw [Option.isSome_none]
    clear hF hsc hlen
    go_wp2_with fail
    generalize l2 = l3 at *
    obtain ⟨s1, hs1⟩ : ∃ s1, Kp (([] : List UInt8) = s1) := ⟨_, ⟨rfl⟩⟩
    obtain ⟨bs, hbs⟩ : ∃ bs, Kp (false = bs) := ⟨_, ⟨rfl⟩⟩
    have H4 : Own W0 w3 (R * Blk b (.cells #[.string ⟨#[]⟩, .string ⟨#[]⟩, .string ⟨#[]⟩, .string ⟨#[]⟩, .string ⟨#[]⟩, .bool false, .bool false, .bool false, .bool false] 28) * Blk (b + 1) (.cells #[.string (str s1), .string ⟨#[]⟩, .string ⟨#[]⟩, .string (str q), .string (str f1), .bool bs, .bool false, .bool hq, .bool hf] 28)) := by rw [← hs1.out, ← hbs.out]; exact H3.out
    have hP : Kp (parseF s.data.toList = parse3 (q, hq) (f1, hf) (s1, bs) l3) := ⟨by rw [hP.out, hs1.out, hbs.out]⟩
    have H4 := Kp.mk H4
    clear hs1 hbs H3
    generalize w3 = w4 at *
  case' some =>
    have hP : Kp (parseF s.data.toList = parse3 (q, hq) (f1, hf) (s1, true) l3) := ⟨by rw [hP.out, parse2, hF]⟩
    obtain ⟨e1, e2⟩ := hsc _ hF
    dsimp only at e1 e2
    subst e1 e2
    have hl2 : (str l3).size < 4611686018427387904 := by
      have := hlen _ hF
      simp only at this
      rw [str_size] at hl2 ⊢; omega
    rw [Option.isSome_some]
    clear hF hsc hlen
    have c0 := cell_blk (j := 0) (v := .string ⟨#[]⟩) H3.out.blk rfl
    have c5 := cell_blk (j := 5) (v := .bool false) H3.out.blk rfl
    have z3 : ∀ j, w3.frozen? ⟨b + 1, j, none⟩ = false := fun j => frz_blk H3.out.blk
    go_wp2_with fail
    have H4 : Own W0 ((w3.setCell ⟨b + 1, 0, none⟩ (.string (str s1))).setCell ⟨b + 1, 5, none⟩ (.bool true)) (R * Blk b (.cells #[.string ⟨#[]⟩, .string ⟨#[]⟩, .string ⟨#[]⟩, .string ⟨#[]⟩, .string ⟨#[]⟩, .bool false, .bool false, .bool false, .bool false] 28) * Blk (b + 1) (.cells #[.string (str s1), .string ⟨#[]⟩, .string ⟨#[]⟩, .string (str q), .string (str f1), .bool true, .bool false, .bool hq, .bool hf] 28)) := (H3.out.set 0 (.string (str s1))).set 5 (.bool true)
    have H4 := Kp.mk H4
    clear H3 c0 c5 z3
    generalize hw4 : (w3.setCell ⟨b + 1, 0, none⟩ (.string (str s1))).setCell ⟨b + 1, 5, none⟩ (.bool true) = w4 at H4 ⊢
    clear hw4
    obtain ⟨bs, hbs⟩ : ∃ bs, Kp (true = bs) := ⟨_, ⟨rfl⟩⟩
    rw [hbs.out] at H4 hP
    clear hbs
  all_goals
    have HP := Tryd.strings_HasPrefix (str l3) ⟨#[47, 47]⟩ w4
    rw [str_data] at HP
    change Calls _ _ _ _ (fun e w' => e = .returned (.bool (Lib.hasPrefix l3 [47, 47])) ∧ w' = w4) at HP
    refine HP.mono ?_
    clear HP
    rintro e w5 ⟨rfl, rfl⟩
    have c1 := cell_blk (j := 1) (v := .string ⟨#[]⟩) H4.out.blk rfl
    have c2 := cell_blk (j := 2) (v := .string ⟨#[]⟩) H4.out.blk rfl
    have c6 := cell_blk (j := 6) (v := .bool false) H4.out.blk rfl
    have z3 : ∀ j, w5.frozen? ⟨b + 1, j, none⟩ = false := fun j => frz_blk H4.out.blk
    by_cases hp : Lib.hasPrefix l3 [47, 47] = true
    · rw [hp]
      have hp2 : 2 ≤ l3.length := by
        have := (List.isPrefixOf_iff_prefix.1 hp).length_le
        simpa using this
      obtain ⟨au, hau⟩ : ∃ au, Kp (before 47 (l3.drop 2) = au) := ⟨_, ⟨rfl⟩⟩
      have hP2 : Kp (parseF s.data.toList = ⟨s1, au, (l3.drop 2).drop au.length, q, f1, bs, true, hq, hf⟩) := ⟨by rw [hP.out, parse3, if_pos hp, hau.out]⟩
      have HI := Tryd.strings_IndexByte ((str l3).extract 2 (str l3).size) 47 w5
      rw [ext_list, str_data, List.take_of_length_le (by rw [List.length_drop, str_size]; omega)] at HI
      change Calls _ _ _ _ (fun e w' => e = .returned (.int .i64 (Lib.indexByte (l3.drop 2) 47)) ∧ w' = w5) at HI
      have hn : Kp (au = (l3.drop 2).take au.length) ∧ au.length ≤ l3.length - 2 ∧ ((Lib.indexByte (l3.drop 2) 47 = -1 ∧ au.length = l3.length - 2) ∨ Lib.indexByte (l3.drop 2) 47 = (au.length : Int)) := by
        rcases index_before 47 (l3.drop 2) with ⟨h1, h2⟩ | ⟨h1, h2, h3⟩
        · rw [hau.out] at h2
          refine ⟨⟨by rw [h2, List.take_length]⟩, by rw [h2, List.length_drop]; omega, .inl ⟨h1, by rw [h2, List.length_drop]⟩⟩
        · rw [hau.out] at h1 h2 h3
          rw [List.length_drop] at h2
          exact ⟨⟨h3⟩, by omega, .inr h1⟩
      obtain ⟨hau2, hal, hix⟩ := hn
      obtain ⟨n, hn⟩ : ∃ n, Kp (au.length = n) := ⟨_, ⟨rfl⟩⟩
      rw [hn.out] at hal hix hau2 hP2
      have hsz : (str l3).size = l3.length := str_size l3
      have HI := Kp.mk HI
      clear hp hau hP
      have b1 : (2 : Int) + (n : Int) ≤ (l3.length : Int) := by omega
      have b2 : 2 + n ≤ l3.length := by omega
      have b3 : IntKind.i64.wrap (2 + (n : Int)) = 2 + (n : Int) := by
        have hx := hl2
        rw [hsz] at hx
        rw [IntKind.wrap_i64]; omega
      have z6 := z3
      rcases hix with ⟨hi, hn2⟩ | hi
      case' inl =>
        rw [hi] at HI
        have hcl : (l3.length : Int) - 2 = (n : Int) := by omega
        clear hn2 hi
        go_wp2_with fail
        refine HI.out.mono ?_
        rintro e w6 ⟨rfl, rfl⟩
        clear HI
        go_wp2
        clear hcl
      case' inr =>
        rw [hi] at HI
        clear hi
        go_wp2_with fail
        refine HI.out.mono ?_
        rintro e w6 ⟨rfl, rfl⟩
        clear HI
        go_wp2
      all_goals
        go_region
        have hE1 : (str l3).extract 2 (2 + n) = str au := by
          rw [ext_mid, str_data, show 2 + n - 2 = n by omega, ← hau2.out]
        have hE2 : (str l3).extract (2 + n) l3.length = str ((l3.drop 2).drop n) := by
          rw [ext_mid, str_data, List.take_of_length_le (by rw [List.length_drop]; omega), List.drop_drop]
        rw [hE1, hE2]
        clear hE1 hE2 c1 c2 c6 z3 z6 b1 b2 b3
        have H5 : Own W0 ((w6.setCell ⟨b + 1, 1, none⟩ (.string (str au))).setCell ⟨b + 1, 6, none⟩ (.bool true)).drew (R * Blk b (.cells #[.string ⟨#[]⟩, .string ⟨#[]⟩, .string ⟨#[]⟩, .string ⟨#[]⟩, .string ⟨#[]⟩, .bool false, .bool false, .bool false, .bool false] 28) * Blk (b + 1) (.cells #[.string (str s1), .string (str au), .string ⟨#[]⟩, .string (str q), .string (str f1), .bool bs, .bool true, .bool hq, .bool hf] 28)) := ((H4.out.set 1 (.string (str au))).set 6 (.bool true)).drew
        generalize hw7 : ((w6.setCell ⟨b + 1, 1, none⟩ (.string (str au))).setCell ⟨b + 1, 6, none⟩ (.bool true)).drew = w7 at H5 ⊢
        clear hw7
        obtain ⟨l4, hl4⟩ : ∃ l4, Kp ((l3.drop 2).drop n = l4) := ⟨_, ⟨rfl⟩⟩
        rw [hl4.out] at hP2 ⊢
        have c2 := cell_blk (j := 2) (v := .string ⟨#[]⟩) H5.blk rfl
        have z3 : ∀ j, w7.frozen? ⟨b + 1, j, none⟩ = false := fun j => frz_blk H5.blk
        have H6 : Own W0 (w7.setCell ⟨b + 1, 2, none⟩ (.string (str l4))) (R * Blk b (.cells #[.string ⟨#[]⟩, .string ⟨#[]⟩, .string ⟨#[]⟩, .string ⟨#[]⟩, .string ⟨#[]⟩, .bool false, .bool false, .bool false, .bool false] 28) * Blk (b + 1) (.cells #[.string (str s1), .string (str au), .string (str l4), .string (str q), .string (str f1), .bool bs, .bool true, .bool hq, .bool hf] 28)) := H5.set 2 _
        have H6 := Kp.mk H6
        clear H5 H4
        go_wp2_with (refine own_load_row (b + 1) H6.out rfl 28 (.tmp 3) rfl rfl _ Tryd.underlying28 rfl (by kernel_rfl) ?_; go_must (refine own_store_row b #[.string (str s1), .string (str au), .string (str l4), .string (str q), .string (str f1), .bool bs, .bool true, .bool hq, .bool hf] H6.out rfl 28 (.tmp 2) (.tmp 57) rfl rfl rfl (by kernel_rfl) (by rfl) (by simp [Value.oneCell']) ?_))
        intro w8 H8
        go_wp2
        refine bodyPost_ret (results_cell_row rfl _ _ b 28 _ (0, 0) _ rfl H8.blk Tryd.underlying28 rfl (by kernel_rfl)) rfl ?_
        rw [hP2.out]
        exact ⟨rfl, H8.drop.drop⟩
    · have hp : Lib.hasPrefix l3 [47, 47] = false := by simpa using hp
      rw [hp]
      have hP2 : Kp (parseF s.data.toList = ⟨s1, [], l3, q, f1, bs, false, hq, hf⟩) := ⟨by rw [hP.out, parse3, if_neg (by rw [hp]; simp)]⟩
      have H5 : Own W0 (w5.setCell ⟨b + 1, 2, none⟩ (.string (str l3))) (R * Blk b (.cells #[.string ⟨#[]⟩, .string ⟨#[]⟩, .string ⟨#[]⟩, .string ⟨#[]⟩, .string ⟨#[]⟩, .bool false, .bool false, .bool false, .bool false] 28) * Blk (b + 1) (.cells #[.string (str s1), .string ⟨#[]⟩, .string (str l3), .string (str q), .string (str f1), .bool bs, .bool false, .bool hq, .bool hf] 28)) := H4.out.set 2 _
      have H5 := Kp.mk H5
      clear hp
      go_wp2_with (refine own_load_row (b + 1) H5.out rfl 28 (.tmp 3) rfl rfl _ Tryd.underlying28 rfl (by kernel_rfl) ?_; go_must (refine own_store_row b #[.string (str s1), .string ⟨#[]⟩, .string (str l3), .string (str q), .string (str f1), .bool bs, .bool false, .bool hq, .bool hf] H5.out rfl 28 (.tmp 2) (.tmp 57) rfl rfl rfl (by kernel_rfl) (by rfl) (by simp [Value.oneCell']) ?_))
      intro w6 H6
      go_wp2
      refine bodyPost_ret (results_cell_row rfl _ _ b 28 _ (0, 0) _ rfl H6.blk Tryd.underlying28 rfl (by kernel_rfl)) rfl ?_
      rw [hP2.out]
      exact ⟨rfl, H6.drop.drop⟩
end Go.Proofs.YtcoaecdgodfodaaDoorSep
