/- Own work: a law by a walk: the file and the place to which a reference leads. -/
import Derived.Test.YtcoaecdgodfodaaUriR
namespace Go.Proofs.YtcoaecdgodfodaaSep
open Go.RowKit Go.Lib Go.Proofs

theorem parse3_len (q f sc : List UInt8 × Bool) (l : List UInt8) : (parse3 q f sc l).path.length ≤ l.length ∧ (parse3 q f sc l).frag = f.1 := by
  rw [parse3]
  split
  · refine ⟨?_, rfl⟩
    simp only [List.length_drop]; omega
  · exact ⟨Nat.le_refl _, rfl⟩
theorem parseF_len (l : List UInt8) : (parseF l).path.length ≤ l.length ∧ (parseF l).frag.length ≤ l.length := by
  have h1 := cutAt_len 35 l
  have h2 := cutAt_len 63 (cutAt 35 l).1
  rw [parseF, parse2]
  split
  · rename_i r hr
    have h3 := schemeF_len _ _ hr
    have h4 := parse3_len (cutAt 63 (cutAt 35 l).1).2 (cutAt 35 l).2 (r.1, true) r.2
    rw [h4.2]
    omega
  · have h4 := parse3_len (cutAt 63 (cutAt 35 l).1).2 (cutAt 35 l).2 ([], false) (cutAt 63 (cutAt 35 l).1).1
    rw [h4.2]
    omega
/-- A guard of the law: where a byte stands that may not. -/
theorem atF_fit (c : UInt8) (l : List UInt8) : -1 ≤ atF c l := by
  have : ∀ (l : List UInt8) (k : Nat), -1 ≤ atGo c k l := by
    intro l
    induction l with
    | nil => intro k; rw [atGo]; omega
    | cons x t ih =>
      intro k
      rw [atGo]
      split
      · omega
      · exact ih _
  exact this l 0
theorem trim_hit (t : List UInt8) : Lib.trimPrefix (47 :: t) [47] = t := by
  rw [Lib.trimPrefix, if_pos (by simp [Lib.hasPrefix])]
  rfl
theorem trim_miss (c : UInt8) (t : List UInt8) (h : ¬ c = 47) : Lib.trimPrefix (c :: t) [47] = c :: t := by
  rw [Lib.trimPrefix, if_neg (by simp [Lib.hasPrefix]; exact fun e => h e.symm)]
theorem str_last (q : List UInt8) (c : UInt8) (h : q.length < (str (q ++ [c])).size) : (str (q ++ [c]))[q.length]'h = c := by
  show (q ++ [c]).toArray[q.length]'(by simp) = c
  simp
theorem fileF_last (q : List UInt8) (c : UInt8) : fileF (q ++ [c]) = if c = 47 then q ++ [c] ++ ixHtml else q ++ [c] := by
  rw [fileF]
  have h : Lib.hasSuffix (q ++ [c]) [47] = decide (c = 47) := by
    rw [Lib.hasSuffix, Bool.eq_iff_iff, List.isSuffixOf_iff_suffix, decide_eq_true_iff]
    constructor
    · rintro ⟨t, ht⟩
      have := List.append_inj_right' ht rfl
      simpa using this.symm
    · rintro rfl
      exact List.suffix_append _ _
  rw [h]
  simp
set_option maxHeartbeats 2000000 in
theorem uriTargets_core (l m : List UInt8) (w : World) (ha : l.length ≤ 100) (hs : m.length ≤ 200) :
    Calls Try.prog 5 #[.string (str l), .string (str m)] w fun e w' => e = .returned (.bool true) ∧ Below w.heap.size w w' := by
  have HH := Kp.mk (law_head (own_start w))
  have hsl : (str l).size = l.length := str_size l
  have hsm : (str m).size = m.length := str_size m
  have HA := fun w => law_at (str l) (by omega) 63 w
  have HB := fun w => law_at (str l) (by omega) 35 w
  have t1 : decide ((100 : Int) < (l.length : Int)) = false := decide_eq_false (by omega)
  have t2 : decide ((200 : Int) < (m.length : Int)) = false := decide_eq_false (by omega)
  have t1' : decide (100 < l.length) = false := decide_eq_false (by omega)
  have t2' : decide (200 < m.length) = false := decide_eq_false (by omega)
  rw [str_data] at HA HB
  have f1 := atF_fit 63 l
  have f2 := atF_fit 35 l
  generalize atF 63 l = i1 at HA f1
  generalize atF 35 l = i2 at HB f2
  change ∀ w, Calls _ _ #[_, .int .u8 63] _ _ at HA
  change ∀ w, Calls _ _ #[_, .int .u8 35] _ _ at HB
  have HA := Kp.mk HA
  have HB := Kp.mk HB
  go_enter Try.func5, Try.ntmps5
  go_wp2_with fail
  refine HH.out.mono ?_
  rintro e w1 ⟨rfl, H1⟩
  have H1 := Kp.mk H1
  clear HH
  go_wp2_with fail
  refine (HA.out _).mono ?_
  rintro e w2 ⟨rfl, rfl⟩
  clear HA
  by_cases c1 : 0 ≤ i1
  · have c1' : decide (0 ≤ i1) = true := decide_eq_true c1
    go_wp2
    go_ret
    exact ⟨rfl, H1.out.old⟩
  · have c1' : decide (0 ≤ i1) = false := decide_eq_false c1
    go_wp2_with fail
    refine (HB.out _).mono ?_
    rintro e w2 ⟨rfl, rfl⟩
    clear HB
    by_cases c2 : 0 ≤ i2
    · have c2' : decide (0 ≤ i2) = true := decide_eq_true c2
      go_wp2
      go_ret
      exact ⟨rfl, H1.out.old⟩
    · have c2' : decide (0 ≤ i2) = false := decide_eq_false c2
      have HP := Kp.mk (uri_Parse H1.out (str m) (by omega))
      have hpl := parseF_len m
      rw [str_data] at HP
      generalize parseF m = r at HP hpl
      clear f1 f2 H1
      go_wp2_with fail
      refine HP.out.mono ?_
      rintro e w3 ⟨rfl, H3⟩
      have hti : r.hs = false → r.ha = false → Kp (targetF l r = match decodeF (Lib.trimPrefix (resolveF ⟨[], [], 47 :: l, [], [], false, false, false, false⟩ r).path [47]) with
        | none => ([], [], 2)
        | some p => match decodeF r.frag with
          | none => ([], [], 2)
          | some f => (fileF p, f, 0)) := fun h1 h2 => ⟨by rw [targetF, h1, h2]; rfl⟩
      have hto : (r.hs || r.ha) = true → Kp (targetF l r = ([], [], 1)) := fun h => ⟨by rw [targetF, if_pos h]⟩
      obtain ⟨sc2, au2, pa2, qu2, fr2, bs2, ba2, bq2, bf2⟩ := r
      have H4 := H3.alloc (refO [] [] [] [] [] false false false false)
      unfold refO at H4
      unfold refV
      dsimp only at hpl hti hto ⊢
      have H4 := Kp.mk H4
      clear HP H3
      go_wp2_with (refine own_store_row w3.heap.size #[.string (str sc2), .string (str au2), .string (str pa2), .string (str qu2), .string (str fr2), .bool bs2, .bool ba2, .bool bq2, .bool bf2] H4.out rfl 28 (.tmp 5) (.tmp 35) rfl rfl rfl (by kernel_rfl) (by rfl) (by simp [Value.oneCell']) ?_)
      intro w4 H5
      clear H4
      have HT := uri_Target decodeOk H5 l ⟨sc2, au2, pa2, qu2, fr2, bs2, ba2, bq2, bf2⟩ (by omega) (by dsimp only; omega) (by dsimp only; omega)
      unfold TgtEnd refV at HT
      have HT := Kp.mk HT
      have H5 := Kp.mk H5
      generalize w3.heap.size = g at *
      by_cases hin : (bs2 || ba2) = true
      · have hto := hto hin
        rw [hto.out] at HT
        clear hti hto
        go_wp2_with (refine own_load_row g H5.out rfl 28 (.tmp 5) rfl rfl _ Try.underlying28 rfl (by kernel_rfl) ?_)
        refine HT.out.mono ?_
        rintro e w4 ⟨rfl, H6⟩
        clear HT H5
        have H6 := Kp.mk H6
        have k5 := cell_blk (j := 5) (v := .bool bs2) H6.out.blk rfl
        have k6 := cell_blk (j := 6) (v := .bool ba2) H6.out.blk rfl
        have e0 : (str []).toList = [] := str_toList _
        cases bs2
        · obtain rfl : ba2 = true := by simpa using hin
          clear hin
          go_wp2
          go_ret
          exact ⟨rfl, H6.out.drop.old⟩
        · clear hin
          go_wp2
          go_ret
          exact ⟨rfl, H6.out.drop.old⟩
      · obtain ⟨rfl, rfl⟩ : bs2 = false ∧ ba2 = false := by revert hin; cases bs2 <;> cases ba2 <;> simp
        have htj := hti rfl rfl
        clear hto hti hin
        obtain ⟨p, hpp⟩ : ∃ p, Kp (targetF l ⟨sc2, au2, pa2, qu2, fr2, false, false, bq2, bf2⟩ = p) := ⟨_, ⟨rfl⟩⟩
        rw [hpp.out] at htj HT
        obtain ⟨p, f, e⟩ := p
        clear hpp
        go_wp2_with (refine own_load_row g H5.out rfl 28 (.tmp 5) rfl rfl _ Try.underlying28 rfl (by kernel_rfl) ?_)
        refine HT.out.mono ?_
        rintro e w4 ⟨rfl, H6⟩
        clear HT H5
        have k5 := cell_blk (j := 5) (v := .bool false) H6.blk rfl
        have k6 := cell_blk (j := 6) (v := .bool false) H6.blk rfl
        have HR := uri_Resolve H6 ⟨[], [], 47 :: l, [], [], false, false, false, false⟩ ⟨sc2, au2, pa2, qu2, fr2, false, false, bq2, bf2⟩ (by simp only [List.length_cons]; omega) (by simp only; omega)
        have hres := resolveF_len ⟨[], [], 47 :: l, [], [], false, false, false, false⟩ ⟨sc2, au2, pa2, qu2, fr2, false, false, bq2, bf2⟩
        rw [List.length_cons] at hres
        obtain ⟨x, hx⟩ : ∃ x, Kp (resolveF ⟨[], [], 47 :: l, [], [], false, false, false, false⟩ ⟨sc2, au2, pa2, qu2, fr2, false, false, bq2, bf2⟩ = x) := ⟨_, ⟨rfl⟩⟩
        unfold ResEnd at HR
        rw [hx.out] at HR htj hres
        obtain ⟨sc, au, pa, qu, fr, bs, ba, bq, bf⟩ := x
        clear hx
        dsimp only at hres htj
        unfold refV at HR
        dsimp only at HR
        have HR := Kp.mk HR
        have H6 := Kp.mk H6
        have hsa := slash_app l
        have h1s : (⟨#[47]⟩ : ByteArray).size = 1 := rfl
        have hno : ¬ 9223372036854775807 < 1 + l.length := by omega
        go_wp2_with (refine own_load_row g H6.out rfl 28 (.tmp 5) rfl rfl _ Try.underlying28 rfl (by kernel_rfl) ?_)
        refine HR.out.mono ?_
        rintro e w5 ⟨rfl, H7⟩
        have H7 := Kp.mk H7
        clear HR H6 k5 k6
        obtain ⟨tq, htq⟩ : ∃ tq, Kp (Lib.trimPrefix pa [47] = tq) := ⟨_, ⟨rfl⟩⟩
        rw [htq.out] at htj
        have hql : tq.length ≤ pa.length := by rw [← htq.out]; exact trim_len pa [47]
        have hqs : (str tq).size = tq.length := str_size tq
        have hcase : pa = [] ∧ tq = [] ∨ (∃ c t, pa = c :: t ∧ ¬ c = 47 ∧ tq = c :: t) ∨ ∃ t, pa = 47 :: t ∧ tq = t := by
          rw [← htq.out]
          rcases pa with _ | ⟨c, t⟩
          · exact .inl ⟨rfl, rfl⟩
          · by_cases h : c = 47
            · subst h
              exact .inr (.inr ⟨t, rfl, trim_hit t⟩)
            · exact .inr (.inl ⟨c, t, rfl, h, trim_miss c t h⟩)
        have H8 := Kp.mk (H7.out.alloc (refO sc au pa qu fr bs ba bq bf))
        have HD := uri_Decode H8.out (str tq) (by rw [str_size]; omega)
        unfold DecEnd at HD
        rw [str_data] at HD
        have hF : ∀ {R : HP} {w7 : World}, Own w w7 R → Calls Try.prog 18 #[.string (str fr2)] w7 (DecEnd w R fr2) := fun h => by
          have := uri_Decode h (str fr2) (by rw [str_size]; omega)
          rw [str_data] at this
          exact this
        obtain ⟨o1, ho1⟩ : ∃ o, Kp (decodeF tq = o) := ⟨_, ⟨rfl⟩⟩
        obtain ⟨o2, ho2⟩ : ∃ o, Kp (decodeF fr2 = o) := ⟨_, ⟨rfl⟩⟩
        have hq1 : Kp (∀ q, o1 = some q → q.length ≤ 1000) := ⟨fun q hq => by
          have := decodeF_len _ tq q (Nat.le_refl _) (ho1.out.trans hq)
          omega⟩
        rw [ho1.out] at HD htj
        rw [ho2.out] at htj
        have hF2 : ∀ {R : HP} {w7 : World}, Own w w7 R → Calls Try.prog 18 #[.string (str fr2)] w7 (fun e w' => e = .returned (.tuple #[.string (str (o2.getD [])), .int .i64 (if o2.isSome then 0 else 2)]) ∧ Own w w' R) := fun h => by
          rw [← ho2.out]
          exact hF h
        unfold refO at HD
        have HD := Kp.mk HD
        clear htq ho1 ho2 hF
        rcases hcase with ⟨rfl, rfl⟩ | ⟨c, t, rfl, hc, rfl⟩ | ⟨t, rfl, rfl⟩
        case' inl =>
          have hpe : ([] : List UInt8).isEmpty = true := rfl
          have hpl2 : (str []).toList = [] := str_toList _
          go_wp2_with fail
        case' inr.inl =>
          have hpe : (c :: t).isEmpty = false := rfl
          have hpl2 : (str (c :: t)).toList = c :: t := str_toList _
          have hb := byte_eq c 47
          rw [decide_eq_false hc, show (((47 : UInt8).toNat : Nat) : Int) = 47 from rfl] at hb
          have hix : ∀ h, ((str (c :: t))[0]'h) = c := fun h => rfl
          go_wp2_with fail
        case' inr.inr =>
          have hpe : ((47 : UInt8) :: tq).isEmpty = false := rfl
          have hpl2 : (str (47 :: tq)).toList = 47 ::tq := str_toList _
          have hix : ∀ h, ((str (47 :: tq))[0]'h) = 47 := fun h => rfl
          have hsz : (str (47 :: tq)).size = tq.length + 1 := str_size _
          go_wp2_with fail
          rw [show (str (47 :: tq)).extract 1 (tq.length + 1) = str tq by rw [ext_mid, str_data]; simp]
        all_goals
          refine HD.out.mono ?_
          clear HD
          rintro e6 w6 ⟨rfl, H9⟩
          have k4 := cell_blk (j := 4) (v := .string (str fr2)) (H9.focB g).blk rfl
          have HF := hF2 H9
          have H9 := Kp.mk H9
          clear hF2
          rcases o1 with _ | q
          · obtain ⟨rfl, rfl, rfl⟩ : p = [] ∧ f = [] ∧ e = 2 := by simpa using htj.out
            obtain ⟨z, hz⟩ : ∃ z, (if o2.isSome = true then (0 : Int) else 2) = z := ⟨_, rfl⟩
            rw [hz] at HF
            have HF := Kp.mk HF
            clear hz
            simp only [Option.isSome_none, Bool.false_eq_true, if_false, Option.getD_none]
            go_wp2_with fail
            refine HF.out.mono ?_
            clear HF H9 k4
            rintro e7 w7 ⟨rfl, H10⟩
            have H10 := Kp.mk H10
            go_wp2
            go_ret
            exact ⟨rfl, H10.out.drop.drop.old⟩
          · have hq1 := hq1.out q rfl
            have hqs := str_size q
            have hql := str_toList q
            simp only [Option.isSome_some, if_true, Option.getD_some]
            rcases o2 with _ | f2
            · obtain ⟨rfl, rfl, rfl⟩ : p = [] ∧ f = [] ∧ e = 2 := by simpa using htj.out
              simp only [Option.isSome_none, Bool.false_eq_true, if_false, Option.getD_none] at HF
              have HF := Kp.mk HF
              go_wp2_with fail
              refine HF.out.mono ?_
              clear HF H9 k4
              rintro e7 w7 ⟨rfl, H10⟩
              have H10 := Kp.mk H10
              go_wp2
              go_ret
              exact ⟨rfl, H10.out.drop.drop.old⟩
            · obtain ⟨rfl, rfl, rfl⟩ : p = fileF q ∧ f = f2 ∧ e = 0 := by simpa using htj.out
              simp only [Option.isSome_some, if_true, Option.getD_some] at HF
              have HF := Kp.mk HF
              clear htj
              go_wp2_with fail
              refine HF.out.mono ?_
              clear HF H9 k4
              rintro e7 w7 ⟨rfl, H10⟩
              have H10 := Kp.mk H10
              have hix : (⟨#[105, 110, 100, 101, 120, 46, 104, 116, 109, 108]⟩ : ByteArray).size = 10 := rfl
              have hno : ¬ 9223372036854775807 < q.length + 10 := by omega
              have happ : str q ++ (⟨#[105, 110, 100, 101, 120, 46, 104, 116, 109, 108]⟩ : ByteArray) = str (q ++ ixHtml) := str_app q ixHtml
              have hfl := str_toList f
              rcases List.eq_nil_or_concat q with rfl | ⟨q0, c, rfl⟩
              · have hem : ([] : List UInt8).isEmpty = true := rfl
                rw [show fileF [] = [] ++ ixHtml from rfl]
                have hpl3 := str_toList ([] ++ ixHtml)
                go_wp2
                go_ret
                exact ⟨rfl, H10.out.drop.drop.old⟩
              · rw [List.concat_eq_append] at *
                have hem : (q0 ++ [c]).isEmpty = false := by simp
                have hlast : ∀ h, (str (q0 ++ [c]))[q0.length]'h = c := fun h => str_last q0 c h
                have hlen : (q0 ++ [c]).length = q0.length + 1 := by simp
                have hidx : ((q0.length : Int) + 1 - 1).toNat = q0.length := by omega
                have hf := fileF_last q0 c
                have hb := byte_eq c 47
                rw [show (((47 : UInt8).toNat : Nat) : Int) = 47 from rfl] at hb
                by_cases hc : c = 47
                · rw [decide_eq_true hc] at hb
                  rw [if_pos hc] at hf
                  rw [hf]
                  have hpl3 := str_toList (q0 ++ [c] ++ ixHtml)
                  clear hc hf
                  go_wp2
                  go_ret
                  exact ⟨rfl, H10.out.drop.drop.old⟩
                · rw [decide_eq_false hc] at hb
                  rw [if_neg hc] at hf
                  rw [hf]
                  clear hc hf
                  go_wp2
                  go_ret
                  exact ⟨rfl, H10.out.drop.drop.old⟩
end Go.Proofs.YtcoaecdgodfodaaSep
