/- Own work: MetaSources: the walk. -/
import Derived.Test.YtcoaecdgodfodaaDoorMetaC
namespace Go.Proofs.YtcoaecdgodfodaaDoorSep
open Go.RowKit Go.Lib Go.Proofs Go.Shelf
def answF (b : Bool) (dp : Option (List UInt8)) : Option (List UInt8) := if b then match dp with | none => none | some p => pickF p else none
theorem srcF_eq (l : List UInt8) (r : RefL) : srcF l r = answF (plainR r) (decodeF (namesF l r)) := rfl
theorem toF_cases {l tq : List UInt8} (h : Lib.trimPrefix l [47] = tq) : (l = [] ∧ tq = l) ∨ (∃ c t, l = c :: t ∧ c = 47 ∧ tq = t) ∨ (∃ c t, l = c :: t ∧ c ≠ 47 ∧ tq = l) := by
  subst h
  rcases l with _ | ⟨c, t⟩
  · exact .inl ⟨rfl, rfl⟩
  · by_cases h : c = 47
    · subst h
      exact .inr (.inl ⟨_, _, rfl, rfl, trim_hit t⟩)
    · exact .inr (.inr ⟨_, _, rfl, h, trim_miss c t h⟩)
theorem answF_no (dp : Option (List UInt8)) : answF false dp = none := rfl
theorem answF_none : answF true none = none := rfl
theorem answF_some (p : List UInt8) : answF true (some p) = pickF p := rfl
theorem ref_path (a b c d e : ByteArray) (x y z u : Bool) (w : World) : (Instr.field 28 (.agg #[.string a, .string b, .string c, .string d, .string e, .bool x, .bool y, .bool z, .bool u]) 2).run Tryd.prog w = .ok (.string c) w := by kernel_rfl
set_option maxRecDepth 100000 in
set_option maxHeartbeats 4000000 in
theorem metaSources_core (l n : List UInt8) (w : World) (m : Int) (hm : MaxL w (Old w) m) :
    Calls Tryd.prog 3 #[.string (str l), .string (str n)] w fun e w' => e = .returned (.bool true) ∧ Below w.heap.size w w' := by
  have hsl : (str l).size = l.length := str_size l
  have hsn : (str n).size = n.length := str_size n
  have HH := Kp.mk (meta_head hm (own_start w))
  by_cases h1 : 100 < l.length
  · have t1 : decide ((100 : Int) < ((str l).size : Int)) = true := decide_eq_true (by omega)
    have t1' : 100 < (str l).size := by omega
    clear hm hsl hsn h1
    go_enter Tryd.func3, Tryd.ntmps3
    go_wp2_with fail
    refine HH.out.mono ?_
    rintro e w1 ⟨rfl, H1⟩
    replace H1 := Kp.mk H1
    clear HH
    go_wp2
    go_ret
    exact ⟨rfl, H1.out.old⟩
  have t1 : decide ((100 : Int) < ((str l).size : Int)) = false := decide_eq_false (by omega)
  have t1' : ¬ 100 < (str l).size := by omega
  by_cases h2 : 200 < n.length
  · have t2 : decide ((200 : Int) < ((str n).size : Int)) = true := decide_eq_true (by omega)
    have t2' : 200 < (str n).size := by omega
    clear hm hsl hsn h1 h2
    go_enter Tryd.func3, Tryd.ntmps3
    go_wp2_with fail
    refine HH.out.mono ?_
    rintro e w1 ⟨rfl, H1⟩
    replace H1 := Kp.mk H1
    clear HH
    go_wp2
    go_ret
    exact ⟨rfl, H1.out.old⟩
  have t2 : decide ((200 : Int) < ((str n).size : Int)) = false := decide_eq_false (by omega)
  have t2' : ¬ 200 < (str n).size := by omega
  have hl : l.length ≤ 100 := by omega
  have hn : n.length ≤ 200 := by omega
  have HS := fun w1 (h : Own w w1 (Old w)) => meta_Source hm h l n (by omega) (by omega)
  have htl := trimF_len n
  have hpl := (parseF_len (trimF n)).1
  have hPa := fun w1 (h : Own w w1 (Old w)) => uri_Parse h (str (trimF n)) (by rw [str_size]; omega)
  rw [str_data] at hPa
  obtain ⟨x, hx⟩ : ∃ x, parseF (trimF n) = x := ⟨_, rfl⟩
  have hres := resolveF_len (baseR l) x
  have hb : (baseR l).path.length = l.length + 1 := rfl
  rw [hx] at hPa hpl HS
  clear hx
  obtain ⟨sc, au, pa, qu, fr, bs, ba, bq, bf⟩ := x
  dsimp only at hpl
  have HR := fun w1 (R1 : HP) (h : Own w w1 R1) => uri_Resolve h (baseR l) ⟨sc, au, pa, qu, fr, bs, ba, bq, bf⟩ (by rw [hb]; omega) (by show pa.length ≤ _; omega)
  unfold ResEnd at HR
  have h47 : (ByteArray.mk #[47]).size = 1 := rfl
  have hno : ¬ 9223372036854775807 < 1 + (str l).size := by omega
  have hap : ByteArray.mk #[47] ++ str l = str (47 :: l) := str_app [47] l
  obtain ⟨bp, hbp⟩ : ∃ b, decide (pa = []) = b := ⟨_, rfl⟩
  have e1 : (str pa).toList.isEmpty = bp := by rw [str_toList, ← hbp]; cases pa <;> simp
  have hpr : plainR ⟨sc, au, pa, qu, fr, bs, ba, bq, bf⟩ = (!bs && !ba && !bq && !bf && !bp) := by rw [plainR, hbp]
  rw [srcF_eq, hpr, namesF] at HS
  obtain ⟨y, hy⟩ : ∃ y, resolveF (baseR l) ⟨sc, au, pa, qu, fr, bs, ba, bq, bf⟩ = y := ⟨_, rfl⟩
  rw [hy] at HS HR hres
  obtain ⟨sc3, au3, pa3, qu3, fr3, bs3, ba3, bq3, bf3⟩ := y
  dsimp only at HS hres
  rw [hb] at hres
  obtain ⟨tq, htq⟩ : ∃ tq, Lib.trimPrefix pa3 [47] = tq := ⟨_, rfl⟩
  have hql : tq.length ≤ 3000 := by
    have := trim_len pa3 [47]
    rw [htq] at this
    omega
  have HD := fun w1 (R1 : HP) (h : Own w w1 R1) => uri_Decode h (str tq) (by rw [str_size]; omega)
  unfold DecEnd at HD
  rw [str_data] at HD
  have hdl := fun p => decodeF_len _ tq p (Nat.le_refl _)
  rw [htq] at HS
  obtain ⟨dp, hdp⟩ : ∃ dp, decodeF tq = dp := ⟨_, rfl⟩
  rw [hdp] at HD HS
  have hRgt : ∀ p, dp = some p → ∀ w1, Own w w1 (Old w) → Calls Tryd.prog 11 #[.string (str p)] w1 fun e w' => e = .returned (.bool (rightF p)) ∧ Own w w' (Old w) := fun p hp w1 h => by
    have h5 := hdl p (hdp.trans hp)
    exact path_Right hm h p (by omega)
  unfold refV at hPa HR
  unfold baseR at HR
  dsimp only at hPa HR
  obtain ⟨sv, hsv⟩ : ∃ sv, answF (!bs && !ba && !bq && !bf && !bp) dp = sv := ⟨_, rfl⟩
  rw [hsv] at HS
  unfold SrcEnd at HS
  clear hm hdl hdp hb hpr hbp hy h1 h2
  replace HS := Kp.mk HS
  replace hPa := Kp.mk hPa
  replace HR := Kp.mk HR
  replace HD := Kp.mk HD
  replace hRgt := Kp.mk hRgt
  replace hsv := Kp.mk hsv
  replace hsl := Kp.mk hsl
  replace hsn := Kp.mk hsn
  replace htq := Kp.mk htq
  replace hap := Kp.mk hap
  go_enter Tryd.func3, Tryd.ntmps3
  go_wp2_with fail
  refine HH.out.mono ?_
  rintro e w1 ⟨rfl, H1⟩
  have HX := Kp.mk (HS.out _ H1)
  clear HH H1 HS
  go_wp2_with fail
  refine HX.out.mono ?_
  rintro e w2 ⟨rfl, H2⟩
  replace H2 := Kp.mk H2
  clear HX
  obtain ⟨ev, hev⟩ : ∃ ev : Int, Kp ((if sv.isSome = true then 0 else 2) = ev) := ⟨_, ⟨rfl⟩⟩
  rw [hev.out]
  obtain ⟨gv, hgv⟩ : ∃ gv, Kp (sv.getD [] = gv) := ⟨_, ⟨rfl⟩⟩
  rw [hgv.out]
  go_wp2
  go_loopg [7] n.length (fun gk v wr => ∃ s : List UInt8, v = .string (str s) ∧ s.length ≤ gk ∧ gk ≤ n.length ∧ Kp (trimL s = trimL n) ∧ Kp (Own w wr (Old w)))
  case atStart => exact ⟨n, rfl, Nat.le_refl _, Nat.le_refl _, ⟨rfl⟩, H2⟩
  case round =>
    obtain ⟨s, rfl, hs, hg, ht, HO⟩ := hrel
    have hz : (str s).size = s.length := str_size s
    have hsl2 : s.length ≤ n.length := by omega
    clear H2
    by_cases h0 : s = []
    case' pos =>
      have f1 : decide ((0 : Int) < ((str s).size : Int)) = false := decide_eq_false (by rw [hz, h0]; simp)
      have f1' : ¬ 0 < (str s).size := by rw [hz, h0]; simp
      have hs2 : Kp (trimR s = trimF n) := ⟨by rw [trimF, ← ht.out, h0]; rfl⟩
      clear hs hz ht h0
      go_wp2
    case' neg =>
      obtain ⟨c, t, hsx⟩ : ∃ c t, s = c :: t := by
        rcases s with _ | ⟨c, t⟩
        · exact absurd rfl h0
        · exact ⟨c, t, rfl⟩
      have e2 : 0 < (str s).size := by rw [hz, hsx]; simp
      have f1 : decide ((0 : Int) < ((str s).size : Int)) = true := decide_eq_true (by omega)
      have hat : (str s)[0] = c := by
        have h9 : s[0]? = some c := by rw [hsx]; rfl
        rw [List.getElem?_eq_getElem (by rwa [str_size] at e2)] at h9
        exact (str_at s 0 e2).trans (Option.some.inj h9)
      have hB := Kp.mk (law_blank c wr)
      rcases hbl : blankB c with _ | _
    case neg.true =>
      rw [hsx, trimL_blank c t hbl] at ht
      have e3 : (str s).extract 1 (str s).size = str t := by rw [ext_drop, str_data, hsx]; rfl
      have hlen : t.length + 1 ≤ gk := by rw [hsx] at hs; exact hs
      rw [hbl] at hB
      clear hbl hs hsx h0
      replace hz := Kp.mk hz
      go_wp2_with fail
      refine hB.out.mono ?_
      rintro e w1 ⟨rfl, rfl⟩
      go_wp2
      go_roundg t.length
      case rel => exact ⟨t, rfl, Nat.le_refl _, by omega, ht, HO⟩
      case measure => omega
    case' neg.false =>
      have hs2 : Kp (trimR s = trimF n) := ⟨by rw [trimF, ← ht.out, hsx, trimL_other c t hbl]⟩
      rw [hbl] at hB
      clear hbl hs hz ht hsx h0
      go_wp2_with fail
      refine hB.out.mono ?_
      rintro e w1 ⟨rfl, rfl⟩
      clear hB
      go_wp2
    all_goals
      go_loopg [7] s.length (fun gk v wr => ∃ s : List UInt8, v = .string (str s) ∧ s.length ≤ gk ∧ gk ≤ n.length ∧ Kp (trimR s = trimF n) ∧ Kp (Own w wr (Old w)))
      case atStart => exact ⟨s, rfl, Nat.le_refl _, hsl2, hs2, HO⟩
      case round =>
        obtain ⟨s, rfl, hs, hg, ht, HO⟩ := hrel
        have hz : (str s).size = s.length := str_size s
        by_cases h0 : s = []
        case' pos =>
          have f1 : decide ((0 : Int) < ((str s).size : Int)) = false := decide_eq_false (by rw [hz, h0]; simp)
          have f1' : ¬ 0 < (str s).size := by rw [hz, h0]; simp
          have hr : Kp (s = trimF n) := ⟨by rw [← ht.out, h0]; rfl⟩
          clear h0 hz hs ht
          go_wp2_with fail
        case' neg =>
          obtain ⟨t, c, hsx⟩ := last_snoc h0
          have hnn : s.length = t.length + 1 := by rw [hsx]; simp
          rw [hnn] at hz
          have e2 : t.length < (str s).size := by omega
          have f1 : decide ((0 : Int) < ((str s).size : Int)) = true := decide_eq_true (by omega)
          have hat : (str s)[t.length] = c := by
            have h9 : s[t.length]? = some c := by rw [hsx]; simp
            rw [List.getElem?_eq_getElem (by omega)] at h9
            exact (str_at s t.length e2).trans (Option.some.inj h9)
          have e3 : (str s).extract 0 t.length = str t := by rw [ext_take, str_data, hsx, List.take_left]
          have hB := Kp.mk (law_blank c wr)
          clear h0
          rcases hbl : blankB c with _ | _
        case neg.true =>
          rw [hbl] at hB
          rw [hsx, trimR_blank c t hbl] at ht
          clear hbl hsx
          go_wp2_with fail
          refine hB.out.mono ?_
          rintro e w1 ⟨rfl, rfl⟩
          go_wp2
          go_roundg t.length
          case rel => exact ⟨t, rfl, Nat.le_refl _, by omega, ht, HO⟩
          case measure => omega
        case' neg.false =>
          rw [hbl] at hB
          rw [hsx, trimR_other c t hbl] at ht
          have hr : Kp (s = trimF n) := ⟨by rw [← ht.out, hsx]⟩
          clear hbl hsx ht
          go_wp2_with fail
          refine hB.out.mono ?_
          rintro e w1 ⟨rfl, rfl⟩
          clear hB hs hg
          go_wp2_with fail
        all_goals
          have HX := hPa.out _ HO.out
          rw [← hr.out] at HX
          replace HX := Kp.mk HX
          refine HX.out.mono ?_
          rintro e w4 ⟨rfl, H4⟩
          clear HX hPa HO hr
          have hap2 := hap.out
          by_cases hp5 : (!bs && !ba && !bq && !bf && !bp) = true
          case neg =>
            have hp6 : (!bs && !ba && !bq && !bf && !bp) = false := by simpa using hp5
            have hsv2 := hsv.out
            rw [hp6, answF_no] at hsv2
            have ev2 : ev = 2 := by rw [← hev.out, ← hsv2]; rfl
            have gv2 : (str gv).toList.isEmpty = true := by rw [str_toList, ← hgv.out, ← hsv2]; rfl
            subst ev2
            clear hsv hev hgv hsv2 hp5 hap HR HD hRgt htq hres hql
            replace hp6 := Kp.mk hp6
            replace H4 := Kp.mk H4
            rcases bs with _ | _
            case' false => rcases ba with _ | _
            case' false.false => rcases bq with _ | _
            case' false.false.false => rcases bf with _ | _
            case' false.false.false.false => obtain rfl : bp = true := by simpa using hp6.out
            all_goals
              go_wp2
              go_ret
              exact ⟨rfl, (H4.out.box _).old⟩
          case pos =>
            obtain ⟨rfl, rfl, rfl, rfl, rfl⟩ : bs = false ∧ ba = false ∧ bq = false ∧ bf = false ∧ bp = false := by
              revert hp5; cases bs <;> cases ba <;> cases bq <;> cases bf <;> cases bp <;> simp
            have hsv2 := hsv.out
            rw [show (!false && !false && !false && !false && !false) = true from rfl] at hsv2
            have HX := HR.out _ _ (H4.alloc (refO sc au pa qu fr false false false false))
            unfold refO at HX
            replace HX := Kp.mk HX
            clear hsv hp5 hap HR H4
            go_wp2_with fail
            refine HX.out.mono ?_
            rintro e w5 ⟨rfl, H5⟩
            replace H5 := H5.drop
            have HX := HD.out _ _ H5
            clear HD H5
            have hfd := ref_path (str sc3) (str au3) (str pa3) (str qu3) (str fr3) bs3 ba3 bq3 bf3 w5
            have hz3 : (str pa3).size = pa3.length := str_size pa3
            rcases toF_cases htq.out with ⟨h0, h9⟩ | ⟨c3, t3, hc, hcc, h9⟩ | ⟨c3, t3, hc, hcc, h9⟩
            case' inl =>
              rw [h9] at HX
              have f1 : (str pa3).toList.isEmpty = true := by rw [str_toList, h0]; rfl
              replace HX := Kp.mk HX
              replace hz3 := Kp.mk hz3
              replace h9 := Kp.mk h9
              clear h0
              go_wp2_with fail
            case' inr.inl =>
              have f1 : (str pa3).toList.isEmpty = false := by rw [str_toList, hc]; rfl
              have f2 : 0 < (str pa3).size := by rw [hz3, hc]; simp
              have f3 : (str pa3)[0] = c3 := by
                have h8 : pa3[0]? = some c3 := by rw [hc]; rfl
                rw [List.getElem?_eq_getElem (by rwa [str_size] at f2)] at h8
                exact (str_at pa3 0 f2).trans (Option.some.inj h8)
              have f4 : (str pa3).extract 1 (str pa3).size = str tq := by rw [ext_drop, str_data, hc, h9]; rfl
              have f5 : ((c3.toNat : Int) == 47) = true := by rw [hcc]; rfl
              replace HX := Kp.mk HX
              replace hz3 := Kp.mk hz3
              replace h9 := Kp.mk h9
              clear hc hcc
              go_wp2_with fail
            case' inr.inr =>
              rw [h9] at HX
              have f1 : (str pa3).toList.isEmpty = false := by rw [str_toList, hc]; rfl
              have f2 : 0 < (str pa3).size := by rw [hz3, hc]; simp
              have f3 : (str pa3)[0] = c3 := by
                have h8 : pa3[0]? = some c3 := by rw [hc]; rfl
                rw [List.getElem?_eq_getElem (by rwa [str_size] at f2)] at h8
                exact (str_at pa3 0 f2).trans (Option.some.inj h8)
              have f5 : ((c3.toNat : Int) == 47) = false := by
                have := byte_eq c3 47
                rw [decide_eq_false hcc] at this
                exact this
              replace HX := Kp.mk HX
              replace hz3 := Kp.mk hz3
              replace h9 := Kp.mk h9
              clear hc hcc
              go_wp2_with fail
            all_goals
              refine HX.out.mono ?_
              rintro e w6 ⟨rfl, H6⟩
              clear HX
              rcases dp with _ | p
              · rw [answF_none] at hsv2
                have ev2 : ev = 2 := by rw [← hev.out, ← hsv2]; rfl
                have gv2 : (str gv).toList.isEmpty = true := by rw [str_toList, ← hgv.out, ← hsv2]; rfl
                subst ev2
                clear hev hgv hsv2
                replace H6 := Kp.mk H6
                go_wp2
                go_ret
                exact ⟨rfl, H6.out.old⟩
              · rw [answF_some] at hsv2
                have HY := hRgt.out p rfl _ H6
                obtain ⟨q, hq⟩ : ∃ q, rightF p = q := ⟨_, rfl⟩
                rw [hq] at HY
                rw [pickF, hq] at hsv2
                replace HY := Kp.mk HY
                clear hq hRgt H6
                rcases q with _ | _
                · have ev2 : ev = 2 := by rw [← hev.out, ← hsv2]; rfl
                  have gv2 : (str gv).toList.isEmpty = true := by rw [str_toList, ← hgv.out, ← hsv2]; rfl
                  subst ev2
                  clear hev hgv hsv2
                  go_wp2_with fail
                  refine HY.out.mono ?_
                  rintro e w7 ⟨rfl, H7⟩
                  clear HY
                  replace H7 := Kp.mk H7
                  go_wp2
                  go_ret
                  exact ⟨rfl, H7.out.old⟩
                · have ev2 : ev = 0 := by rw [← hev.out, ← hsv2]; rfl
                  have gv2 : gv = p := by rw [← hgv.out, ← hsv2]; rfl
                  subst ev2 gv2
                  clear hev hgv hsv2
                  go_wp2_with fail
                  refine HY.out.mono ?_
                  rintro e w7 ⟨rfl, H7⟩
                  clear HY
                  replace H7 := Kp.mk H7
                  go_wp2
                  go_ret
                  exact ⟨rfl, H7.out.old⟩
theorem metaSources_walk (a : ByteArray) (_ : a.size ≤ 140737488351232) (b : ByteArray) (_ : b.size ≤ 140737488351232) (w : World) (hm : ∃ m, w.cell? ⟨0, 0, none⟩ = some (.int .i64 m)) :
    Calls Tryd.prog 3 #[.string a, .string b] w fun e w' => e = .returned (.bool true) ∧ Below w.heap.size w w' := by
  obtain ⟨m, hm⟩ := hm
  have h := metaSources_core a.data.toList b.data.toList w m (maxL_of hm)
  rwa [str_of, str_of] at h
end Go.Proofs.YtcoaecdgodfodaaDoorSep
