/- Own work: meta.Source by a walk. -/
import Derived.Test.YtcoaecdgodfodaaDoorMetaA
import Derived.Test.YtcoaecdgodfodaaDoorPathDr
import Derived.Test.YtcoaecdgodfodaaDoorUriM
import Derived.Test.YtcoaecdgodfodaaDoorUriN
import Derived.Test.YtcoaecdgodfodaaDoorUriP
import Derived.Test.YtcoaecdgodfodaaDoorUriPl
namespace Go.Proofs.YtcoaecdgodfodaaDoorSep
open Go.RowKit Go.Lib Go.Proofs Go.Shelf
def baseR (l : List UInt8) : RefL := ⟨[], [], 47 :: l, [], [], false, false, false, false⟩
def plainR (r : RefL) : Bool := !r.hs && !r.ha && !r.hq && !r.hf && !decide (r.path = [])
/-- What a reference names from a source: its text before it is decoded. -/
def namesF (l : List UInt8) (r : RefL) : List UInt8 := Lib.trimPrefix (resolveF (baseR l) r).path [47]
def pickF (p : List UInt8) : Option (List UInt8) := if rightF p then some p else none
def srcF (l : List UInt8) (r : RefL) : Option (List UInt8) := if plainR r then match decodeF (namesF l r) with | none => none | some p => pickF p else none
def SrcEnd (W0 : World) (R : HP) (t : Option (List UInt8)) (e : Ending) (w' : World) : Prop :=
  e = .returned (.tuple #[.string (str (t.getD [])), .int .i64 (if t.isSome then 0 else 2)]) ∧ Own W0 w' R
theorem srcEnd_none {W0 w : World} {R : HP} (H : Own W0 w R) : SrcEnd W0 R none (.returned (.tuple #[.string ⟨#[]⟩, .int .i64 2])) w := ⟨rfl, H⟩
theorem srcEnd_some {W0 w : World} {R : HP} (H : Own W0 w R) (p : List UInt8) : SrcEnd W0 R (some p) (.returned (.tuple #[.string (str p), .int .i64 0])) w := ⟨rfl, H⟩
set_option maxHeartbeats 4000000 in
theorem meta_Source {W0 w : World} {R : HP} {m : Int} (hm : MaxL W0 R m) (H : Own W0 w R) (l n : List UInt8) (hl : l.length ≤ 1000) (hn : n.length ≤ 1000) :
    Calls Tryd.prog 6 #[.string (str l), .string (str n)] w (SrcEnd W0 R (srcF l (parseF (trimF n)))) := by
  have htl := trimF_len n
  have hpl := (parseF_len (trimF n)).1
  have HT := Kp.mk (text_Trim H n (by omega))
  have HPa := fun w1 (h : Own W0 w1 R) => uri_Parse h (str (trimF n)) (by rw [str_size]; omega)
  rw [str_data] at HPa
  obtain ⟨u, hu⟩ : ∃ u, trimF n = u := ⟨_, rfl⟩
  rw [hu] at HT HPa htl hpl ⊢
  have hres := resolveF_len (baseR l) (parseF u)
  have hb : (baseR l).path.length = l.length + 1 := rfl
  obtain ⟨x, hx⟩ : ∃ x, parseF u = x := ⟨_, rfl⟩
  rw [hx] at HPa hpl hres ⊢
  clear hu hx
  obtain ⟨sc, au, pa, qu, fr, bs, ba, bq, bf⟩ := x
  dsimp only at hpl
  have HI := fun w1 (R1 : HP) (h : Own W0 w1 R1) => uri_Inside h ⟨sc, au, pa, qu, fr, bs, ba, bq, bf⟩
  dsimp only at HI
  have hsl : (str l).size = l.length := str_size l
  have h47 : (ByteArray.mk #[47]).size = 1 := rfl
  have hno : ¬ 9223372036854775807 < 1 + l.length := by omega
  have hap : ByteArray.mk #[47] ++ str l = str (47 :: l) := str_app [47] l
  have hpz : (str pa).toList = pa := str_toList pa
  by_cases hpr : plainR ⟨sc, au, pa, qu, fr, bs, ba, bq, bf⟩ = true
  case neg =>
    have hs0 : srcF l ⟨sc, au, pa, qu, fr, bs, ba, bq, bf⟩ = none := by rw [srcF, if_neg hpr]
    rw [hs0]
    obtain ⟨bp, hbp⟩ : ∃ b, decide (pa = []) = b := ⟨_, rfl⟩
    have hpr2 : Kp ((!bs && !ba && !bq && !bf && !bp) = false) := ⟨by
      have : plainR ⟨sc, au, pa, qu, fr, bs, ba, bq, bf⟩ = (!bs && !ba && !bq && !bf && !bp) := by rw [plainR, hbp]
      rw [← this]
      simpa using hpr⟩
    have e1 : (str pa).toList.isEmpty = bp := by rw [str_toList, ← hbp]; cases pa <;> simp
    unfold refV at HPa HI
    dsimp only at HPa HI
    replace HPa := Kp.mk HPa
    replace HI := Kp.mk HI
    clear hpr hs0 hbp hpz hres hm hsl h47 hno hap
    go_enter Tryd.func6, Tryd.ntmps6
    go_wp2_with fail
    refine HT.out.mono ?_
    rintro e w1 ⟨rfl, H1⟩
    have HX := Kp.mk (HPa.out _ H1)
    clear HT H1
    go_wp2_with fail
    refine HX.out.mono ?_
    rintro e w2 ⟨rfl, H2⟩
    have H3 := H2.alloc (refO sc au pa qu fr bs ba bq bf)
    have HY := Kp.mk (HI.out _ _ H3)
    unfold refO at HY
    clear HX H2 H3 HI HPa
    obtain ⟨g, hg⟩ : ∃ g, Kp (w2.heap.size = g) := ⟨_, ⟨rfl⟩⟩
    rw [hg.out] at HY
    generalize hin : (!bs && !ba) = bi at HY
    go_wp2_with fail
    refine HY.out.mono ?_
    rintro e w3 ⟨rfl, H4⟩
    rw [hg.out]
    have k7 := cell_blk (j := 7) (v := .bool bq) H4.blk rfl
    have k8 := cell_blk (j := 8) (v := .bool bf) H4.blk rfl
    have k2 := cell_blk (j := 2) (v := .string (str pa)) H4.blk rfl
    replace H4 := Kp.mk H4
    clear HY hg
    replace hin := Kp.mk hin
    rcases bi with _ | _
    case' true => rcases bq with _ | _
    case' true.false => rcases bf with _ | _
    case' true.false.false =>
      have hbp : bp = true := by
        have := hpr2.out
        rw [hin.out] at this
        simpa using this
      subst hbp
    all_goals
      go_wp2
      go_ret2
      exact srcEnd_none H4.out.drop
  case pos =>
    have hs0 : srcF l ⟨sc, au, pa, qu, fr, bs, ba, bq, bf⟩ = match decodeF (namesF l ⟨sc, au, pa, qu, fr, bs, ba, bq, bf⟩) with | none => none | some p => pickF p := by rw [srcF, if_pos hpr]
    obtain ⟨rfl, rfl, rfl, rfl, hp0⟩ : bs = false ∧ ba = false ∧ bq = false ∧ bf = false ∧ ¬ pa = [] := by
      unfold plainR at hpr
      cases bs <;> cases ba <;> cases bq <;> cases bf <;> simp_all
    rw [hs0]
    have e1 : (str pa).toList.isEmpty = false := by rw [str_toList]; cases pa <;> simp_all
    have HR := fun w1 (R1 : HP) (h : Own W0 w1 R1) => uri_Resolve h (baseR l) ⟨sc, au, pa, qu, fr, false, false, false, false⟩ (by rw [hb]; omega) (by show pa.length ≤ _; omega)
    rw [namesF]
    obtain ⟨x, hx⟩ : ∃ x, resolveF (baseR l) ⟨sc, au, pa, qu, fr, false, false, false, false⟩ = x := ⟨_, rfl⟩
    unfold ResEnd at HR
    rw [hx] at HR hres ⊢
    clear hx hs0 hpr hp0
    obtain ⟨sc3, au3, pa3, qu3, fr3, bs3, ba3, bq3, bf3⟩ := x
    dsimp only at hres ⊢
    unfold baseR at HR
    unfold refV at HPa HI HR
    dsimp only at HPa HI HR
    obtain ⟨tq, htq⟩ : ∃ tq, Lib.trimPrefix pa3 [47] = tq := ⟨_, rfl⟩
    have hql : tq.length ≤ 3000 := by
      have := trim_len pa3 [47]
      rw [htq] at this
      rw [hb] at hres
      omega
    have HTP : ∀ w1, Calls Tryd.prog 17 #[.string (str pa3), .string ⟨#[47]⟩] w1 fun e w' => e = .returned (.string (str tq)) ∧ w' = w1 := fun w1 => by
      have h := Tryd.strings_TrimPrefix (str pa3) ⟨#[47]⟩ w1
      rw [str_data] at h
      rw [← htq]
      exact h
    rw [htq]
    clear htq hres hpz
    have HD := fun w1 (R1 : HP) (h : Own W0 w1 R1) => uri_Decode h (str tq) (by rw [str_size]; omega)
    unfold DecEnd at HD
    rw [str_data] at HD
    have hdl := fun p => decodeF_len _ tq p (Nat.le_refl _)
    obtain ⟨dp, hdp⟩ : ∃ dp, decodeF tq = dp := ⟨_, rfl⟩
    rw [hdp] at HD ⊢
    replace HPa := Kp.mk HPa
    replace HI := Kp.mk HI
    replace HR := Kp.mk HR
    replace HTP := Kp.mk HTP
    replace HD := Kp.mk HD
    have hRgt : Kp (∀ p, dp = some p → ∀ w1, Own W0 w1 R → Calls Tryd.prog 11 #[.string (str p)] w1 fun e w' => e = .returned (.bool (rightF p)) ∧ Own W0 w' R) := ⟨fun p hp w1 h => by
      have h5 := hdl p (hdp.trans hp)
      exact path_Right hm h p (by omega)⟩
    have hmm := Kp.mk hm
    clear hm hdl hdp hb hpl htl
    go_enter Tryd.func6, Tryd.ntmps6
    go_wp2_with fail
    refine HT.out.mono ?_
    rintro e w1 ⟨rfl, H1⟩
    have HX := Kp.mk (HPa.out _ H1)
    clear HT H1
    go_wp2_with fail
    refine HX.out.mono ?_
    rintro e w2 ⟨rfl, H2⟩
    have H3 := H2.alloc (refO sc au pa qu fr false false false false)
    have HY := Kp.mk (HI.out _ _ H3)
    unfold refO at HY
    clear HX H2 H3 HI HPa
    obtain ⟨g, hg⟩ : ∃ g, Kp (w2.heap.size = g) := ⟨_, ⟨rfl⟩⟩
    rw [hg.out] at HY
    go_wp2_with fail
    refine HY.out.mono ?_
    rintro e w3 ⟨rfl, H4⟩
    rw [hg.out]
    have k7 := cell_blk (j := 7) (v := .bool false) H4.blk rfl
    have k8 := cell_blk (j := 8) (v := .bool false) H4.blk rfl
    have k2 := cell_blk (j := 2) (v := .string (str pa)) H4.blk rfl
    have HZ := Kp.mk (HR.out _ _ H4)
    replace H4 := Kp.mk H4
    clear HY hg HR
    go_wp2_with (refine own_load_row g H4.out rfl 28 (.tmp 6) rfl rfl _ Tryd.underlying28 rfl (by kernel_rfl) ?_)
    refine HZ.out.mono ?_
    rintro e w4 ⟨rfl, H5⟩
    clear HZ H4
    have H6 := Kp.mk (H5.alloc (refO sc3 au3 pa3 qu3 fr3 bs3 ba3 bq3 bf3))
    clear H5
    go_wp2_with fail
    refine (HTP.out _).mono ?_
    rintro e w5 ⟨rfl, rfl⟩
    have HX := Kp.mk (HD.out _ _ H6.out)
    clear HTP H6 HD
    go_wp2_with fail
    refine HX.out.mono ?_
    rintro e w6 ⟨rfl, H7⟩
    clear HX
    replace H7 := H7.drop.drop
    rcases dp with _ | p
    · replace H7 := Kp.mk H7
      go_wp2
      go_ret2
      exact srcEnd_none H7.out
    · have HX := hRgt.out p rfl _ H7
      obtain ⟨q, hq⟩ : ∃ q, rightF p = q := ⟨_, rfl⟩
      rw [hq] at HX
      replace HX := Kp.mk HX
      replace hq := Kp.mk hq
      clear hRgt H7 hmm
      go_wp2_with fail
      refine HX.out.mono ?_
      rintro e w7 ⟨rfl, H8⟩
      replace H8 := Kp.mk H8
      clear HX
      rcases q with _ | _
      · go_wp2
        go_ret2
        show SrcEnd W0 R (pickF p) _ _
        rw [pickF, if_neg (by rw [hq.out]; simp)]
        exact srcEnd_none H8.out
      · go_wp2
        go_ret2
        show SrcEnd W0 R (pickF p) _ _
        rw [pickF, if_pos hq.out]
        exact srcEnd_some H8.out p
end Go.Proofs.YtcoaecdgodfodaaDoorSep
