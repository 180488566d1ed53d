/- Own work: uri.Target, by a walk, from a contract of uri.Decode. -/
import Derived.Test.YtcoaecdgodfodaaDoorUriP
namespace Go.Proofs.YtcoaecdgodfodaaDoorSep
open Go.RowKit Go.Lib Go.Proofs

def DecodeOk : Prop := ∀ (W0 w : World) (R : HP), Own W0 w R → ∀ s : ByteArray, s.size ≤ 1000000000 → Calls Tryd.prog 10 #[.string s] w fun e w' =>
  e = .returned (.tuple #[.string (str ((decodeF s.data.toList).getD [])), .int .i64 (if (decodeF s.data.toList).isSome then 0 else 2)]) ∧ Own W0 w' R
def TgtEnd (W0 : World) (R : HP) (t : List UInt8 × List UInt8 × Int) (e : Ending) (w' : World) : Prop :=
  e = .returned (.tuple #[.string (str t.1), .string (str t.2.1), .int .i64 t.2.2]) ∧ Own W0 w' R
set_option maxHeartbeats 2000000 in
theorem uri_Target (HDEC : DecodeOk) {W0 w : World} {R : HP} (H : Own W0 w R) (l : List UInt8) (r : RefL) (hl : l.length ≤ 1000000) (hr : r.path.length ≤ 1000000) (hf : r.frag.length ≤ 1000000) :
    Calls Tryd.prog 14 #[.string (str l), .agg (refV r)] w (TgtEnd W0 R (targetF l r)) := by
  have hres := resolveF_len ⟨[], [], 47 :: l, [], [], false, false, false, false⟩ r
  rw [List.length_cons] at hres
  have hti : r.hs = false → r.ha = false → Kp (targetF l r = match decodeF (Lib.trimPrefix (resolveF ⟨[], [], 47 :: l, [], [], false, false, false, false⟩ r).path [47]) with
      | none => ([], [], 2)
      | some p => match decodeF r.frag with
        | none => ([], [], 2)
        | some f => (fileF p, f, 0)) := fun h1 h2 => ⟨by rw [targetF, h1, h2]; rfl⟩
  have hto : (r.hs || r.ha) = true → Kp (targetF l r = ([], [], 1)) := fun h => ⟨by rw [targetF, if_pos h]⟩
  obtain ⟨sc2, au2, pa2, qu2, fr2, bs2, ba2, bq2, bf2⟩ := r
  have HA := H.alloc (refO sc2 au2 pa2 qu2 fr2 bs2 ba2 bq2 bf2)
  have HI := Kp.mk (uri_Inside HA ⟨sc2, au2, pa2, qu2, fr2, bs2, ba2, bq2, bf2⟩)
  dsimp only at hti hto hres hr hf HI
  by_cases hin : (bs2 || ba2) = true
  · have hin2 : (!bs2 && !ba2) = false := by revert hin; cases bs2 <;> cases ba2 <;> simp
    have hto := hto hin
    rw [hin2] at HI
    clear hti hres hin hin2
    unfold refV at HI ⊢
    dsimp only at HI ⊢
    unfold refO at HI
    go_enter Tryd.func14, Tryd.ntmps14
    go_wp2_with fail
    refine HI.out.mono ?_
    rintro e w1 ⟨rfl, H1⟩
    have H1 := Kp.mk H1
    go_wp2
    go_ret3
    unfold TgtEnd
    rw [hto.out]
    exact ⟨rfl, H1.out.drop⟩
  · obtain ⟨rfl, rfl⟩ : bs2 = false ∧ ba2 = false := by revert hin; cases bs2 <;> cases ba2 <;> simp
    have htj := hti rfl rfl
    clear hto hin hti
    unfold refV at HI ⊢
    dsimp only at HI ⊢
    unfold refO at HI
    have hsa := slash_app l
    have h1s : (⟨#[47]⟩ : ByteArray).size = 1 := rfl
    have hsl : (str l).size = l.length := str_size l
    have hno : ¬ 9223372036854775807 < 1 + l.length := by omega
    go_enter Tryd.func14, Tryd.ntmps14
    go_wp2_with fail
    refine HI.out.mono ?_
    rintro e w1 ⟨rfl, H1⟩
    have HR := uri_Resolve H1 ⟨[], [], 47 :: l, [], [], false, false, false, false⟩ ⟨sc2, au2, pa2, qu2, fr2, false, false, bq2, bf2⟩ (by simp only [List.length_cons]; omega) (by simp only; omega)
    obtain ⟨x, hx⟩ : ∃ x, Kp (resolveF ⟨[], [], 47 :: l, [], [], false, false, false, false⟩ ⟨sc2, au2, pa2, qu2, fr2, false, false, bq2, bf2⟩ = x) := ⟨_, ⟨rfl⟩⟩
    unfold ResEnd at HR
    rw [hx.out] at HR htj hres
    obtain ⟨sc, au, pa, qu, fr, bs, ba, bq, bf⟩ := x
    dsimp only at hres htj
    unfold refV at HR
    dsimp only at HR
    have HR := Kp.mk HR
    clear hx HI
    obtain ⟨tq, htq⟩ : ∃ tq, Kp (Lib.trimPrefix pa [47] = tq) := ⟨_, ⟨rfl⟩⟩
    have hql : tq.length ≤ 3000000 := by
      have := trim_len pa [47]
      rw [htq.out] at this
      omega
    have HT : ∀ w1, Calls Tryd.prog 17 #[.string (str pa), .string ⟨#[47]⟩] w1 fun e w' => e = .returned (.string (str tq)) ∧ w' = w1 := fun w1 => by
      have h := Tryd.strings_TrimPrefix (str pa) ⟨#[47]⟩ w1
      rw [str_data] at h
      rw [← htq.out]
      exact h
    rw [htq.out] at htj
    have HT := Kp.mk HT
    have hk4 := cell_blk (j := 4) (v := .string (str fr2)) H1.blk rfl
    have H1 := Kp.mk H1
    go_wp2_with (refine own_load_row w.heap.size H1.out rfl 28 (.tmp 3) rfl rfl _ Tryd.underlying28 rfl (by kernel_rfl) ?_)
    refine HR.out.mono ?_
    rintro e w2 ⟨rfl, H2⟩
    have H3 := Kp.mk (H2.alloc (refO sc au pa qu fr bs ba bq bf))
    clear HR
    go_wp2_with fail
    refine (HT.out _).mono ?_
    rintro e w3 ⟨rfl, rfl⟩
    have HD := HDEC _ _ _ H3.out (str tq) (by rw [str_size]; omega)
    rw [str_data] at HD
    have HD := Kp.mk HD
    clear HT
    cases h1 : decodeF tq with
    | none =>
      rw [h1] at htj HD
      simp only [Option.getD_none, Option.isSome_none, Bool.false_eq_true, if_false] at HD
      clear h1
      go_wp2_with fail
      refine HD.out.mono ?_
      rintro e w4 ⟨rfl, H4⟩
      have H4 := Kp.mk H4
      clear HD
      go_wp2
      go_ret3
      unfold TgtEnd
      rw [htj.out]
      exact ⟨rfl, H4.out.drop.drop⟩
    | some p =>
      rw [h1] at htj HD
      simp only [Option.getD_some, Option.isSome_some, if_true] at HD
      have hpl : p.length ≤ 3000000 := by
        have := decodeF_len _ tq p (Nat.le_refl _) h1
        omega
      clear h1
      go_wp2_with fail
      refine HD.out.mono ?_
      rintro e w4 ⟨rfl, H4⟩
      have k4 := cell_blk (j := 4) (v := .string (str fr2)) (H4.focB w.heap.size).blk rfl
      have HF := HDEC _ _ _ H4 (str fr2) (by rw [str_size]; omega)
      rw [str_data] at HF
      have HF := Kp.mk HF
      have H4 := Kp.mk H4
      have hps : (str p).toList = p := str_toList p
      have hpz : (str p).size = p.length := str_size p
      have HS : ∀ w1, Calls Tryd.prog 31 #[.string (str p), .string ⟨#[47]⟩] w1 fun e w' => e = .returned (.bool (Lib.hasSuffix p [47])) ∧ w' = w1 := fun w1 => by
        have h := Tryd.strings_HasSuffix (str p) ⟨#[47]⟩ w1 (by rw [str_size]; omega)
        rw [str_data] at h
        exact h
      have HS := Kp.mk HS
      have hix : (⟨#[105, 110, 100, 101, 120, 46, 104, 116, 109, 108]⟩ : ByteArray).size = 10 := rfl
      have hno : ¬ 9223372036854775807 < p.length + 10 := by omega
      have happ : str p ++ (⟨#[105, 110, 100, 101, 120, 46, 104, 116, 109, 108]⟩ : ByteArray) = str (p ++ ixHtml) := str_app p ixHtml
      clear HD
      have hfile : Kp (fileF p = if p = [] ∨ Lib.hasSuffix p [47] = true then p ++ ixHtml else p) := ⟨rfl⟩
      obtain ⟨bs9, hbs9⟩ : ∃ b, Lib.hasSuffix p [47] = b := ⟨_, rfl⟩
      rw [hbs9] at HS hfile
      clear hbs9
      obtain ⟨ff, hff⟩ : ∃ ff, Kp (fileF p = ff) := ⟨_, ⟨rfl⟩⟩
      rw [hff.out] at hfile htj
      have hcase : (p = [] ∧ ff = p ++ ixHtml) ∨ (¬ p = [] ∧ bs9 = true ∧ ff = p ++ ixHtml) ∨ (¬ p = [] ∧ bs9 = false ∧ ff = p) := by
        rw [hfile.out]
        by_cases h1 : p = []
        · exact .inl ⟨h1, by rw [if_pos (.inl h1)]⟩
        · cases bs9
          · exact .inr (.inr ⟨h1, rfl, by rw [if_neg (by simp [h1])]⟩)
          · exact .inr (.inl ⟨h1, rfl, by rw [if_pos (.inr rfl)]⟩)
      clear hfile hff
      rcases hcase with ⟨e1, e2⟩ | ⟨e1, rfl, e2⟩ | ⟨e1, rfl, e2⟩
      case' inl =>
        have hem : p.isEmpty = true := by rw [e1]; rfl
        rw [e2] at htj
        clear e1 e2
        go_wp2_with fail
      case' inr.inl =>
        have hem : p.isEmpty = false := by simp [e1]
        rw [e2] at htj
        clear e1 e2
        go_wp2_with fail
        refine (HS.out _).mono ?_
        rintro e w5 ⟨rfl, rfl⟩
        go_wp2_with fail
      case' inr.inr =>
        have hem : p.isEmpty = false := by simp [e1]
        rw [e2] at htj
        clear e1 e2
        go_wp2_with fail
        refine (HS.out _).mono ?_
        rintro e w5 ⟨rfl, rfl⟩
        go_wp2_with fail
      all_goals
        cases h2 : decodeF fr2 with
        | none =>
          rw [h2] at htj HF
          simp only [Option.getD_none, Option.isSome_none, Bool.false_eq_true, if_false] at HF
          refine HF.out.mono ?_
          rintro e w6 ⟨rfl, H6⟩
          have H6 := Kp.mk H6
          clear HF h2
          go_wp2
          go_ret3
          unfold TgtEnd
          rw [htj.out]
          exact ⟨rfl, H6.out.drop.drop⟩
        | some f =>
          rw [h2] at htj HF
          simp only [Option.getD_some, Option.isSome_some, if_true] at HF
          refine HF.out.mono ?_
          rintro e w6 ⟨rfl, H6⟩
          have H6 := Kp.mk H6
          clear HF h2
          go_wp2
          go_ret3
          unfold TgtEnd
          rw [htj.out]
          exact ⟨rfl, H6.out.drop.drop⟩
end Go.Proofs.YtcoaecdgodfodaaDoorSep
