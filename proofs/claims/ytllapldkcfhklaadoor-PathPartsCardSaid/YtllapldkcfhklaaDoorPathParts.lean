/- Own work: PathParts: the walk. -/
import Derived.Test.YtllapldkcfhklaaDoorPathRights
namespace Go.Proofs.YtllapldkcfhklaaDoorSep
open Go.RowKit Go.Lib Go.Proofs Go.Shelf
theorem partsGo_app : ∀ (a now b : List UInt8), partsGo now (a ++ 47 :: b) = partsGo now a ++ partsGo [] b
  | [], now, b => by simp [partsGo]
  | c :: t, now, b => by
    rw [List.cons_append, partsGo, partsGo]
    split
    · rw [partsGo_app t [] b]; rfl
    · exact partsGo_app t _ b
theorem splitF_app (a b : List UInt8) : splitF (a ++ 47 :: b) = splitF a ++ splitF b := partsGo_app a [] b
theorem all_part_pos (a : List UInt8) (h : (splitF a).all partF = true) : 1 ≤ a.length := by
  rcases a with _ | ⟨c, t⟩
  · exact absurd h (by decide)
  · simp
theorem right_app (a b : List UInt8) : rightF (a ++ 47 :: b) = (rightF a && rightF b && decide ((a ++ 47 :: b).length ≤ 200) && decide ((splitF (a ++ 47 :: b)).length ≤ 16)) := by
  rw [Bool.eq_iff_iff]
  simp only [rightF, splitF_app, Bool.and_eq_true, decide_eq_true_eq, List.all_append, List.length_append, List.length_cons]
  constructor
  · rintro ⟨⟨⟨h1, h2⟩, h3⟩, h4, h5⟩
    have ha := all_part_pos a h4
    have hb := all_part_pos b h5
    exact ⟨⟨⟨⟨⟨⟨by omega, by omega⟩, by omega⟩, h4⟩, ⟨⟨by omega, by omega⟩, by omega⟩, h5⟩, h2⟩, h3⟩
  · rintro ⟨⟨⟨⟨⟨_, _⟩, h4⟩, ⟨⟨_, _⟩, h5⟩⟩, h2⟩, h3⟩
    exact ⟨⟨⟨by omega, h2⟩, h3⟩, h4, h5⟩
theorem hidden_app (a b : List UInt8) : hiddenF (a ++ 47 :: b) = (hiddenF a || hiddenF b) := by
  rw [hiddenF, splitF_app, List.any_append]; rfl
theorem dir_none (l : List UInt8) (h : (47 : UInt8) ∉ l) : dirF l = [] := by
  rcases dir_end l with e | ⟨d, e⟩
  · exact e
  · exact absurd (by rw [← dir_last l, e]; simp) h
set_option maxRecDepth 100000 in
set_option maxHeartbeats 8000000 in
theorem pathParts_core (a b : List UInt8) (w : World) (m : Int) (hm : MaxL w (Old w) m) :
    Calls Tryd.prog 4 #[.string (str a), .string (str b)] w fun e w' => e = .returned (.bool true) ∧ Below w.heap.size w w' := by
  have hsa : (str a).size = a.length := str_size a
  have hsb : (str b).size = b.length := str_size b
  have HH := Kp.mk (path_head hm (own_start w))
  by_cases h1 : 150 < a.length
  · have t1 : decide ((150 : Int) < ((str a).size : Int)) = true := decide_eq_true (by omega)
    have t1' : 150 < (str a).size := by omega
    clear hm hsa hsb h1
    go_enter Tryd.func4, Tryd.ntmps4
    go_wp2_with fail
    refine HH.out.mono ?_
    rintro e w1 ⟨rfl, H1⟩
    replace H1 := Kp.mk H1
    clear HH
    go_wp2
    go_ret
    exact ⟨rfl, H1.out.old⟩
  have t1 : decide ((150 : Int) < ((str a).size : Int)) = false := decide_eq_false (by omega)
  have t1' : ¬ 150 < (str a).size := by omega
  by_cases h2 : 150 < b.length
  · have t2 : decide ((150 : Int) < ((str b).size : Int)) = true := decide_eq_true (by omega)
    have t2' : 150 < (str b).size := by omega
    clear hm hsa hsb h1 h2
    go_enter Tryd.func4, Tryd.ntmps4
    go_wp2_with fail
    refine HH.out.mono ?_
    rintro e w1 ⟨rfl, H1⟩
    replace H1 := Kp.mk H1
    clear HH
    go_wp2
    go_ret
    exact ⟨rfl, H1.out.old⟩
  have t2 : decide ((150 : Int) < ((str b).size : Int)) = false := decide_eq_false (by omega)
  have t2' : ¬ 150 < (str b).size := by omega
  have hab : (a ++ 47 :: b).length = a.length + 1 + b.length := by simp; omega
  have hap : str (a ++ 47 :: b) = str a ++ ByteArray.mk #[47] ++ str b := by
    rw [show ByteArray.mk #[47] = str [47] from rfl, str_app, str_app]
    simp
  have hD := fun w1 (H : Own w w1 (Old w)) => path_Dir H a (by omega)
  have hD2 := fun w1 (H : Own w w1 (Old w)) => path_Dir H (lastF a) (by have := congrArg List.length (dir_last a); simp at this; omega)
  rw [dir_none _ (last_none a), show str ([] : List UInt8) = ByteArray.mk #[] from rfl] at hD2
  have HA := fun w1 (H : Own w w1 (Old w)) => path_Right hm H (a ++ 47 :: b) (by omega)
  have HB := fun w1 (H : Own w w1 (Old w)) => path_Right hm H a (by omega)
  have HC := fun w1 (H : Own w w1 (Old w)) => path_Right hm H b (by omega)
  have HP := fun w1 (H : Own w w1 (Old w)) => law_parts H (str (a ++ 47 :: b)) (by rw [str_size]; omega)
  have HI := fun w1 (H : Own w w1 (Old w)) => path_Hidden hm H (a ++ 47 :: b) (by omega)
  have HJ := fun w1 (H : Own w w1 (Old w)) => path_Hidden hm H a (by omega)
  have HK := fun w1 (H : Own w w1 (Old w)) => path_Hidden hm H b (by omega)
  rw [str_data] at HP
  rw [right_app] at HA
  rw [hidden_app] at HI
  have hN : (splitF (a ++ 47 :: b)).length ≤ 302 := by have := partsGo_len (a ++ 47 :: b) []; change (partsGo [] _).length ≤ _; omega
  have hN1 : (splitF (a ++ 47 :: b)).length = (splitF a).length + (splitF b).length := by rw [splitF_app]; simp
  obtain ⟨L, hL⟩ : ∃ L, splitF (a ++ 47 :: b) = L := ⟨_, rfl⟩
  rw [hL] at HA HP hN
  rw [hab] at HA
  rw [hap] at HA HP HI
  have hjl := dir_last a
  have hnone := last_none a
  obtain ⟨d, hd⟩ : ∃ d, dirF a = d := ⟨_, rfl⟩
  obtain ⟨s, hs⟩ : ∃ s, lastF a = s := ⟨_, rfl⟩
  obtain ⟨ra, hra⟩ : ∃ s, rightF a = s := ⟨_, rfl⟩
  obtain ⟨rb, hrb⟩ : ∃ s, rightF b = s := ⟨_, rfl⟩
  obtain ⟨ga, hga⟩ : ∃ s, hiddenF a = s := ⟨_, rfl⟩
  obtain ⟨gb, hgb⟩ : ∃ s, hiddenF b = s := ⟨_, rfl⟩
  rw [hd] at hD hjl
  rw [hs] at hD2 hnone hjl
  rw [hra] at HA HB
  rw [hrb] at HA HC
  rw [hga] at HI HJ
  rw [hgb] at HI HK
  have hal : a.length = d.length + s.length := by have := congrArg List.length hjl; simp at this; omega
  have hsd : (str d).size = d.length := str_size d
  have hss : (str s).size = s.length := str_size s
  have k1 : (str a).extract 0 (str d).size = str d := by rw [hsd, ext_take, str_data, ← hjl, List.take_left]
  have k2 : (str a).extract (str d).size (str a).size = str s := by rw [hsd, ext_drop, str_data, ← hjl, List.drop_left]
  have g1 : (str d).size ≤ (str a).size := by omega
  have g2 : ¬ 9223372036854775807 < (str a).size + 1 := by omega
  have g3 : ¬ 9223372036854775807 < (str a).size + 1 + (str b).size := by omega
  have hz1 : (str a ++ ByteArray.mk #[47]).size = (str a).size + 1 := by rw [ByteArray.size_append]; rfl
  have hzz : (str a ++ ByteArray.mk #[47] ++ str b).size = (str a).size + 1 + (str b).size := by rw [ByteArray.size_append, hz1]
  rw [show a.length + 1 + b.length = (str a).size + 1 + (str b).size by omega] at HA
  have q1 : (str a).size + 1 + (str b).size ≤ 301 := by omega
  have hs3 : s.length ≤ 150 := by omega
  obtain ⟨x2, hx2⟩ : ∃ x, decide (L.length ≤ 16) = x := ⟨_, rfl⟩
  obtain ⟨x1, hx1⟩ : ∃ x, decide ((str a).size + 1 + (str b).size ≤ 200) = x := ⟨_, rfl⟩
  have hx2' : decide ((L.length : Int) ≤ 16) = x2 := by rw [← hx2, decide_eq_decide]; omega
  have hx1' : decide (((str a).size : Int) + 1 + ((str b).size : Int) ≤ 200) = x1 := by rw [← hx1, decide_eq_decide]; omega
  rw [hx1, hx2] at HA
  replace hsd := Kp.mk hsd
  replace hss := Kp.mk hss
  replace hsa := Kp.mk hsa
  replace hsb := Kp.mk hsb
  replace hal := Kp.mk hal
  clear hra hrb hga hgb hm hd hs hL hab hap hN1 hjl h1 h2
  replace HA := Kp.mk HA
  replace HB := Kp.mk HB
  replace HC := Kp.mk HC
  replace HP := Kp.mk HP
  replace HI := Kp.mk HI
  replace HJ := Kp.mk HJ
  replace HK := Kp.mk HK
  replace hD := Kp.mk hD
  replace hD2 := Kp.mk hD2
  replace hnone := Kp.mk hnone
  go_enter Tryd.func4, Tryd.ntmps4
  go_wp2_with fail
  refine HH.out.mono ?_
  rintro e w1 ⟨rfl, H1⟩
  have HX := Kp.mk (hD.out _ H1)
  clear HH H1 hD
  go_wp2_with fail
  refine HX.out.mono ?_
  rintro e w2 ⟨rfl, H2⟩
  replace H2 := Kp.mk H2
  clear HX
  go_wp2
  go_loopg [7] s.length (fun gk v wr => ∃ j : Nat, v = .int .i64 j ∧ j ≤ s.length ∧ Kp (gk + j = s.length) ∧ Kp (Own w wr (Old w)))
  case atStart => exact ⟨0, rfl, Nat.zero_le _, ⟨by omega⟩, H2⟩
  case round =>
    obtain ⟨j, rfl, hj, hgj, HO⟩ := hrel
    by_cases hlt : j < s.length
    · have u1 : j < (str s).size := by rw [hss.out]; exact hlt
      have hat := str_at s j u1
      have hb := byte_eq (s[j]'hlt) 47
      rw [show (((47 : UInt8).toNat : Nat) : Int) = 47 from rfl, decide_eq_false (fun e => hnone.out (by rw [← e]; exact List.getElem_mem hlt))] at hb
      generalize s[j]'hlt = y at hat hb
      go_wp2
      go_roundg (s.length - (j + 1))
      case rel => exact ⟨j + 1, by go_num, by omega, ⟨by omega⟩, HO⟩
      case measure => have := hgj.out; omega
    · have u1 : ¬ j < (str s).size := by rw [hss.out]; exact hlt
      clear hlt hj hgj H2 hnone
      have HX := Kp.mk (hD2.out _ HO.out)
      clear HO hD2
      go_wp2_with fail
      refine HX.out.mono ?_
      rintro e w3 ⟨rfl, H3⟩
      have HX := Kp.mk (HA.out _ H3)
      clear H3 HA
      go_wp2_with fail
      refine HX.out.mono ?_
      rintro e w4 ⟨rfl, H4⟩
      have HX := Kp.mk (HB.out _ H4)
      clear H4 HB
      go_wp2_with fail
      refine HX.out.mono ?_
      rintro e w5 ⟨rfl, H5⟩
      clear HX
      rcases ra with _ | _
      case' true =>
        have HX := Kp.mk (HC.out _ H5)
        clear H5
        go_wp2_with fail
        refine HX.out.mono ?_
        rintro e w6 ⟨rfl, H5⟩
        clear HX
      case' true => rcases rb with _ | _
      case' true.true => rcases x1 with _ | _
      case' true.true.true =>
        have HX := Kp.mk (HP.out _ H5)
        clear H5
        go_wp2_with fail
        refine HX.out.mono ?_
        rintro e w7 ⟨v, rfl, H7⟩
        obtain ⟨_, A, c, rfl, _⟩ := H7.sl (by decide)
        have H5 := H7.drop
        clear HX H7
        have e2 : (x2 == x2) = true := by cases x2 <;> rfl
      all_goals
        have HX := Kp.mk (HI.out _ H5)
        clear H5
        go_wp2_with fail
        refine HX.out.mono ?_
        rintro e w8 ⟨rfl, H8⟩
        clear HX
        have HX := Kp.mk (HJ.out _ H8)
        clear H8
        go_wp2_with fail
        refine HX.out.mono ?_
        rintro e w9 ⟨rfl, H9⟩
        clear HX
        rcases ga with _ | _
        · have HX := Kp.mk (HK.out _ H9)
          clear H9
          have e3 : (gb == gb) = true := by cases gb <;> rfl
          go_wp2_with fail
          refine HX.out.mono ?_
          rintro e w10 ⟨rfl, H10⟩
          clear HX
          replace H10 := Kp.mk H10
          go_wp2
          go_ret
          exact ⟨rfl, H10.out.old⟩
        · replace H9 := Kp.mk H9
          go_wp2
          go_ret
          exact ⟨rfl, H9.out.old⟩
theorem pathParts_walk (a : ByteArray) (_ : a.size ≤ 140737488351232) (b : ByteArray) (_ : b.size ≤ 140737488351232) (w : World) (hm : ∃ m, w.cell? ⟨0, 0, none⟩ = some (.int .i64 m)) :
    Calls Tryd.prog 4 #[.string a, .string b] w fun e w' => e = .returned (.bool true) ∧ Below w.heap.size w w' := by
  obtain ⟨m, hm⟩ := hm
  have h := pathParts_core a.data.toList b.data.toList w m (maxL_of hm)
  rwa [str_of, str_of] at h
end Go.Proofs.YtllapldkcfhklaaDoorSep
