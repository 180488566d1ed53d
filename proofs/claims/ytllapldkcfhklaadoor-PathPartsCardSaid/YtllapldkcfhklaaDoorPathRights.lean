/- Own work: PathRights: the walk. -/
import Derived.Test.YtllapldkcfhklaaDoorPathF
namespace Go.Proofs.YtllapldkcfhklaaDoorSep
open Go.RowKit Go.Lib Go.Proofs Go.Shelf
theorem any_next {α : Type} {l : List α} {p : α → Bool} {k : Nat} (h : k < l.length) : (l.take (k + 1)).any p = ((l.take k).any p || p l[k]) := by
  rw [List.take_add_one, List.getElem?_eq_getElem h, List.any_append]
  simp
theorem lowF_nil : lowF [] = false := rfl
theorem lowF_cons (c : UInt8) (t : List UInt8) : lowF (c :: t) = decide (c = 95) := by
  rw [lowF, hasPrefix, List.isPrefixOf]
  by_cases h : c = 95
  · subst h; rfl
  · rw [decide_eq_false h, show ((95 : UInt8) == c) = false from beq_eq_false_iff_ne.2 (fun e => h e.symm)]; rfl
theorem suffix_drop (l s : List UInt8) (n : Nat) (hs : s.length = n) : hasSuffix l s = (decide (n ≤ l.length) && (l.drop (l.length - n) == s)) := by
  rw [Bool.eq_iff_iff, hasSuffix, List.isSuffixOf_iff_suffix]
  simp only [Bool.and_eq_true, decide_eq_true_eq, beq_iff_eq]
  constructor
  · rintro ⟨t, rfl⟩
    subst hs
    exact ⟨by simp, by simp⟩
  · rintro ⟨h1, h2⟩
    exact ⟨l.take (l.length - n), by rw [← h2, List.take_append_drop]⟩
def dirsF (L : List (List UInt8)) : List UInt8 := L.flatMap (· ++ [47])
theorem dirsF_next {L : List (List UInt8)} {k : Nat} (h : k < L.length) : dirsF (L.take (k + 1)) = dirsF (L.take k) ++ (L[k] ++ [47]) := by
  rw [dirsF, dirsF, List.take_add_one, List.getElem?_eq_getElem h, List.flatMap_append]
  simp
theorem dirsF_le (L : List (List UInt8)) (k : Nat) : (dirsF (L.take k)).length ≤ (dirsF L).length := by
  conv => rhs; rw [← List.take_append_drop k L, dirsF, List.flatMap_append]
  simp [dirsF]
theorem str_app (a b : List UInt8) : str a ++ str b = str (a ++ b) := by
  rw [← str_of (str a ++ _), ByteArray.data_append, Array.toList_append, str_data, str_data]
set_option maxRecDepth 100000 in
set_option maxHeartbeats 8000000 in
theorem pathRights_core (l : List UInt8) (w : World) (m : Int) (hm : MaxL w (Old w) m) :
    Calls Tryd.prog 3 #[.string (str l)] w fun e w' => e = .returned (.bool true) ∧ Below w.heap.size w w' := by
  have hsz : (str l).size = l.length := str_size l
  have HH := Kp.mk (path_head hm (own_start w))
  by_cases h4 : 400 < l.length
  · have t1 : decide ((400 : Int) < ((str l).size : Int)) = true := decide_eq_true (by omega)
    have t1' : 400 < (str l).size := by omega
    clear hm
    go_enter Tryd.func3, Tryd.ntmps3
    go_wp2_with fail
    refine HH.out.mono ?_
    rintro e w1 ⟨rfl, H1⟩
    replace H1 := Kp.mk H1
    clear HH
    go_wp2
    go_ret
    exact ⟨rfl, H1.out.old⟩
  have t1 : decide ((400 : Int) < ((str l).size : Int)) = false := decide_eq_false (by omega)
  have t1' : ¬ 400 < (str l).size := by omega
  have hl : l.length ≤ 400 := by omega
  have hN : (splitF l).length ≤ 401 := by have := partsGo_len l []; change (partsGo [] l).length ≤ _; omega
  have hN0 : 0 < (splitF l).length := partsGo_pos [] l
  have hps : ∀ p ∈ splitF l, p.length ≤ 400 := fun p h => Nat.le_trans (splitF_each l p h) hl
  have HS := fun w1 (H : Own w w1 (Old w)) => law_parts H (str l) (by omega)
  rw [str_data] at HS
  have HA := fun w1 (H : Own w w1 (Old w)) => path_Right hm H l (by omega)
  have HB := fun w1 (H : Own w w1 (Old w)) => law_right H l (by omega)
  have HC := fun w1 (H : Own w w1 (Old w)) => path_Hidden hm H l (by omega)
  have HD := fun w1 (H : Own w w1 (Old w)) => path_Page hm H l (by omega)
  have HE := fun w1 (H : Own w w1 (Old w)) => path_Dir H l (by omega)
  have hd : (dirF l).length ≤ l.length := by have := congrArg List.length (dir_last l); simp at this; omega
  have hdd : dirF l = dirsF ((splitF l).take ((splitF l).length - 1)) := by rw [dirF, List.dropLast_eq_take]; rfl
  rw [hdd] at HE hd
  rw [pageF] at HD
  rw [hiddenF] at HC HD
  obtain ⟨q, hq⟩ : ∃ q, rightF l = q := ⟨_, rfl⟩
  rw [hq] at HA HB HD
  have h5 := suffix_drop l [46, 104, 116, 109, 108] 5 rfl
  obtain ⟨t, ht⟩ : ∃ t, hasSuffix l [46, 104, 116, 109, 108] = t := ⟨_, rfl⟩
  rw [ht] at HD h5
  obtain ⟨L, hLe⟩ : ∃ L, splitF l = L := ⟨_, rfl⟩
  rw [hLe] at HS HC HD HE hN hN0 hps hd
  clear hq ht hLe hdd hm
  replace HS := Kp.mk HS
  replace HA := Kp.mk HA
  replace HB := Kp.mk HB
  replace HC := Kp.mk HC
  replace HD := Kp.mk HD
  replace HE := Kp.mk HE
  replace hps := Kp.mk hps
  replace h5 := Kp.mk h5
  replace hsz := Kp.mk hsz
  go_enter Tryd.func3, Tryd.ntmps3
  go_wp2_with fail
  refine HH.out.mono ?_
  rintro e w1 ⟨rfl, H1⟩
  clear HH
  have HS := Kp.mk (HS.out _ H1)
  clear H1
  go_wp2_with fail
  refine HS.out.mono ?_
  rintro e w2 ⟨v, rfl, H2⟩
  clear HS
  obtain ⟨_, A, c, rfl, hr1, hr2, hr3, _⟩ := H2.sl (by decide)
  replace H2 := Kp.mk H2
  replace hr2 := Kp.mk hr2
  replace hr3 := Kp.mk hr3
  go_wp2
  go_loopg [4, 20] L.length (fun gk vh v wr => ∃ pos : Nat, v = .int .i64 pos ∧ pos ≤ L.length ∧ Kp (gk + pos = L.length) ∧ vh = .bool ((L.take pos).any lowF) ∧ Kp (Own w wr (Old w * Row 9 1 (.slice A L.length c) L.length (SV L))))
  case atStart => exact ⟨0, rfl, Nat.zero_le _, ⟨by omega⟩, rfl, H2⟩
  case round =>
    obtain ⟨pos, rfl, hpos, hgk, rfl, HO⟩ := hrel
    by_cases hlt : pos < L.length
    · obtain ⟨p, hpp⟩ : ∃ p, L[pos] = p := ⟨_, rfl⟩
      obtain ⟨Ak, ck, hk1, hk2⟩ := (HO.out.sl (by decide)).at_ pos hlt
      injection hk1 with q1 q2 q3
      subst q1 q3
      rw [SV_get L pos hlt p hpp] at hk2
      have hple : p.length ≤ 400 := hps.out p (hpp ▸ List.getElem_mem hlt)
      have hcut := any_next (p := lowF) hlt
      rw [hpp] at hcut
      obtain ⟨q0, hq0⟩ : ∃ q0, (L.take pos).any lowF = q0 := ⟨_, rfl⟩
      rw [hq0] at hcut ⊢
      have hpz : (str p).size = p.length := str_size p
      clear hq0 hpp
      rcases q0 with _ | _
      · rcases p with _ | ⟨x, p⟩
        · rw [lowF_nil] at hcut
          replace hcut := Kp.mk hcut
          have u1 : (str ([] : List UInt8)).size = 0 := rfl
          clear hpz
          go_wp2
          go_roundg (L.length - (pos + 1))
          case rel => exact ⟨pos + 1, by go_num, by omega, ⟨by omega⟩, by rw [hcut.out]; rfl, HO⟩
          case measure => have := hgk.out; omega
        · rw [lowF_cons] at hcut
          have u0 : 0 < (str (x :: p)).size := by rw [hpz]; simp
          have hat : (str (x :: p))[0] = x := str_at (x :: p) 0 u0
          have hb := byte_eq x 95
          rw [show (((95 : UInt8).toNat : Nat) : Int) = 95 from rfl] at hb
          obtain ⟨b, hbb⟩ : ∃ b, decide (x = 95) = b := ⟨_, rfl⟩
          rw [hbb] at hb hcut
          replace hcut := Kp.mk hcut
          replace hpz := Kp.mk hpz
          clear hbb
          go_wp2
          go_roundg (L.length - (pos + 1))
          case rel => exact ⟨pos + 1, by go_num, by omega, ⟨by omega⟩, by rw [hcut.out]; simp, HO⟩
          case measure => have := hgk.out; omega
      · replace hcut := Kp.mk hcut
        clear hpz
        go_wp2
        go_roundg (L.length - (pos + 1))
        case rel => exact ⟨pos + 1, by go_num, by omega, ⟨by omega⟩, by rw [hcut.out]; rfl, HO⟩
        case measure => have := hgk.out; omega
    · obtain rfl : pos = L.length := by omega
      rw [List.take_length]
      clear hlt hpos hgk hps H2 HS
      obtain ⟨a, ha⟩ : ∃ a, L.any lowF = a := ⟨_, rfl⟩
      rw [ha] at HC HD ⊢
      clear ha
      have hL1 : L.length - 1 ≤ L.length := by omega
      have hI : (L.length : Int) - 1 = ((L.length - 1 : Nat) : Int) := by omega
      by_cases h55 : 5 ≤ l.length
      case' pos =>
        have u1 : decide ((5 : Int) ≤ ((str l).size : Int)) = true := decide_eq_true (by rw [hsz.out]; omega)
        have u1' : 5 ≤ (str l).size := by rw [hsz.out]; omega
        have u2 : (((str l).extract ((str l).size - 5) (str l).size).toList == [46, 104, 116, 109, 108]) = t := by
          rw [ext_drop, str_toList, str_data, hsz.out, h5.out, decide_eq_true h55, Bool.true_and]
      case' neg =>
        have u1 : decide ((5 : Int) ≤ ((str l).size : Int)) = false := decide_eq_false (by rw [hsz.out]; omega)
        have u1' : ¬ 5 ≤ (str l).size := by rw [hsz.out]; omega
        obtain rfl : t = false := by rw [h5.out, decide_eq_false h55, Bool.false_and]
      all_goals
        clear h55 h5
        go_wp2
        go_loopg [8, 53] (L.length - 1) (fun gk vd v wr => ∃ pos : Nat, v = .int .i64 pos ∧ pos ≤ L.length - 1 ∧ Kp (gk + pos = L.length - 1) ∧ vd = .string (str (dirsF (L.take pos))) ∧ Kp (Own w wr (Old w * Row 9 1 (.slice A L.length c) L.length (SV L))))
        case atStart => exact ⟨0, rfl, Nat.zero_le _, ⟨by omega⟩, rfl, HO⟩
        case round =>
          obtain ⟨pos, rfl, hpos, hgk, rfl, HO⟩ := hrel
          by_cases hlt : pos < L.length - 1
          · have hlt2 : pos < L.length := by omega
            obtain ⟨p, hpp⟩ : ∃ p, L[pos] = p := ⟨_, rfl⟩
            obtain ⟨Ak, ck, hk1, hk2⟩ := (HO.out.sl (by decide)).at_ pos hlt2
            injection hk1 with q1 q2 q3
            subst q1 q3
            rw [SV_get L pos hlt2 p hpp] at hk2
            have hcut := dirsF_next hlt2
            rw [hpp] at hcut
            have hle := dirsF_le (L.take (L.length - 1)) (pos + 1)
            rw [List.take_take, Nat.min_eq_left (by omega), hcut] at hle
            obtain ⟨d, hdx⟩ : ∃ d, dirsF (L.take pos) = d := ⟨_, rfl⟩
            rw [hdx] at hcut hle ⊢
            have hz1 : (str d).size = d.length := str_size d
            have hz2 : (str p).size = p.length := str_size p
            have hz3 : (ByteArray.mk #[47]).size = 1 := rfl
            have hap : str d ++ str p ++ ByteArray.mk #[47] = str (d ++ (p ++ [47])) := by
              rw [show ByteArray.mk #[47] = str [47] from rfl, str_app, str_app, List.append_assoc]
            have hsum : d.length + p.length + 1 ≤ 400 := by
              simp only [List.length_append, List.length_singleton] at hle; omega
            have hs1 : ¬ 9223372036854775807 < d.length + p.length := by omega
            have hs2 : ¬ 9223372036854775807 < d.length + p.length + 1 := by omega
            have hs3 : (str d ++ str p).size = d.length + p.length := by rw [ByteArray.size_append, hz1, hz2]
            replace hcut := Kp.mk hcut
            replace hap := Kp.mk hap
            clear hle hdx hpp
            go_wp2
            go_roundg (L.length - 1 - (pos + 1))
            case rel => exact ⟨pos + 1, by go_num, by omega, ⟨by omega⟩, by rw [hcut.out, hap.out], HO⟩
            case measure => have := hgk.out; omega
          · obtain rfl : pos = L.length - 1 := by omega
            obtain ⟨d, hdx⟩ : ∃ d, dirsF (L.take (L.length - 1)) = d := ⟨_, rfl⟩
            rw [hdx] at HE hd ⊢
            clear hdx hgk hpos
            have HX := Kp.mk (HA.out _ HO.out.drop)
            clear HO HA
            go_wp2_with fail
            refine HX.out.mono ?_
            rintro e w5 ⟨rfl, H5⟩
            clear HX
            have HX := Kp.mk (HB.out _ H5)
            clear H5
            go_wp2_with fail
            refine HX.out.mono ?_
            rintro e w6 ⟨rfl, H6⟩
            clear HX
            have HX := Kp.mk (HC.out _ H6)
            clear H6 HC
            have e1 : (q == q) = true := by cases q <;> rfl
            have e2 : (a == a) = true := by cases a <;> rfl
            go_wp2_with fail
            refine HX.out.mono ?_
            rintro e w7 ⟨rfl, H7⟩
            clear HX
            have HX := Kp.mk (HD.out _ H7)
            clear H7 HD
            go_wp2_with fail
            refine HX.out.mono ?_
            rintro e w8 ⟨rfl, H8⟩
            clear HX
            have HX := Kp.mk (HB.out _ H8)
            clear H8 HB
            go_wp2_with fail
            refine HX.out.mono ?_
            rintro e w9 ⟨rfl, H9⟩
            clear HX
            have HX := Kp.mk (HE.out _ H9)
            clear H9 HE
            rcases q with _ | _ <;> rcases a with _ | _
            all_goals try rcases t with _ | _
            all_goals
              go_wp2_with fail
              refine HX.out.mono ?_
              rintro e w10 ⟨rfl, H10⟩
              replace H10 := Kp.mk H10
              clear HX
              go_wp2
              go_ret
              exact ⟨rfl, H10.out.old⟩
theorem maxL_of {w : World} {m : Int} (hm : w.cell? ⟨0, 0, none⟩ = some (.int .i64 m)) : MaxL w (Old w) m := fun w1 H => by
  have hb := H.old
  have hlt : 0 < w.heap.size := by
    rcases Nat.eq_zero_or_pos w.heap.size with h | h
    · simp [World.cell?, Array.getElem?_eq_none (by omega : w.heap.size ≤ 0)] at hm
    · exact h
  rw [hb.cell (p := ⟨0, 0, none⟩) hlt]
  exact hm
theorem pathRights_walk (a : ByteArray) (_ : a.size ≤ 140737488351232) (w : World) (hm : ∃ m, w.cell? ⟨0, 0, none⟩ = some (.int .i64 m)) :
    Calls Tryd.prog 3 #[.string a] w fun e w' => e = .returned (.bool true) ∧ Below w.heap.size w w' := by
  obtain ⟨m, hm⟩ := hm
  have h := pathRights_core a.data.toList w m (maxL_of hm)
  rwa [str_of] at h
end Go.Proofs.YtllapldkcfhklaaDoorSep
