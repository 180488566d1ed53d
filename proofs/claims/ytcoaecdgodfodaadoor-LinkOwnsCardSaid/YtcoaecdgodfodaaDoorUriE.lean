/- Own work: uri.Dots, by a walk. -/
import Derived.Test.YtcoaecdgodfodaaDoorUriD
namespace Go.Proofs.YtcoaecdgodfodaaDoorSep
open Go.RowKit Go.Lib Go.Proofs

theorem str_eq (a b : List UInt8) : ((str a).toList == (str b).toList) = decide (a = b) := by
  rw [str_toList, str_toList]
  by_cases h : a = b
  · subst h; simp
  · simp [h]
theorem str_app (a b : List UInt8) : str a ++ str b = str (a ++ b) := by
  rw [← str_of (str a ++ str b), ByteArray.data_append, Array.toList_append, str_data, str_data]
theorem ext_drop' (l : List UInt8) (k : Nat) : (str l).extract k l.length = str (l.drop k) := by
  have h := ext_drop (str l) k
  rw [str_size, str_data] at h
  exact h
set_option maxHeartbeats 4000000 in
theorem uri_Dots {W0 w : World} {R : HP} (H : Own W0 w R) (s : ByteArray) (hs : s.size < 4611686018427387000) :
    Calls Tryd.prog 22 #[.string s] w fun e w' => e = .returned (.string (str (dotsF s.data.toList))) ∧ Own W0 w' R := by
  obtain ⟨b, hb⟩ : ∃ b, Kp (w.heap.size = b) := ⟨_, ⟨rfl⟩⟩
  have H0 := H.alloc (.cells #[.string ⟨#[]⟩] 9)
  rw [hb.out] at H0
  have H0 := Kp.mk H0
  go_enter Tryd.func22, Tryd.ntmps22
  go_wp2
  rw [hb.out]
  go_loopg [0] s.size (fun g v wr => ∃ out inp : List UInt8, v = .string (str inp) ∧ Kp (inp.length ≤ g) ∧ Kp (out.length + inp.length ≤ s.size) ∧ Kp (dotsF s.data.toList = dotsN g out inp) ∧ Kp (Own W0 wr (R * Blk b (.cells #[.string (str out)] 9))))
  case atStart => exact ⟨[], s.data.toList, by rw [str_of], ⟨by rw [data_length]; exact Nat.le_refl _⟩, ⟨by rw [data_length]; simp⟩, ⟨by rw [dotsF, data_length]⟩, H0⟩
  case round =>
    obtain ⟨out, inp, rfl, hg, hle, hd, HO⟩ := hrel
    have c0 := cell_blk (j := 0) (v := .string (str out)) HO.out.blk rfl
    have z0 : wr.frozen? ⟨b, 0, none⟩ = false := frz_blk HO.out.blk
    have hsl : (str inp).toList = inp := str_toList inp
    by_cases h0 : inp = []
    · have he : inp.isEmpty = true := by simp [h0]
      have hd2 : Kp (dotsF s.data.toList = out) := ⟨by rw [hd.out, h0]; cases gk <;> simp [dotsN]⟩
      clear h0
      go_wp2
      go_ret
      rw [hd2.out]
      exact ⟨rfl, HO.out.drop⟩
    · have he : inp.isEmpty = false := by simp [h0]
      have h0l : 0 < inp.length := List.length_pos_iff.2 h0
      obtain ⟨g, rfl⟩ : ∃ g, gk = g + 1 := ⟨gk - 1, by have := hg.out; omega⟩
      have hlt := dotsStep_len out inp h0
      have hd : Kp (dotsF s.data.toList = dotsN g (dotsStep out inp).1 (dotsStep out inp).2) := ⟨by rw [hd.out, dotsN, if_neg h0]⟩
      have hsz : (str inp).size = inp.length := str_size inp
      obtain ⟨st, hst⟩ : ∃ st, Kp (dotsStep out inp = st) := ⟨_, ⟨rfl⟩⟩
      rw [hst.out] at hlt hd
      have hg2 : Kp (st.2.length ≤ g) := ⟨by have := hg.out; omega⟩
      have hle2 : Kp (st.1.length + st.2.length ≤ s.size) := ⟨by have := hle.out; omega⟩
      have hpl : ∀ p : List UInt8, Lib.hasPrefix inp p = true → p.length ≤ inp.length := fun p hp => (List.isPrefixOf_iff_prefix.1 hp).length_le
      have hil : inp.length < 4611686018427387000 := by have := hle.out; omega
      have hol : out.length < 4611686018427387000 := by have := hle.out; omega
      have hpl := Kp.mk hpl
      clear h0 hlt hg hle
      have hP1 : Kp (∀ w1, Calls Tryd.prog 20 #[.string (str inp), .string ⟨#[46, 46, 47]⟩] w1 fun e w' => e = .returned (.bool (Lib.hasPrefix inp [46, 46, 47])) ∧ w' = w1) := ⟨fun w1 => by
        have h := Tryd.strings_HasPrefix (str inp) ⟨#[46, 46, 47]⟩ w1
        rw [str_data] at h
        exact h⟩
      have hP2 : Kp (∀ w1, Calls Tryd.prog 20 #[.string (str inp), .string ⟨#[46, 47]⟩] w1 fun e w' => e = .returned (.bool (Lib.hasPrefix inp [46, 47])) ∧ w' = w1) := ⟨fun w1 => by
        have h := Tryd.strings_HasPrefix (str inp) ⟨#[46, 47]⟩ w1
        rw [str_data] at h
        exact h⟩
      have hP3 : Kp (∀ w1, Calls Tryd.prog 20 #[.string (str inp), .string ⟨#[47, 46, 47]⟩] w1 fun e w' => e = .returned (.bool (Lib.hasPrefix inp [47, 46, 47])) ∧ w' = w1) := ⟨fun w1 => by
        have h := Tryd.strings_HasPrefix (str inp) ⟨#[47, 46, 47]⟩ w1
        rw [str_data] at h
        exact h⟩
      have hP5 : Kp (∀ w1, Calls Tryd.prog 20 #[.string (str inp), .string ⟨#[47, 46, 46, 47]⟩] w1 fun e w' => e = .returned (.bool (Lib.hasPrefix inp [47, 46, 46, 47])) ∧ w' = w1) := ⟨fun w1 => by
        have h := Tryd.strings_HasPrefix (str inp) ⟨#[47, 46, 46, 47]⟩ w1
        rw [str_data] at h
        exact h⟩
      by_cases hp1 : Lib.hasPrefix inp [46, 46, 47] = true
      · have hn : 3 ≤ inp.length := hpl.out _ hp1
        have hst2 : st = (out, inp.drop 3) := by rw [← hst.out, dotsStep, if_pos hp1]
        subst hst2
        dsimp only at hd hg2 hle2
        rw [hp1] at hP1
        clear hp1 hst
        go_wp2_with fail
        refine (hP1.out _).mono ?_
        rintro e w1 ⟨rfl, rfl⟩
        clear hP1 hP2 hP3 hP5 hpl
        go_wp2
        go_roundg g
        case measure => omega
        case rel => exact ⟨_, _, by rw [← ext_drop' inp 3], hg2, hle2, hd, HO⟩
      have hp1 : Lib.hasPrefix inp [46, 46, 47] = false := by simpa using hp1
      by_cases hp2 : Lib.hasPrefix inp [46, 47] = true
      · have hn : 2 ≤ inp.length := hpl.out _ hp2
        have hst2 : st = (out, inp.drop 2) := by rw [← hst.out, dotsStep, if_neg (by rw [hp1]; simp), if_pos hp2]
        subst hst2
        dsimp only at hd hg2 hle2
        rw [hp2] at hP2
        rw [hp1] at hP1
        clear hp1 hp2 hst
        go_wp2_with fail
        refine (hP1.out _).mono ?_
        rintro e w1 ⟨rfl, rfl⟩
        go_wp2_with fail
        refine (hP2.out _).mono ?_
        rintro e w1 ⟨rfl, rfl⟩
        clear hP1 hP2 hP3 hP5 hpl
        go_wp2
        go_roundg g
        case measure => omega
        case rel => exact ⟨_, _, by rw [← ext_drop' inp 2], hg2, hle2, hd, HO⟩
      have hp2 : Lib.hasPrefix inp [46, 47] = false := by simpa using hp2
      by_cases hp3 : Lib.hasPrefix inp [47, 46, 47] = true
      · have hn : 3 ≤ inp.length := hpl.out _ hp3
        have hst2 : st = (out, inp.drop 2) := by rw [← hst.out, dotsStep, if_neg (by rw [hp1]; simp), if_neg (by rw [hp2]; simp), if_pos hp3]
        subst hst2
        dsimp only at hd hg2 hle2
        rw [hp3] at hP3
        rw [hp1] at hP1
        rw [hp2] at hP2
        clear hp1 hp2 hp3 hst
        go_wp2_with fail
        refine (hP1.out _).mono ?_
        rintro e w1 ⟨rfl, rfl⟩
        go_wp2_with fail
        refine (hP2.out _).mono ?_
        rintro e w1 ⟨rfl, rfl⟩
        go_wp2_with fail
        refine (hP3.out _).mono ?_
        rintro e w1 ⟨rfl, rfl⟩
        clear hP1 hP2 hP3 hP5 hpl
        go_wp2
        go_roundg g
        case measure => omega
        case rel => exact ⟨_, _, by rw [← ext_drop' inp 2], hg2, hle2, hd, HO⟩
      have hp3 : Lib.hasPrefix inp [47, 46, 47] = false := by simpa using hp3
      by_cases hq4 : inp = [47, 46]
      · have hb4 : (inp == [47, 46]) = true := by rw [hq4]; rfl
        have hst2 : st = (out, [47]) := by rw [← hst.out, dotsStep, if_neg (by rw [hp1]; simp), if_neg (by rw [hp2]; simp), if_neg (by rw [hp3]; simp), if_pos hq4]
        subst hst2
        dsimp only at hd hg2 hle2
        rw [hp1] at hP1
        rw [hp2] at hP2
        rw [hp3] at hP3
        clear hp1 hp2 hp3 hq4 hst
        go_wp2_with fail
        refine (hP1.out _).mono ?_
        rintro e w1 ⟨rfl, rfl⟩
        go_wp2_with fail
        refine (hP2.out _).mono ?_
        rintro e w1 ⟨rfl, rfl⟩
        go_wp2_with fail
        refine (hP3.out _).mono ?_
        rintro e w1 ⟨rfl, rfl⟩
        clear hP1 hP2 hP3 hP5 hpl
        go_wp2
        go_roundg g
        case measure => omega
        case rel => exact ⟨_, _, rfl, hg2, hle2, hd, HO⟩
      have hb4 : (inp == [47, 46]) = false := by simpa using hq4
      by_cases hp5 : Lib.hasPrefix inp [47, 46, 46, 47] = true
      · have hn : 4 ≤ inp.length := hpl.out _ hp5
        have hst2 : st = (upF out, inp.drop 3) := by rw [← hst.out, dotsStep, if_neg (by rw [hp1]; simp), if_neg (by rw [hp2]; simp), if_neg (by rw [hp3]; simp), if_neg hq4, if_pos hp5]
        subst hst2
        dsimp only at hd hg2 hle2
        rw [hp5] at hP5
        rw [hp1] at hP1
        rw [hp2] at hP2
        rw [hp3] at hP3
        clear hp1 hp2 hp3 hp5 hst
        go_wp2_with fail
        refine (hP1.out _).mono ?_
        rintro e w1 ⟨rfl, rfl⟩
        go_wp2_with fail
        refine (hP2.out _).mono ?_
        rintro e w1 ⟨rfl, rfl⟩
        go_wp2_with fail
        refine (hP3.out _).mono ?_
        rintro e w1 ⟨rfl, rfl⟩
        go_wp2_with fail
        refine (hP5.out _).mono ?_
        rintro e w1 ⟨rfl, rfl⟩
        clear hP1 hP2 hP3 hP5 hpl
        go_wp2_with fail
        refine (dots_up HO.out (by omega)).mono ?_
        rintro e w2 ⟨rfl, HU⟩
        go_wp2
        go_roundg g
        case measure => omega
        case rel => exact ⟨_, _, by rw [← ext_drop' inp 3], hg2, hle2, hd, ⟨HU⟩⟩
      have hp5 : Lib.hasPrefix inp [47, 46, 46, 47] = false := by simpa using hp5
      by_cases hq6 : inp = [47, 46, 46]
      · have hb6 : (inp == [47, 46, 46]) = true := by rw [hq6]; rfl
        have hst2 : st = (upF out, [47]) := by rw [← hst.out, dotsStep, if_neg (by rw [hp1]; simp), if_neg (by rw [hp2]; simp), if_neg (by rw [hp3]; simp), if_neg hq4, if_neg (by rw [hp5]; simp), if_pos hq6]
        subst hst2
        dsimp only at hd hg2 hle2
        rw [hp1] at hP1
        rw [hp2] at hP2
        rw [hp3] at hP3
        rw [hp5] at hP5
        clear hp1 hp2 hp3 hq4 hp5 hq6 hst
        go_wp2_with fail
        refine (hP1.out _).mono ?_
        rintro e w1 ⟨rfl, rfl⟩
        go_wp2_with fail
        refine (hP2.out _).mono ?_
        rintro e w1 ⟨rfl, rfl⟩
        go_wp2_with fail
        refine (hP3.out _).mono ?_
        rintro e w1 ⟨rfl, rfl⟩
        go_wp2_with fail
        refine (hP5.out _).mono ?_
        rintro e w1 ⟨rfl, rfl⟩
        clear hP1 hP2 hP3 hP5 hpl
        go_wp2_with fail
        refine (dots_up HO.out (by omega)).mono ?_
        rintro e w2 ⟨rfl, HU⟩
        go_wp2
        go_roundg g
        case measure => omega
        case rel => exact ⟨_, _, rfl, hg2, hle2, hd, ⟨HU⟩⟩
      have hb6 : (inp == [47, 46, 46]) = false := by simpa using hq6
      rw [hp1] at hP1
      rw [hp2] at hP2
      rw [hp3] at hP3
      rw [hp5] at hP5
      by_cases hq7 : inp = [46] ∨ inp = [46, 46]
      · have hst2 : st = (out, []) := by rw [← hst.out, dotsStep, if_neg (by rw [hp1]; simp), if_neg (by rw [hp2]; simp), if_neg (by rw [hp3]; simp), if_neg hq4, if_neg (by rw [hp5]; simp), if_neg hq6, if_pos hq7]
        subst hst2
        dsimp only at hd hg2 hle2
        have hb7 : (inp == [46]) = true ∨ (inp == [46]) = false ∧ (inp == [46, 46]) = true := by
          rcases hq7 with h | h
          · exact .inl (by rw [h]; rfl)
          · exact .inr ⟨by rw [h]; rfl, by rw [h]; rfl⟩
        clear hp1 hp2 hp3 hq4 hp5 hq6 hq7 hst
        rcases hb7 with hb7 | ⟨hb7, hb8⟩
        all_goals
          go_wp2_with fail
          refine (hP1.out _).mono ?_
          rintro e w1 ⟨rfl, rfl⟩
          go_wp2_with fail
          refine (hP2.out _).mono ?_
          rintro e w1 ⟨rfl, rfl⟩
          go_wp2_with fail
          refine (hP3.out _).mono ?_
          rintro e w1 ⟨rfl, rfl⟩
          go_wp2_with fail
          refine (hP5.out _).mono ?_
          rintro e w1 ⟨rfl, rfl⟩
          clear hP1 hP2 hP3 hP5 hpl
          go_wp2
          go_roundg g
          case measure => omega
          case rel => exact ⟨_, _, rfl, hg2, hle2, hd, HO⟩
      · have hb7 : (inp == [46]) = false := by
          have : ¬ inp = [46] := fun h => hq7 (.inl h)
          simpa using this
        have hb8 : (inp == [46, 46]) = false := by
          have : ¬ inp = [46, 46] := fun h => hq7 (.inr h)
          simpa using this
        obtain ⟨bf, hbf⟩ : ∃ bf, Kp (before 47 (inp.drop 1) = bf) := ⟨_, ⟨rfl⟩⟩
        have hst2 : st = (out ++ inp.take (1 + bf.length), inp.drop (1 + bf.length)) := by rw [← hst.out, dotsStep, if_neg (by rw [hp1]; simp), if_neg (by rw [hp2]; simp), if_neg (by rw [hp3]; simp), if_neg hq4, if_neg (by rw [hp5]; simp), if_neg hq6, if_neg hq7, hbf.out]
        subst hst2
        dsimp only at hd hg2 hle2
        have HI : ∀ w1, Calls Tryd.prog 21 #[.string (str (inp.drop 1)), .int .u8 47] w1 fun e w' => e = .returned (.int .i64 (Lib.indexByte (inp.drop 1) 47)) ∧ w' = w1 := fun w1 => by
          have h := Tryd.strings_IndexByte (str (inp.drop 1)) 47 w1
          rw [str_data] at h
          exact h
        have hE := ext_drop' inp 1
        have hn : bf.length ≤ inp.length - 1 ∧ ((Lib.indexByte (inp.drop 1) 47 = -1 ∧ bf.length = inp.length - 1) ∨ Lib.indexByte (inp.drop 1) 47 = (bf.length : Int)) := by
          rcases index_before 47 (inp.drop 1) with ⟨h1, h2⟩ | ⟨h1, h2, h3⟩
          · rw [hbf.out] at h2
            exact ⟨by rw [h2, List.length_drop]; omega, .inl ⟨h1, by rw [h2, List.length_drop]⟩⟩
          · rw [hbf.out] at h1 h2
            rw [List.length_drop] at h2
            exact ⟨by omega, .inr h1⟩
        obtain ⟨hal, hix⟩ := hn
        obtain ⟨n, hn⟩ : ∃ n, Kp (bf.length = n) := ⟨_, ⟨rfl⟩⟩
        rw [hn.out] at hal hix hd hg2 hle2
        clear hp1 hp2 hp3 hq4 hp5 hq6 hq7 hst hbf hn
        go_wp2_with fail
        refine (hP1.out _).mono ?_
        rintro e w1 ⟨rfl, rfl⟩
        go_wp2_with fail
        refine (hP2.out _).mono ?_
        rintro e w1 ⟨rfl, rfl⟩
        go_wp2_with fail
        refine (hP3.out _).mono ?_
        rintro e w1 ⟨rfl, rfl⟩
        go_wp2_with fail
        refine (hP5.out _).mono ?_
        rintro e w1 ⟨rfl, rfl⟩
        clear hP1 hP2 hP3 hP5 hpl
        have b1 : (n : Int) + 1 ≤ (inp.length : Int) := by omega
        have b2 : n + 1 ≤ inp.length := by omega
        have b3 : IntKind.i64.wrap ((n : Int) + 1) = (n : Int) + 1 := by rw [IntKind.wrap_i64]; omega
        rw [show inp.drop 1 = inp.tail from List.drop_one] at HI hix
        have hso : (str out).size = out.length := str_size out
        have hex : (str inp).extract 0 (n + 1) = str (inp.take (n + 1)) := by rw [ext_take, str_data]
        have hse : (str (inp.take (n + 1))).size = n + 1 := by rw [str_size, List.length_take]; omega
        have hno : ¬ 9223372036854775807 < out.length + (n + 1) := by omega
        have hno2 : out.length + (n + 1) ≤ 9223372036854775807 := by omega
        have b4 : (0 : Int) ≤ (n : Int) + 1 := by omega
        have HI := Kp.mk HI
        rcases hix with ⟨hi, hn2⟩ | hi
        case' inl =>
          have hcl : (inp.length : Int) - 1 = (n : Int) := by omega
          rw [hi] at HI
          clear hi hn2
          go_wp2_with fail
          refine (HI.out _).mono ?_
          rintro e w2 ⟨rfl, rfl⟩
          clear HI
          go_wp2
          clear hcl
        case' inr =>
          rw [hi] at HI
          clear hi
          go_wp2_with fail
          refine (HI.out _).mono ?_
          rintro e w2 ⟨rfl, rfl⟩
          clear HI
          go_wp2
        all_goals
          go_region
          have happ : str out ++ str (inp.take (n + 1)) = str (out ++ inp.take (n + 1)) := str_app _ _
          rw [happ, ext_drop' inp (n + 1)]
          rw [Nat.add_comm 1 n] at hd hg2 hle2
          have H5 := Kp.mk ((HO.out.set 0 (.string (str (out ++ inp.take (n + 1))))).drew)
          go_wp2
          go_roundg g
          case measure => omega
          case rel => exact ⟨_, _, rfl, hg2, hle2, hd, H5⟩
end Go.Proofs.YtcoaecdgodfodaaDoorSep
