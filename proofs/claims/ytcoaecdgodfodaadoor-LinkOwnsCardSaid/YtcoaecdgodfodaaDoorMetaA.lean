/- Own work: blanks at a text's ends go: text.Trim, by walks. -/
import Derived.Test.YtcoaecdgodfodaaDoorPathB
namespace Go.Proofs.YtcoaecdgodfodaaDoorSep
open Go.RowKit Go.Lib Go.Proofs Go.Shelf
def blankN (x : Nat) : Bool := decide (x = 9) || decide (x = 10) || decide (x = 12) || decide (x = 13) || decide (x = 32)
def blankB (c : UInt8) : Bool := blankN c.toNat
def trimL (l : List UInt8) : List UInt8 := l.dropWhile blankB
def trimR (l : List UInt8) : List UInt8 := (l.reverse.dropWhile blankB).reverse
def trimF (l : List UInt8) : List UInt8 := trimR (trimL l)
theorem trimL_nil : trimL [] = [] := rfl
theorem trimL_blank (c : UInt8) (t : List UInt8) (h : blankB c = true) : trimL (c :: t) = trimL t := by rw [trimL, List.dropWhile_cons, if_pos h]; rfl
theorem trimL_other (c : UInt8) (t : List UInt8) (h : blankB c = false) : trimL (c :: t) = c :: t := by rw [trimL, List.dropWhile_cons, if_neg (by rw [h]; simp)]
theorem trimR_nil : trimR [] = [] := rfl
theorem trimR_blank (c : UInt8) (t : List UInt8) (h : blankB c = true) : trimR (t ++ [c]) = trimR t := by
  rw [trimR, List.reverse_append, List.reverse_singleton, List.singleton_append, List.dropWhile_cons, if_pos h]; rfl
theorem trimR_other (c : UInt8) (t : List UInt8) (h : blankB c = false) : trimR (t ++ [c]) = t ++ [c] := by
  rw [trimR, List.reverse_append, List.reverse_singleton, List.singleton_append, List.dropWhile_cons, if_neg (by rw [h]; simp)]; simp
theorem trimL_len (l : List UInt8) : (trimL l).length ≤ l.length := (List.dropWhile_sublist _).length_le
theorem trimR_len (l : List UInt8) : (trimR l).length ≤ l.length := by
  rw [trimR, List.length_reverse]
  have := (List.dropWhile_sublist blankB (l := l.reverse)).length_le
  rwa [List.length_reverse] at this
theorem trimF_len (l : List UInt8) : (trimF l).length ≤ l.length := Nat.le_trans (trimR_len _) (trimL_len l)
theorem blank_cases (x : Nat) : x = 9 ∨ x = 10 ∨ x = 12 ∨ x = 13 ∨ x = 32 ∨ (x ≠ 9 ∧ x ≠ 10 ∧ x ≠ 12 ∧ x ≠ 13 ∧ x ≠ 32) := by omega
set_option maxHeartbeats 1000000 in
theorem text_Blank (x : Nat) (_ : x < 256) (w : World) : Calls Tryd.prog 32 #[.int .i32 (x : Int)] w fun e w' => e = .returned (.bool (blankN x)) ∧ w' = w := by
  rcases blank_cases x with h | h | h | h | h | h
  all_goals
    first
      | have e : blankN x = true := by simp [blankN, h]
      | have e : blankN x = false := by simp [blankN, h]
  all_goals
    rw [e]
    try have p1 : ((x : Int) == 9) = true := by rw [beq_iff_eq]; omega
    try have p1 : ((x : Int) == 9) = false := by rw [beq_eq_false_iff_ne]; omega
    try have p2 : ((x : Int) == 10) = true := by rw [beq_iff_eq]; omega
    try have p2 : ((x : Int) == 10) = false := by rw [beq_eq_false_iff_ne]; omega
    try have p3 : ((x : Int) == 12) = true := by rw [beq_iff_eq]; omega
    try have p3 : ((x : Int) == 12) = false := by rw [beq_eq_false_iff_ne]; omega
    try have p4 : ((x : Int) == 13) = true := by rw [beq_iff_eq]; omega
    try have p4 : ((x : Int) == 13) = false := by rw [beq_eq_false_iff_ne]; omega
    try have p5 : ((x : Int) == 32) = true := by rw [beq_iff_eq]; omega
    try have p5 : ((x : Int) == 32) = false := by rw [beq_eq_false_iff_ne]; omega
    clear h e
    go_enter Tryd.func32, Tryd.ntmps32
    go_wp2
    go_ret
    exact ⟨rfl, rfl⟩
theorem text_BlankW (c : UInt8) (w : World) : Calls Tryd.prog 32 #[.int .i32 (wrap32 (c.toNat : Int))] w fun e w' => e = .returned (.bool (blankB c)) ∧ w' = w := by
  have hc := c.toNat_lt
  have : wrap32 (c.toNat : Int) = (c.toNat : Int) := by
    unfold wrap32
    omega
  rw [this]
  exact text_Blank c.toNat hc w
theorem last_snoc {l : List UInt8} (h : ¬ l = []) : ∃ t c, l = t ++ [c] := by
  rcases List.eq_nil_or_concat l with e | ⟨t, c, e⟩
  · exact absurd e h
  · exact ⟨t, c, by rw [e, List.concat_eq_append]⟩
set_option maxHeartbeats 1000000 in
theorem text_Trim {W0 w : World} {R : HP} (H : Own W0 w R) (l : List UInt8) (hl : l.length ≤ 100000) :
    Calls Tryd.prog 15 #[.string (str l)] w fun e w' => e = .returned (.string (str (trimF l))) ∧ Own W0 w' R := by
  have H := Kp.mk H
  go_enter Tryd.func15, Tryd.ntmps15
  go_wp2
  go_loopg [0] l.length (fun gk v wr => ∃ s : List UInt8, v = .string (str s) ∧ s.length ≤ gk ∧ gk ≤ l.length ∧ Kp (trimL s = trimL l) ∧ Kp (Own W0 wr R))
  case atStart => exact ⟨l, rfl, Nat.le_refl _, Nat.le_refl _, ⟨rfl⟩, H⟩
  case round =>
    obtain ⟨s, rfl, hs, hg, ht, HO⟩ := hrel
    have hz : (str s).size = s.length := str_size s
    have hsl : s.length ≤ l.length := by omega
    by_cases h0 : s = []
    case' pos =>
      have e1 : (str s).toList.isEmpty = true := by rw [str_toList, h0]; rfl
      have hs2 : Kp (trimR s = trimF l) := ⟨by rw [trimF, ← ht.out, h0]; rfl⟩
      clear hs hz ht h0
      go_wp2
    case' neg =>
      obtain ⟨c, t, hsx⟩ : ∃ c t, s = c :: t := by
        rcases s with _ | ⟨c, t⟩
        · exact absurd rfl h0
        · exact ⟨c, t, rfl⟩
      have e1 : (str s).toList.isEmpty = false := by rw [str_toList, hsx]; rfl
      have e2 : 0 < (str s).size := by rw [hz, hsx]; simp
      have hat : (str s)[0] = c := by
        have h9 : s[0]? = some c := by rw [hsx]; rfl
        rw [List.getElem?_eq_getElem (by rwa [str_size] at e2)] at h9
        exact (str_at s 0 e2).trans (Option.some.inj h9)
      have hB := Kp.mk (text_BlankW c wr)
      rcases hb : blankB c with _ | _
    case neg.true =>
      rw [hsx, trimL_blank c t hb] at ht
      have e3 : (str s).extract 1 (str s).size = str t := by rw [ext_drop, str_data, hsx]; rfl
      have hlen : t.length + 1 ≤ gk := by rw [hsx] at hs; exact hs
      rw [hb] at hB
      clear hb hs hsx h0
      replace hz := Kp.mk hz
      go_wp2_with fail
      refine hB.out.mono ?_
      rintro e w1 ⟨rfl, rfl⟩
      go_wp2
      go_roundg t.length
      case rel => exact ⟨t, rfl, Nat.le_refl _, by omega, ht, HO⟩
      case measure => omega
    case' neg.false =>
      have hs2 : Kp (trimR s = trimF l) := ⟨by rw [trimF, ← ht.out, hsx, trimL_other c t hb]⟩
      rw [hb] at hB
      clear hb hs hz ht hsx h0
      go_wp2_with fail
      refine hB.out.mono ?_
      rintro e w1 ⟨rfl, rfl⟩
      clear hB
      go_wp2
    all_goals
      go_loopg [0] s.length (fun gk v wr => ∃ s : List UInt8, v = .string (str s) ∧ s.length ≤ gk ∧ gk ≤ l.length ∧ Kp (trimR s = trimF l) ∧ Kp (Own W0 wr R))
      case atStart => exact ⟨s, rfl, Nat.le_refl _, hsl, hs2, HO⟩
      case round =>
        obtain ⟨s, rfl, hs, hg, ht, HO⟩ := hrel
        have hz : (str s).size = s.length := str_size s
        by_cases h0 : s = []
        · have e1 : (str s).toList.isEmpty = true := by rw [str_toList, h0]; rfl
          have hr : Kp (str s = str (trimF l)) := ⟨by rw [← ht.out, h0]; rfl⟩
          clear h0 hz
          go_wp2
          go_ret
          exact ⟨by rw [← hr.out]; rfl, HO.out⟩
        · have e1 : (str s).toList.isEmpty = false := by rw [str_toList]; cases s <;> simp_all
          obtain ⟨t, c, hsx⟩ := last_snoc h0
          have hn : s.length = t.length + 1 := by rw [hsx]; simp
          rw [hn] at hz
          have e2 : t.length < (str s).size := by omega
          have hat : (str s)[t.length] = c := by
            have h9 : s[t.length]? = some c := by rw [hsx]; simp
            rw [List.getElem?_eq_getElem (by omega)] at h9
            exact (str_at s t.length e2).trans (Option.some.inj h9)
          have e3 : (str s).extract 0 t.length = str t := by rw [ext_take, str_data, hsx, List.take_left]
          have hB := Kp.mk (text_BlankW c wr)
          clear h0
          rcases hb : blankB c with _ | _
          · rw [hb] at hB
            rw [hsx, trimR_other c t hb] at ht
            have hr : Kp (str s = str (trimF l)) := ⟨by rw [← ht.out, hsx]⟩
            clear hb hsx ht
            go_wp2_with fail
            refine hB.out.mono ?_
            rintro e w1 ⟨rfl, rfl⟩
            go_wp2
            go_ret
            exact ⟨by rw [← hr.out]; rfl, HO.out⟩
          · rw [hb] at hB
            rw [hsx, trimR_blank c t hb] at ht
            clear hb hsx
            go_wp2_with fail
            refine hB.out.mono ?_
            rintro e w1 ⟨rfl, rfl⟩
            go_wp2
            go_roundg t.length
            case rel => exact ⟨t, rfl, Nat.le_refl _, by omega, ht, HO⟩
            case measure => omega
end Go.Proofs.YtcoaecdgodfodaaDoorSep
