/- Own work: Top, Pop, At, Remove, Insert of a stack, by walks. -/
import Derived.Test.YtbijlkbfndkdcaaDoorOpG
import Derived.Test.YtbijlkbfndkdcaaDoorQuiet
namespace Go.Proofs.YtbijlkbfndkdcaaDoorSep
open Go.RowKit Go.Lib Go.Proofs
/-- A stack's innermost one. -/
def topF (l : List Nat) : Int := match l.getLast? with | none => -1 | some x => (x : Int)
theorem topF_nil : topF [] = -1 := rfl
theorem topF_snoc (t : List Nat) (x : Nat) : topF (t ++ [x]) = (x : Int) := by simp [topF]
theorem snoc_of {α : Type} (l : List α) (h : l ≠ []) : ∃ t x, l = t ++ [x] := by
  rcases List.eq_nil_or_concat l with e | ⟨t, x, e⟩
  · exact absurd e h
  · exact ⟨t, x, by rw [e, List.concat_eq_append]⟩
theorem IV_snoc (t : List Nat) (x : Nat) : IV (t ++ [x]) = IV t ++ [.int .i64 (x : Int)] := by simp [IV]
theorem IV_at (l : List Nat) (j : Nat) (x : Nat) (h : l[j]? = some x) : (IV l)[j]? = some (.int .i64 (x : Int)) := by simp [IV, h]
section
variable {W0 w : World} {R : HP} {s d : Nat} {v : Value} {l : List Nat}
set_option maxHeartbeats 1000000 in
theorem stack_Top (H : Own W0 w (R * Row 3 1 v l.length (IV l) * Blk s (stO d v))) (hl : l.length ≤ 100000) :
    Calls Tryd.prog 22 #[.pointer (some ⟨s, 0, none⟩)] w fun e w' => e = .returned (.int .i64 (topF l)) ∧ Own W0 w' (R * Row 3 1 v l.length (IV l) * Blk s (stO d v)) := by
  by_cases h0 : l = []
  · subst h0
    obtain ⟨_, A, c, rfl, _⟩ := H.drop.sl (by decide)
    have k1 := cell_blk (j := 1) (v := .slice A 0 c) H.blk rfl
    replace H := Kp.mk H
    go_enter Tryd.func22, Tryd.ntmps22
    go_wp2
    go_ret
    exact ⟨rfl, H.out⟩
  · obtain ⟨t, x, rfl⟩ := snoc_of l h0
    rw [topF_snoc]
    have hl2 : (t ++ [x]).length = t.length + 1 := by simp
    rw [hl2] at H hl ⊢
    obtain ⟨g, c, rfl, _, _⟩ := H.drop.at0 (by omega)
    have k1 := cell_blk (j := 1) (v := .slice (some ⟨g, 0, none⟩) (t.length + 1) c) H.blk rfl
    have k2 := H.drop.cellR t.length (.int .i64 (x : Int)) (IV_at _ _ _ (by simp))
    replace H := Kp.mk H
    clear h0 hl2
    go_enter Tryd.func22, Tryd.ntmps22
    go_wp2
    go_region
    go_wp2
    go_ret
    exact ⟨rfl, H.out.drew⟩
set_option maxHeartbeats 1000000 in
theorem stack_Pop (H : Own W0 w (R * Row 3 1 v l.length (IV l) * Blk s (stO d v))) (hl : l.length ≤ 100000) :
    Calls Tryd.prog 23 #[.pointer (some ⟨s, 0, none⟩)] w fun e w' => e = .returned (.int .i64 (topF l)) ∧ ∃ v', Own W0 w' (R * Row 3 1 v' l.dropLast.length (IV l.dropLast) * Blk s (stO d v')) := by
  have HT := stack_Top H hl
  by_cases h0 : l = []
  · subst h0
    replace HT := Kp.mk HT
    clear H
    go_enter Tryd.func23, Tryd.ntmps23
    go_wp2_with fail
    refine HT.out.mono ?_
    rintro e w1 ⟨rfl, H1⟩
    replace H1 := Kp.mk H1
    rw [topF_nil]
    go_wp2
    go_ret
    exact ⟨rfl, v, H1.out⟩
  · obtain ⟨t, x, rfl⟩ := snoc_of l h0
    rw [topF_snoc] at HT ⊢
    have hl2 : (t ++ [x]).length = t.length + 1 := by simp
    rw [hl2] at H hl HT
    rw [List.dropLast_concat]
    obtain ⟨g, c, rfl, hc1, hc2⟩ := H.drop.at0 (by omega)
    unfold maxLen at hc2
    replace HT := Kp.mk HT
    clear h0 hl2 H
    go_enter Tryd.func23, Tryd.ntmps23
    go_wp2_with fail
    refine HT.out.mono ?_
    rintro e w1 ⟨rfl, H1⟩
    have k1 := cell_blk (j := 1) (v := .slice (some ⟨g, 0, none⟩) (t.length + 1) c) H1.blk rfl
    have f1 := frz_blk (j := 1) H1.blk
    have H2 := (H1.drop.shrink (m := t.length) (by omega))
    replace H1 := Kp.mk H1
    have hx : ((x : Int) == -1) = false := by rw [beq_eq_false_iff_ne]; omega
    have hx2 : ((x : Int) != -1) = true := by rw [bne_iff_ne]; omega
    clear HT
    go_wp2
    go_region
    have H3 := ((H1.out.rot.shrink (m := t.length) (by omega)).rot.set 1 (.slice (some ⟨g, 0, none⟩) t.length c)).drew
    rw [show (IV (t ++ [x])).take t.length = IV t by rw [IV_snoc, List.take_left' (IV_len t)]] at H3
    replace H3 := Kp.mk H3
    clear H1 H2 k1 f1
    go_wp2
    go_ret
    exact ⟨rfl, _, H3.out⟩
/-- A number among numbers. -/
def FoundI (l : List Nat) (n : Nat) (r : Int) : Prop := (∃ k : Nat, r = (k : Int) ∧ l[k]? = some n ∧ n ∉ l.take k) ∨ (r = -1 ∧ n ∉ l)
theorem erase_at {l : List Nat} {n k : Nat} (h : l[k]? = some n) (h2 : n ∉ l.take k) : l.erase n = l.take k ++ l.drop (k + 1) := by
  have hk := (List.getElem?_eq_some_iff.1 h).1
  have e : l = l.take k ++ n :: l.drop (k + 1) := by
    rw [← (List.getElem?_eq_some_iff.1 h).2, List.getElem_cons_drop, List.take_append_drop]
  conv => lhs; rw [e]
  rw [List.erase_append_right _ h2, List.erase_cons_head]
theorem nin_cut {l : List Nat} {n k : Nat} (h : k < l.length) (hp : n ∉ l.take k) (hx : ¬ n = l[k]) : n ∉ l.take (k + 1) := by
  rw [List.take_add_one, List.getElem?_eq_getElem h, List.mem_append]
  rintro (h1 | h1)
  · exact hp h1
  · exact hx (by simpa using h1)
set_option maxHeartbeats 4000000 in
theorem idx_ints {w : World} {v : Value} (l : List Nat) (hl : l.length ≤ 100000) (n : Nat) (H : Sl w v 1 l.length (IV l)) :
    Calls Tryd.prog 42 #[v, .int .i64 n] w fun e w' => ∃ r : Int, e = .returned (.int .i64 r) ∧ FoundI l n r ∧ w' = w := by
  obtain ⟨_, A, c, rfl, _⟩ := id H
  replace H := Kp.mk H
  go_enter Tryd.func42, Tryd.ntmps42
  go_wp2
  go_loopg [8] l.length (fun gk v wr => ∃ pos : Nat, v = .int .i64 pos ∧ pos ≤ l.length ∧ Kp (gk + pos = l.length) ∧ Kp (n ∉ l.take pos) ∧ wr = w)
  case atStart => exact ⟨0, rfl, Nat.zero_le _, ⟨by omega⟩, ⟨by simp⟩, rfl⟩
  case round =>
    obtain ⟨pos, rfl, hpos, hgk, hany, rfl⟩ := hrel
    by_cases hlt : pos < l.length
    · obtain ⟨p, hpp⟩ : ∃ p, l[pos] = p := ⟨_, rfl⟩
      have hg : l[pos]? = some p := by rw [List.getElem?_eq_getElem hlt, hpp]
      obtain ⟨Ak, ck, hk1, hk2⟩ := H.out.at_ pos hlt
      injection hk1 with q1 q2 q3
      subst q1 q3
      rw [List.getD_eq_getElem?_getD, IV_at l pos p hg] at hk2
      dsimp only [Option.getD_some] at hk2
      have hcut := nin_cut hlt hany.out
      rw [hpp] at hcut
      by_cases hq : n = p
      · have he : ((n : Int) == (p : Int)) = true := by rw [hq]; exact beq_self_eq_true _
        have hin := Kp.mk (show FoundI l n (pos : Int) from .inl ⟨pos, rfl, by rw [hg, hq], hany.out⟩)
        clear hcut hpp hq hg
        go_wp2
        go_ret
        exact ⟨_, rfl, hin.out, rfl⟩
      · have he : ((n : Int) == (p : Int)) = false := by rw [beq_eq_false_iff_ne]; omega
        replace hcut := Kp.mk (hcut hq)
        clear hpp hq hg
        go_wp2
        go_roundg (l.length - (pos + 1))
        case rel => exact ⟨pos + 1, by go_num, by omega, ⟨by omega⟩, hcut, rfl⟩
        case measure => have := hgk.out; omega
    · obtain rfl : pos = l.length := by omega
      rw [List.take_length] at hany
      have hin := Kp.mk (show FoundI l n (-1) from .inr ⟨rfl, hany.out⟩)
      clear hany
      go_wp2
      go_ret
      exact ⟨_, rfl, hin.out, rfl⟩
theorem stack_At (H : Own W0 w (R * Row 3 1 v l.length (IV l) * Blk s (stO d v))) (hl : l.length ≤ 100000) (n : Nat) :
    Calls Tryd.prog 34 #[.pointer (some ⟨s, 0, none⟩), .int .i64 n] w fun e w' => ∃ r : Int, e = .returned (.int .i64 r) ∧ FoundI l n r ∧ w' = w := by
  have HI := Kp.mk (idx_ints l hl n (H.drop.sl (by decide)))
  have k1 := cell_blk (j := 1) (v := v) H.blk rfl
  clear H
  go_enter Tryd.func34, Tryd.ntmps34
  go_wp2_with fail
  refine HI.out.mono ?_
  rintro e w1 ⟨r, rfl, hr, rfl⟩
  replace hr := Kp.mk hr
  go_wp2
  go_ret
  exact ⟨_, rfl, hr.out, rfl⟩
end
end Go.Proofs.YtbijlkbfndkdcaaDoorSep
