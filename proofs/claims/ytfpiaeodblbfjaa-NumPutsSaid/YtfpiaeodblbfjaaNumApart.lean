/- Own work: the walks of NumApart, and what it comes to. -/
import Derived.Test.YtfpiaeodblbfjaaNumA
namespace Go.Proofs.YtfpiaeodblbfjaaSep
open Go.RowKit Go.Lib Go.Proofs

theorem head3_a : ((str (putN 300)).toList == [172, 2]) = true := by
  rw [putN_big (by decide), putN_small (by decide)]; decide +kernel
theorem head3_b : ((str (putN 2 ++ [97, 98])).toList == [2, 97, 98]) = true := by
  rw [putN_small (by decide)]; decide +kernel
set_option maxHeartbeats 800000 in
theorem head3 {W0 w : World} {R : HP} (H : Own W0 w R) : Calls Try.prog 10 #[] w fun e w' => e = .returned (.bool true) ∧ Own W0 w' R := by
  have ha := head3_a
  have hb := head3_b
  have HQ := Kp.mk (num_Put0 H 300 (by decide) (by decide))
  go_enter Try.func10, Try.ntmps10
  go_wp2_with fail
  refine HQ.out.mono ?_
  rintro e w1 ⟨v1, rfl, H1, hz1⟩
  have hc1 := H1.run_str Try.underlying24 Try.underlying5 Try.underlying9
  have HQ2 := Kp.mk (num_Text0 H1.drop ⟨#[97, 98]⟩ (by decide))
  go_wp2_with fail
  refine HQ2.out.mono ?_
  rintro e w2 ⟨v2, rfl, H2, hz2⟩
  have hc2 := H2.run_str Try.underlying24 Try.underlying5 Try.underlying9
  go_wp2
  go_ret
  exact ⟨rfl, H2.drop⟩
def begB (xs ys : List UInt8) : Bool := decide (xs.length ≤ ys.length) && decide (ys.take xs.length = xs)
theorem begB_yes {xs ys : List UInt8} (h : xs.length ≤ ys.length) : ((str (ys.take xs.length)).toList == (str xs).toList) = begB xs ys := by
  rw [str_toList, str_toList, begB, decide_eq_true h, Bool.true_and, Bool.eq_iff_iff]
  simp
set_option maxHeartbeats 400000 in
theorem begins (xs ys : List UInt8) (vx vy : Value) (w : World) (hx : Sl w vx 1 xs.length (U xs)) (hy : Sl w vy 1 ys.length (U ys)) :
    Calls Try.prog 11 #[vx, vy] w fun e w' => e = .returned (.bool (begB xs ys)) ∧ ∃ n, w' = w.drewN n := by
  obtain ⟨A, ca, hvx, hca, ja⟩ := id hx.2
  obtain ⟨B, cb, hvy, hcb, jb⟩ := id hy.2
  subst hvx hvy
  clear ja jb
  by_cases h : xs.length ≤ ys.length
  · have h2 := fun n : Nat => run_str (P := Try.prog) Try.underlying24 Try.underlying5 Try.underlying9 (hx.drawn ⟨n, rfl⟩)
    have h3 := fun n : Nat => run_str (P := Try.prog) (l := ys.take xs.length) Try.underlying24 Try.underlying5 Try.underlying9 (by have := (hy.take h).drawn (w' := w.drewN n) ⟨n, rfl⟩; rw [Nat.mul_one] at this; rw [U, List.map_take]; exact this)
    have h1 : decide ((xs.length : Int) ≤ (ys.length : Int)) = true := by simpa using h
    have h4 : (xs.length : Int) ≤ cb := by omega
    have HE := Kp.mk (begB_yes h)
    clear hx hy
    go_enter Try.func11, Try.ntmps11
    go_wp2
    go_quiet (fail)
    go_wp2
    go_ret
    rw [HE.out]
    exact ⟨rfl, _, rfl⟩
  · have h1 : decide ((xs.length : Int) ≤ (ys.length : Int)) = false := by simpa using h
    have h1b : decide (xs.length ≤ ys.length) = false := decide_eq_false h
    have h2 : begB xs ys = false := by simp [begB, h]
    have H2 := Kp.mk h2
    clear h2 h hx hy
    go_enter Try.func11, Try.ntmps11
    go_wp2
    go_quiet (fail)
    go_wp2
    go_ret
    rw [H2.out]
    exact ⟨rfl, _, rfl⟩

theorem last8_toNat {a : Nat} (h : a < 128) : (last8 a).toNat = a := by unfold last8; rw [UInt8.toNat_ofNat']; omega
theorem more8_toNat (a : Nat) : (more8 a).toNat = a % 128 + 128 := by unfold more8; rw [UInt8.toNat_ofNat']; omega
/-- No number's bytes begin another one's. -/
theorem putN_apart : ∀ (a b : Nat) (X Y : List UInt8), putN a ++ X = putN b ++ Y → a = b ∧ X = Y := by
  intro a
  induction a using Nat.strongRecOn with
  | _ a ih =>
    intro b X Y h
    by_cases ha : a < 128 <;> by_cases hb : b < 128
    · rw [putN_small ha, putN_small hb] at h
      simp only [List.cons_append, List.nil_append, List.cons.injEq] at h
      have := congrArg UInt8.toNat h.1
      rw [last8_toNat ha, last8_toNat hb] at this
      exact ⟨this, h.2⟩
    · rw [putN_small ha, putN_big hb] at h
      simp only [List.cons_append, List.nil_append, List.cons.injEq] at h
      have := congrArg UInt8.toNat h.1
      rw [last8_toNat ha, more8_toNat] at this
      omega
    · rw [putN_big ha, putN_small hb] at h
      simp only [List.cons_append, List.nil_append, List.cons.injEq] at h
      have := congrArg UInt8.toNat h.1
      rw [last8_toNat hb, more8_toNat] at this
      omega
    · rw [putN_big ha, putN_big hb] at h
      simp only [List.cons_append, List.cons.injEq] at h
      have h1 := congrArg UInt8.toNat h.1
      rw [more8_toNat, more8_toNat] at h1
      obtain ⟨h2, h3⟩ := ih (a / 128) (by omega) (b / 128) X Y h.2
      exact ⟨by omega, h3⟩
theorem begB_prefix {xs ys : List UInt8} (h : begB xs ys = true) : ∃ z, ys = xs ++ z := by
  simp only [begB, Bool.and_eq_true, decide_eq_true_eq] at h
  exact ⟨ys.drop xs.length, by conv => lhs; rw [← List.take_append_drop xs.length ys, h.2]⟩
theorem begB_self (xs : List UInt8) : begB xs xs = true := by simp [begB]
theorem beg_num (a b : Nat) : begB (putN a) (putN b) = decide (a = b) := by
  by_cases h : a = b
  · subst h; rw [begB_self]; simp
  · rw [decide_eq_false h]
    cases hb : begB (putN a) (putN b) with
    | false => rfl
    | true =>
      obtain ⟨z, hz⟩ := begB_prefix hb
      exact absurd (putN_apart b a [] z (by rw [List.append_nil]; exact hz)).1.symm h
def txt (s : ByteArray) : List UInt8 := putN s.size ++ s.data.toList
theorem beg_txt (s t : ByteArray) : begB (txt s) (txt t) = decide (s = t) := by
  by_cases h : s = t
  · subst h; rw [begB_self]; simp
  · rw [decide_eq_false h]
    cases hb : begB (txt s) (txt t) with
    | false => rfl
    | true =>
      obtain ⟨z, hz⟩ := begB_prefix hb
      unfold txt at hz
      rw [List.append_assoc] at hz
      obtain ⟨h1, h2⟩ := putN_apart _ _ _ _ hz
      have h3 : z = [] := by
        have := congrArg List.length h2
        rw [List.length_append, data_length, data_length] at this
        exact List.eq_nil_of_length_eq_zero (by omega)
      rw [h3, List.append_nil] at h2
      exact absurd (ByteArray.ext (Array.ext' h2.symm)) h

set_option maxHeartbeats 1600000 in
theorem numApart_walk (a : Int) (wa : (Lit.int .u64 a).wf = true) (b : Int) (wb : (Lit.int .u64 b).wf = true) (s : ByteArray) (_ : s.size ≤ 140737488351232) (t : ByteArray) (_ : t.size ≤ 140737488351232) (w : World) :
    Calls Try.prog 3 #[.int .u64 a, .int .u64 b, .string s, .string t] w fun e w' => e = .returned (.bool true) ∧ Below w.heap.size w w' := by
  have ra : 0 ≤ a ∧ a < 18446744073709551616 := by have := bounds_u64 wa; omega
  have rb : 0 ≤ b ∧ b < 18446744073709551616 := by have := bounds_u64 wb; omega
  obtain ⟨ra0, ra1⟩ := ra
  obtain ⟨rb0, rb1⟩ := rb
  clear wa wb
  have HH := Kp.mk (head3 (own_start w))
  by_cases hs : s.size ≤ 200
  rotate_left
  · have h1 : decide ((200 : Int) < (s.size : Int)) = true := decide_eq_true (by omega)
    have h1b : decide (200 < s.size) = true := decide_eq_true (by omega)
    clear hs ra0 ra1 rb0 rb1
    go_enter Try.func3, Try.ntmps3
    go_wp2_with fail
    refine HH.out.mono ?_
    rintro e w1 ⟨rfl, H1⟩
    go_wp2
    go_ret
    exact ⟨rfl, H1.old⟩
  by_cases ht : t.size ≤ 200
  rotate_left
  · have h1 : decide ((200 : Int) < (s.size : Int)) = false := decide_eq_false (by omega)
    have h2 : decide ((200 : Int) < (t.size : Int)) = true := decide_eq_true (by omega)
    have h1b : decide (200 < s.size) = false := decide_eq_false (by omega)
    have h2b : decide (200 < t.size) = true := decide_eq_true (by omega)
    clear hs ht ra0 ra1 rb0 rb1
    go_enter Try.func3, Try.ntmps3
    go_wp2_with fail
    refine HH.out.mono ?_
    rintro e w1 ⟨rfl, H1⟩
    go_wp2
    go_ret
    exact ⟨rfl, H1.old⟩
  have h1 : decide ((200 : Int) < (s.size : Int)) = false := decide_eq_false (by omega)
  have h2 : decide ((200 : Int) < (t.size : Int)) = false := decide_eq_false (by omega)
  have h1b : decide (200 < s.size) = false := decide_eq_false (by omega)
  have h2b : decide (200 < t.size) = false := decide_eq_false (by omega)
  have HB : (begB (putN a.toNat) (putN b.toNat) == (a == b)) = true := by
    rw [beg_num]
    by_cases h : a = b
    · subst h; simp
    · have h2 : ¬ a.toNat = b.toNat := by omega
      simp [h, h2]
  have HT : (begB (putN s.size ++ s.data.toList) (putN t.size ++ t.data.toList) == (s.toList == t.toList)) = true := by
    have h := beg_txt s t
    unfold txt at h
    rw [h]
    by_cases h : s = t
    · subst h; simp
    · have h2 : ¬ s.toList = t.toList := fun e => h (by rw [ByteArray.toList_eq, ByteArray.toList_eq] at e; exact ByteArray.ext (Array.ext' e))
      simp [h, h2]
  have KB := Kp.mk HB
  have KT := Kp.mk HT
  clear HB HT
  go_enter Try.func3, Try.ntmps3
  go_wp2_with fail
  refine HH.out.mono ?_
  rintro e w1 ⟨rfl, H1⟩
  go_wp2_with fail
  refine (num_Put0 H1 a ra0 ra1).mono ?_
  rintro e w2 ⟨v2, rfl, H2, _⟩
  go_wp2_with fail
  refine (num_Put0 H2 b rb0 rb1).mono ?_
  rintro e w3 ⟨v3, rfl, H3, _⟩
  go_wp2_with fail
  refine (num_Text0 H3 s (by omega)).mono ?_
  rintro e w4 ⟨v4, rfl, H4, _⟩
  go_wp2_with fail
  refine (num_Text0 H4 t (by omega)).mono ?_
  rintro e w5 ⟨v5, rfl, H5, _⟩
  have s2 := Kp.mk (H5.slR v2 (by decide))
  have s3 := Kp.mk (H5.slR v3 (by decide))
  have s4 := Kp.mk (H5.slR v4 (by decide))
  have s5 := Kp.mk (H5.slR v5 (by decide))
  go_wp2_with fail
  refine (begins _ _ _ _ _ s2.out s3.out).mono ?_
  rintro e w6 ⟨rfl, n6, rfl⟩
  have HB := KB.out
  go_wp2_with fail
  refine (begins _ _ _ _ _ (s4.out.drawn ⟨n6, rfl⟩) (s5.out.drawn ⟨n6, rfl⟩)).mono ?_
  rintro e w7 ⟨rfl, n7, rfl⟩
  have HT := KT.out
  go_wp2
  go_ret
  exact ⟨rfl, (H5.drewN (n6 + n7)).drop.drop.drop.drop.old⟩
end Go.Proofs.YtfpiaeodblbfjaaSep
