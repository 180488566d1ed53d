/- Own work: NumTexts. -/
import Derived.Test.YtfpiaeodblbfjaaReaderC
import Derived.Test.YtfpiaeodblbfjaaNumApart
namespace Go.Proofs.YtfpiaeodblbfjaaSep
open Go.RowKit Go.Lib Go.Proofs

theorem numGo_tail (most : Nat) : ∀ (l : List UInt8) (i n : Nat), (numGo most i n l).2.2 = 0 → (numGo most i n l).2.1 = l.drop (l.length - (numGo most i n l).2.1.length) := by
  intro l
  induction l with
  | nil => intro i n; simp [numGo]
  | cons c t ih =>
    intro i n
    rw [numGo]
    repeat' split
    · simp
    · simp
    · simp
    · intro h
      have h2 := (numGo_fit most t (i + 1) (n + c.toNat % 128 * 128 ^ i)).1
      have h3 := ih _ _ h
      generalize (numGo most (i + 1) (n + c.toNat % 128 * 128 ^ i) t).2.1 = u at h2 h3 ⊢
      rw [List.length_cons, show t.length + 1 - u.length = (t.length - u.length) + 1 by omega, List.drop_succ_cons]
      exact h3
/-- 'v[i:j]' as a run. -/
theorem run_sub {P : Program} {t e sz bytes : Nat} {z : Value} (ht : P.underlying t = some (.slice e)) (hinfo : (P.info? e).map (fun i => (i.zero, i.size, i.bytes)) = some (some z, sz, bytes)) (A X : Option Addr) (n c : Nat) (i j : Int) (h0 : 0 ≤ i) (h1 : i ≤ j) (h2 : j ≤ c)
    (hX : X = if c = i.toNat then A else A.map (·.add (i.toNat * sz))) : ∀ w, (Instr.slice t (.slice A n c) (some (.int .i64 i)) (some (.int .i64 j)) none).run P w = .ok (.slice X (j.toNat - i.toNat) (c - i.toNat)) w := by
  intro w
  obtain ⟨inf, hi, hzz⟩ := Option.map_eq_some_iff.1 hinfo
  simp only [Prod.mk.injEq] at hzz
  obtain ⟨_, hz1, _⟩ := hzz
  have hel : P.elem t = e := by simp [Program.elem, ht]
  have hu : P.underlying t = some (.slice (P.elem t)) := by rw [hel]; exact ht
  rw [run_slice_lh w t A n c hu .i64 .i64 i j h0 h1 h2, hel]
  simp [sizeOf, typeInfo, hi, hz1, sliced, Result.andThen, hX]
theorem str_nil2 : ((str []).toList == []) = true := by decide +kernel
set_option maxHeartbeats 4000000 in
set_option maxRecDepth 100000 in
theorem numTexts_core (vb : Value) (l : List UInt8) (m : Int) (hm : m < 9223372036854775808) (w : World) (g : Sl w vb 1 l.length (U l)) (hl : l.length ≤ 300) :
    Calls Try.prog 5 #[vb, .int .i64 m] w fun e w' => e = .returned (.bool true) ∧ Below w.heap.size w w' := by
  have HH := Kp.mk (head3 (own_start w))
  have hG := Kp.mk g
  obtain ⟨A, c, rfl, hlc, _⟩ := g.2
  obtain ⟨mm, hmm⟩ : ∃ mm, Kp (m.toNat = mm) := ⟨_, ⟨rfl⟩⟩
  have hfit := numGo_fit mm l 0 0
  have htail := numGo_tail mm l 0 0
  have KR : ∃ r, Kp (numGo mm 0 0 l = r) := ⟨_, ⟨rfl⟩⟩
  obtain ⟨⟨n, t, er⟩, hr⟩ := KR
  rw [hr.out] at hfit htail
  have hmb : mm ≤ 9223372036854775807 := by have := hmm.out; omega
  obtain ⟨hf1, hf2⟩ := hfit
  simp only at hf1 hf2 htail
  have htl : t.length ≤ 300 := by omega
  have hq1 : decide ((300 : Int) < (l.length : Int)) = false := decide_eq_false (by omega)
  have hcase : ∃ x : Int, (m < 0 ∧ x = 0 ∨ m = 0 ∧ x = 0 ∨ 0 < m ∧ x = m) ∧ Kp (((mm : Nat) : Int) = IntKind.u64.wrap x) := by
    rcases (show m < 0 ∨ m = 0 ∨ 0 < m by omega) with h | h | h
    · exact ⟨0, Or.inl ⟨h, rfl⟩, ⟨by rw [IntKind.wrap_u64, ← hmm.out]; omega⟩⟩
    · exact ⟨0, Or.inr (Or.inl ⟨h, rfl⟩), ⟨by rw [IntKind.wrap_u64, ← hmm.out]; omega⟩⟩
    · exact ⟨m, Or.inr (Or.inr ⟨h, rfl⟩), ⟨by rw [IntKind.wrap_u64, ← hmm.out]; omega⟩⟩
  obtain ⟨x, hx, hx2⟩ := hcase
  have hmk := Kp.mk hm
  clear hm
  by_cases he : er = 0
  · subst he
    have htl2 := Kp.mk (htail rfl)
    clear htail
    by_cases hnt : n ≤ t.length
    · clear hf2
      have HT := Kp.mk (show textOf (n, t, 0) = (t.take n, t.drop n, 0) by simp [textOf, hnt])
      have hn2 : n ≤ 300 := by omega
      have hfin : (((t.length - n : Nat) : Int) == (t.length : Int) - (n : Int)) = true := beq_iff_eq.2 (by omega)
      have hsl := hG.out.drop (k := l.length - t.length) (by omega)
      have hsl2 : Sl w (.slice (if c = l.length - t.length then A else A.map (·.add (l.length - t.length))) n (c - (l.length - t.length))) 1 n (U (t.take n)) := by
        have h4 := hsl.take (m := n) (by omega)
        rw [Nat.mul_one] at h4
        rw [htl2.out]
        rw [show l.length - (l.drop (l.length - t.length)).length = l.length - t.length by rw [← htl2.out]]
        rw [U, List.map_take, List.map_drop]
        exact h4
      obtain ⟨X, hX⟩ : ∃ X : Option Addr, X = if c = l.length - t.length then A else A.map (·.add (l.length - t.length)) := ⟨_, rfl⟩
      rw [← hX] at hsl2
      have hrs := fun (w' : World) (hb : Below w.heap.size w w') => run_str (P := Try.prog) (l := t.take n) Try.underlying24 Try.underlying5 Try.underlying9 (hsl2.below hb)
      have hrun := run_sub (P := Try.prog) Try.underlying24 info_u8 A X l.length c ((l.length : Int) - (t.length : Int)) ((l.length : Int) - (t.length : Int) + (n : Int)) (by omega) (by omega) (by omega) (by rw [hX, show ((l.length : Int) - (t.length : Int)).toNat = l.length - t.length by omega, Nat.mul_one])
      rw [show ((l.length : Int) - (t.length : Int)).toNat = l.length - t.length by omega, show ((l.length : Int) - (t.length : Int) + (n : Int)).toNat - (l.length - t.length) = n by omega] at hrun
      have hrs := Kp.mk hrs
      clear hX hsl hsl2 g hmb
      rcases hx with ⟨h, hx⟩ | ⟨rfl, hx⟩ | ⟨h, hx⟩
      all_goals
        rw [hx] at hx2
        clear hx
        go_enter Try.func5, Try.ntmps5
        go_wp2_with fail
        refine HH.out.mono ?_
        rintro e w1 ⟨rfl, H1⟩
        have H1 := Kp.mk H1
        go_wp2_with fail
        refine (num_Read H1.out (hG.out.heldF) (by omega)).mono ?_
        rintro e w2 ⟨p, rfl, H2, hz2⟩
        have H2 := Kp.mk H2
        clear hz2
        go_wp2_with fail
        refine (rdr_Text H2.out _ hmk.out (by omega)).mono ?_
        rintro e w3 ⟨rfl, H3, hz3⟩
        rw [hmm.out, hr.out, HT.out] at H3 ⊢
        dsimp only at H3 ⊢
        have H3 := Kp.mk H3
        clear hz3
        go_wp2_with fail
        refine (num_Read H3.out (hG.out.heldF) (by omega)).mono ?_
        rintro e w4 ⟨q, rfl, H4, hz4⟩
        have H4 := Kp.mk H4
        clear hz4
        have HN := Kp.mk (rdr_Num H4.out mm (by omega))
        rw [hx2.out] at HN
        go_wp2_with fail
        refine HN.out.mono ?_
        rintro e w5 ⟨rfl, H5, hz5⟩
        rw [hr.out] at H5 ⊢
        dsimp only at H5 ⊢
        have HE := Kp.mk (rdr_Err H5)
        have HE2 := Kp.mk (rdr_Err H5.rot)
        have H5 := Kp.mk H5
        clear hz5 HN
        have HL := rdr_Left H5.out
        have HL2 := rdr_Left H5.out.rot
        rw [leftN_ok] at HL HL2
        have HL := Kp.mk HL
        have HL2 := Kp.mk HL2
        have hconv := hrs.out _ H5.out.drop.drop.old
        go_wp2_with fail
        refine HE.out.mono ?_
        rintro e w6 ⟨rfl, rfl⟩
        go_wp2_with fail
        refine HL.out.mono ?_
        rintro e w6 ⟨rfl, rfl⟩
        go_wp2_with fail
        refine HL.out.mono ?_
        rintro e w6 ⟨rfl, rfl⟩
        go_wp2_with fail
        refine HE2.out.mono ?_
        rintro e w6 ⟨rfl, rfl⟩
        go_wp2_with fail
        refine HL2.out.mono ?_
        rintro e w6 ⟨rfl, rfl⟩
        go_wp2_with fail
        refine HL.out.mono ?_
        rintro e w6 ⟨rfl, rfl⟩
        go_wp2
        go_ret
        exact ⟨rfl, H5.out.drop.drop.old⟩
    · have HT := Kp.mk (show textOf (n, t, 0) = ([], [], 8) by simp [textOf, hnt])
      have hs := str_nil
      have hs2 := str_nil2
      have hnt2 : t.length < n := by omega
      have hn2 : n ≤ 9223372036854775807 := by have := hf2 rfl; omega
      clear hf2 hnt hmb
      rcases hx with ⟨h, hx⟩ | ⟨rfl, hx⟩ | ⟨h, hx⟩
      all_goals
        rw [hx] at hx2
        clear hx
        go_enter Try.func5, Try.ntmps5
        go_wp2_with fail
        refine HH.out.mono ?_
        rintro e w1 ⟨rfl, H1⟩
        have H1 := Kp.mk H1
        go_wp2_with fail
        refine (num_Read H1.out (hG.out.heldF) (by omega)).mono ?_
        rintro e w2 ⟨p, rfl, H2, hz2⟩
        have H2 := Kp.mk H2
        clear hz2
        go_wp2_with fail
        refine (rdr_Text H2.out _ hmk.out (by omega)).mono ?_
        rintro e w3 ⟨rfl, H3, hz3⟩
        rw [hmm.out, hr.out, HT.out] at H3 ⊢
        dsimp only at H3 ⊢
        have H3 := Kp.mk H3
        clear hz3
        go_wp2_with fail
        refine (num_Read H3.out (hG.out.heldF) (by omega)).mono ?_
        rintro e w4 ⟨q, rfl, H4, hz4⟩
        have H4 := Kp.mk H4
        clear hz4
        have HN := Kp.mk (rdr_Num H4.out mm (by omega))
        rw [hx2.out] at HN
        go_wp2_with fail
        refine HN.out.mono ?_
        rintro e w5 ⟨rfl, H5, hz5⟩
        rw [hr.out] at H5 ⊢
        dsimp only at H5 ⊢
        have HE := Kp.mk (rdr_Err H5)
        have HE2 := Kp.mk (rdr_Err H5.rot)
        have H5 := Kp.mk H5
        clear hz5 HN
        have HL := rdr_Left H5.out
        rw [leftN_ok] at HL
        have HL := Kp.mk HL
        go_wp2_with fail
        refine HE.out.mono ?_
        rintro e w6 ⟨rfl, rfl⟩
        go_wp2_with fail
        refine HL.out.mono ?_
        rintro e w6 ⟨rfl, rfl⟩
        go_wp2_with fail
        refine HL.out.mono ?_
        rintro e w6 ⟨rfl, rfl⟩
        go_wp2_with fail
        refine HE2.out.mono ?_
        rintro e w6 ⟨rfl, rfl⟩
        go_wp2
        go_ret
        exact ⟨rfl, H5.out.drop.drop.old⟩
  · have HT := Kp.mk (show textOf (n, t, er) = ([], t, er) by simp [textOf, he])
    have h2 : (er == 0) = false := by simpa using he
    have h3 : (er != 0) = true := by simpa using he
    have hs := str_nil
    clear hf2 htail he
    have hs2 := str_nil2
    rcases hx with ⟨h, hx⟩ | ⟨rfl, hx⟩ | ⟨h, hx⟩
    all_goals
      rw [hx] at hx2
      clear hx
      go_enter Try.func5, Try.ntmps5
      go_wp2_with fail
      refine HH.out.mono ?_
      rintro e w1 ⟨rfl, H1⟩
      have H1 := Kp.mk H1
      go_wp2_with fail
      refine (num_Read H1.out (hG.out.heldF) (by omega)).mono ?_
      rintro e w2 ⟨p, rfl, H2, hz2⟩
      have H2 := Kp.mk H2
      clear hz2
      go_wp2_with fail
      refine (rdr_Text H2.out _ hmk.out (by omega)).mono ?_
      rintro e w3 ⟨rfl, H3, hz3⟩
      rw [hmm.out, hr.out, HT.out] at H3 ⊢
      dsimp only at H3 ⊢
      have H3 := Kp.mk H3
      clear hz3
      go_wp2_with fail
      refine (num_Read H3.out (hG.out.heldF) (by omega)).mono ?_
      rintro e w4 ⟨q, rfl, H4, hz4⟩
      have H4 := Kp.mk H4
      clear hz4
      have HN := Kp.mk (rdr_Num H4.out mm (by omega))
      rw [hx2.out] at HN
      go_wp2_with fail
      refine HN.out.mono ?_
      rintro e w5 ⟨rfl, H5, hz5⟩
      rw [hr.out] at H5 ⊢
      dsimp only at H5 ⊢
      have HE := Kp.mk (rdr_Err H5)
      have HE2 := Kp.mk (rdr_Err H5.rot)
      have H5 := Kp.mk H5
      clear hz5 HN
      go_wp2_with fail
      refine HE.out.mono ?_
      rintro e w6 ⟨rfl, rfl⟩
      go_wp2_with fail
      refine HE2.out.mono ?_
      rintro e w6 ⟨rfl, rfl⟩
      go_wp2_with fail
      refine HE.out.mono ?_
      rintro e w6 ⟨rfl, rfl⟩
      go_wp2
      go_ret
      exact ⟨rfl, H5.out.drop.drop.old⟩
theorem numTexts_long (vb : Value) (l : List UInt8) (m : Int) (w : World) (g : Sl w vb 1 l.length (U l)) (hl : 300 < l.length) :
    Calls Try.prog 5 #[vb, .int .i64 m] w fun e w' => e = .returned (.bool true) ∧ Below w.heap.size w w' := by
  have HH := Kp.mk (head3 (own_start w))
  obtain ⟨A, c, rfl, hlc, _⟩ := g.2
  clear g
  go_enter Try.func5, Try.ntmps5
  go_wp2_with fail
  refine HH.out.mono ?_
  rintro e w1 ⟨rfl, H1⟩
  go_wp2
  go_ret
  exact ⟨rfl, H1.old⟩
theorem numTexts_walk (w : World) (vb : Value) (l : List UInt8) (_ : l.length ≤ 140737488351232) (g : Sl w vb 1 l.length (U l)) (m : Int) (wm : (Lit.int .i64 m).wf = true) :
    Calls Try.prog 5 #[vb, .int .i64 m] w fun e w' => e = .returned (.bool true) ∧ Below w.heap.size w w' := by
  have hm := bounds_i64 wm
  by_cases hl : l.length ≤ 300
  · exact numTexts_core vb l m (by omega) w g hl
  · exact numTexts_long vb l m w g (by omega)
end Go.Proofs.YtfpiaeodblbfjaaSep
