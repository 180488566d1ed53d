/- Own work: the next frame, by a walk. -/
import Derived.Test.YtfpiaeodblbfjaaCut
import Derived.Test.YtfpiaeodblbfjaaFrameA
namespace Go.Proofs.YtfpiaeodblbfjaaSep
open Go.RowKit Go.Lib Go.Proofs

def nextF (l : List UInt8) : List UInt8 × Nat × Int :=
  let r := numGo 2097152 0 0 l
  if r.2.2 = 8 ∨ (r.2.2 = 0 ∧ r.2.1.length < r.1 + 4) then ([], 0, 8)
  else if r.2.2 ≠ 0 then ([], 0, 12)
  else if four8 (sumF ((r.2.1.drop 4).take r.1)) = r.2.1.take 4 then ((r.2.1.drop 4).take r.1, l.length - r.2.1.length + 4 + r.1, 0) else ([], 0, 12)
theorem numGo_bad (most : Nat) : ∀ (l : List UInt8) (i n : Nat), ¬ (numGo most i n l).2.2 = 0 → numGo most i n l = (0, [], (numGo most i n l).2.2) := by
  intro l
  induction l with
  | nil => intro i n; simp [numGo]
  | cons c t ih =>
    intro i n
    rw [numGo]
    repeat' split
    · simp
    · simp
    · simp
    · exact ih _ _
theorem numGo_tail (most : Nat) : ∀ (l : List UInt8) (i n : Nat), (numGo most i n l).2.2 = 0 → (numGo most i n l).2.1 = l.drop (l.length - (numGo most i n l).2.1.length) := by
  intro l
  induction l with
  | nil => intro i n; simp [numGo]
  | cons c t ih =>
    intro i n
    rw [numGo]
    repeat' split
    · simp
    · simp
    · simp
    · intro h
      have h2 := (numGo_fit most t (i + 1) (n + c.toNat % 128 * 128 ^ i)).1
      have h3 := ih _ _ h
      generalize (numGo most (i + 1) (n + c.toNat % 128 * 128 ^ i) t).2.1 = u at h2 h3 ⊢
      rw [List.length_cons, show t.length + 1 - u.length = (t.length - u.length) + 1 by omega, List.drop_succ_cons]
      exact h3
def NextEnd (W0 : World) (R : HP) (l : List UInt8) (w : World) (e : Ending) (w' : World) : Prop :=
  ∃ v', e = .returned (.tuple #[v', .int .i64 ((nextF l).2.1 : Nat), .int .i64 (nextF l).2.2]) ∧ Own W0 w' (R * Row 5 1 v' (nextF l).1.length (U (nextF l).1)) ∧ w.heap.size ≤ w'.heap.size
variable {W0 w : World} {R : HP} {l : List UInt8} {vd : Value}
set_option maxHeartbeats 1500000 in
theorem next_bad (H : Own W0 w R) (hd : Held W0 R vd 1 l.length (U l)) (hl : l.length ≤ 100000000) (er : Int) (hr : Kp (numGo 2097152 0 0 l = (0, [], er))) (h0 : ¬ er = 0) : Calls Try.prog 28 #[vd] w (NextEnd W0 R l w) := by
  have HR := Kp.mk (num_Read H hd hl)
  have hn : Kp (nextF l = ([], 0, if er = 8 then 8 else 12)) := ⟨by
    by_cases h : er = 8
    · simp [nextF, hr.out, h]
    · simp [nextF, hr.out, h, h0]⟩
  clear H hd
  by_cases h8 : er = 8
  · subst h8
    clear h0
    rw [if_pos rfl] at hn
    go_enter Try.func28, Try.ntmps28
    go_wp2_with fail
    refine HR.out.mono ?_
    rintro e w1 ⟨p, rfl, H1, hz1⟩
    have HN := rdr_Num H1 2097152 hl
    rw [hr.out] at HN
    have HN := Kp.mk HN
    clear HR
    go_wp2_with fail
    refine HN.out.mono ?_
    rintro e w2 ⟨rfl, H2, hz2⟩
    dsimp only at H2 ⊢
    have HE := Kp.mk (rdr_Err H2)
    have HL := rdr_Left H2
    rw [leftN_no _ (by decide)] at HL
    have HL := Kp.mk HL
    have H2 := Kp.mk H2
    have hz := Kp.mk (Nat.le_trans hz1 hz2)
    clear HN hz1 hz2 H1
    go_wp2_with fail
    refine HE.out.mono ?_
    rintro e w6 ⟨rfl, rfl⟩
    go_wp2
    go_ret3
    unfold NextEnd
    rw [hn.out]
    exact ⟨_, rfl, H2.out.drop.nil _ _, hz.out⟩
  · rw [if_neg h8] at hn
    have h82 : (er == 8) = false := by simpa using h8
    have h83 : (er == 0) = false := by simpa using h0
    have h84 : (er != 0) = true := by simpa using h0
    clear h8
    have HH0 := Kp.mk h0
    clear h0
    go_enter Try.func28, Try.ntmps28
    go_wp2_with fail
    refine HR.out.mono ?_
    rintro e w1 ⟨p, rfl, H1, hz1⟩
    have HN := rdr_Num H1 2097152 hl
    rw [hr.out] at HN
    have HN := Kp.mk HN
    clear HR
    go_wp2_with fail
    refine HN.out.mono ?_
    rintro e w2 ⟨rfl, H2, hz2⟩
    dsimp only at H2 ⊢
    have HE := Kp.mk (rdr_Err H2)
    have H2 := Kp.mk H2
    have hz := Kp.mk (Nat.le_trans hz1 hz2)
    clear HN hz1 hz2 H1
    go_wp2_with fail
    refine HE.out.mono ?_
    rintro e w6 ⟨rfl, rfl⟩
    go_wp2_with fail
    refine HE.out.mono ?_
    rintro e w6 ⟨rfl, rfl⟩
    go_wp2_with fail
    refine HE.out.mono ?_
    rintro e w6 ⟨rfl, rfl⟩
    go_wp2
    go_ret3
    unfold NextEnd
    rw [hn.out]
    exact ⟨_, rfl, H2.out.drop.nil _ _, hz.out⟩
set_option maxHeartbeats 1500000 in
theorem next_short (H : Own W0 w R) (hd : Held W0 R vd 1 l.length (U l)) (hl : l.length ≤ 100000000) (n : Nat) (t : List UInt8) (hr : Kp (numGo 2097152 0 0 l = (n, t, 0))) (hn : n ≤ 2097152) (ht : t.length < n + 4) : Calls Try.prog 28 #[vd] w (NextEnd W0 R l w) := by
  have HR := Kp.mk (num_Read H hd hl)
  have hnx : Kp (nextF l = ([], 0, 8)) := ⟨by simp [nextF, hr.out, ht]⟩
  have hcv : IntKind.i64.wrap (n : Int) = (n : Int) := by rw [IntKind.wrap_i64]; omega
  have hq : decide ((t.length : Int) < (n : Int) + 4) = true := decide_eq_true (by omega)
  clear H hd
  go_enter Try.func28, Try.ntmps28
  go_wp2_with fail
  refine HR.out.mono ?_
  rintro e w1 ⟨p, rfl, H1, hz1⟩
  have HN := rdr_Num H1 2097152 hl
  rw [hr.out] at HN
  have HN := Kp.mk HN
  clear HR
  go_wp2_with fail
  refine HN.out.mono ?_
  rintro e w2 ⟨rfl, H2, hz2⟩
  dsimp only at H2 ⊢
  have HE := Kp.mk (rdr_Err H2)
  have HL := rdr_Left H2
  rw [leftN_ok] at HL
  have HL := Kp.mk HL
  have H2 := Kp.mk H2
  have hz := Kp.mk (Nat.le_trans hz1 hz2)
  clear HN hz1 hz2 H1
  go_wp2_with fail
  refine HE.out.mono ?_
  rintro e w6 ⟨rfl, rfl⟩
  go_wp2_with fail
  refine HE.out.mono ?_
  rintro e w6 ⟨rfl, rfl⟩
  go_wp2_with fail
  refine HL.out.mono ?_
  rintro e w6 ⟨rfl, rfl⟩
  go_wp2
  go_ret3
  unfold NextEnd
  rw [hnx.out]
  exact ⟨_, rfl, H2.out.drop.nil _ _, hz.out⟩
set_option maxHeartbeats 4000000 in
theorem next_go (H : Own W0 w R) (hd : Held W0 R vd 1 l.length (U l)) (hl : l.length ≤ 100000000) (n : Nat) (t : List UInt8) (hr : Kp (numGo 2097152 0 0 l = (n, t, 0))) (hn : n ≤ 2097152) (ht : n + 4 ≤ t.length) : Calls Try.prog 28 #[vd] w (NextEnd W0 R l w) := by
  have HR := Kp.mk (num_Read H hd hl)
  have htl : t.length ≤ l.length := by have := (numGo_fit 2097152 l 0 0).1; rw [hr.out] at this; exact this
  have htail : Kp (t = l.drop (l.length - t.length)) := ⟨by have := numGo_tail 2097152 l 0 0; rw [hr.out] at this; exact this rfl⟩
  have hnx : Kp (nextF l = if four8 (sumF ((t.drop 4).take n)) = t.take 4 then ((t.drop 4).take n, l.length - t.length + 4 + n, 0) else ([], 0, 12)) := ⟨by simp [nextF, hr.out]; intro h; omega⟩
  have hcv : IntKind.i64.wrap (n : Int) = (n : Int) := by rw [IntKind.wrap_i64]; omega
  have hq : decide ((t.length : Int) < (n : Int) + 4) = false := decide_eq_false (by omega)
  obtain ⟨A, c, rfl, hlc, _⟩ := (hd.sl H).2
  obtain ⟨X, hx1, hx2⟩ := hd.cut Try.underlying24 info_u8 hlc ((l.length : Int) - (t.length : Int) + 4) ((l.length : Int) - (t.length : Int) + 4 + n) (l.length - t.length + 4) (l.length - t.length + 4 + n) (by omega) (by omega) (by omega) (by omega)
  obtain ⟨Y, hy1, hy2⟩ := hd.cut Try.underlying24 info_u8 hlc ((l.length : Int) - (t.length : Int)) ((l.length : Int) - (t.length : Int) + 4) (l.length - t.length) (l.length - t.length + 4) (by omega) (by omega) (by omega) (by omega)
  rw [show l.length - t.length + 4 + n - (l.length - t.length + 4) = n by omega] at hx1 hx2
  rw [show l.length - t.length + 4 - (l.length - t.length) = 4 by omega, ← htail.out] at hy2
  rw [show l.length - t.length + 4 - (l.length - t.length) = 4 by omega] at hy1
  rw [← List.drop_drop, ← htail.out] at hx2
  obtain ⟨d, hdd⟩ : ∃ d, Kp ((t.drop 4).take n = d) := ⟨_, ⟨rfl⟩⟩
  rw [hdd.out] at hx2 hnx
  have hdl : d.length = n := by rw [← hdd.out, List.length_take, List.length_drop]; omega
  obtain ⟨y, hyy⟩ : ∃ y, Kp (t.take 4 = y) := ⟨_, ⟨rfl⟩⟩
  rw [hyy.out] at hy2 hnx
  have hx2 := Kp.mk hx2
  have hy2 := Kp.mk hy2
  clear hdd hyy htail H hd hlc
  subst hdl
  go_enter Try.func28, Try.ntmps28
  go_wp2_with fail
  refine HR.out.mono ?_
  rintro e w1 ⟨p, rfl, H1, hz1⟩
  have HN := rdr_Num H1 2097152 hl
  rw [hr.out] at HN
  have HN := Kp.mk HN
  clear HR
  go_wp2_with fail
  refine HN.out.mono ?_
  rintro e w2 ⟨rfl, H2, hz2⟩
  dsimp only at H2 ⊢
  have HE := Kp.mk (rdr_Err H2)
  have HL := rdr_Left H2
  rw [leftN_ok] at HL
  have HL := Kp.mk HL
  have H2 := Kp.mk H2
  have hz := Kp.mk (Nat.le_trans hz1 hz2)
  clear HN hz1 hz2 H1
  go_wp2_with fail
  refine HE.out.mono ?_
  rintro e w6 ⟨rfl, rfl⟩
  go_wp2_with fail
  refine HE.out.mono ?_
  rintro e w6 ⟨rfl, rfl⟩
  go_wp2_with fail
  refine HL.out.mono ?_
  rintro e w6 ⟨rfl, rfl⟩
  go_wp2_with fail
  refine HE.out.mono ?_
  rintro e w6 ⟨rfl, rfl⟩
  go_wp2_with fail
  refine HL.out.mono ?_
  rintro e w6 ⟨rfl, rfl⟩
  go_wp2
  have H4 := H2.out.drew
  have S8 := hx2.out.sl H4.drop
  have Cy := run_str (P := Try.prog) Try.underlying24 Try.underlying5 Try.underlying9 (hy2.out.sl H4.drop)
  have hs := sumF_lt d
  have hw4 : IntKind.i64.wrap ((l.length : Int) - (t.length : Int) + 4) = (l.length : Int) - (t.length : Int) + 4 := by rw [IntKind.wrap_i64]; omega
  have hz := Kp.mk (show w.heap.size ≤ w2.drew.heap.size from hz.out)
  clear HE HL hr
  go_region_law (go_simp; first | (go_at_call 17; refine (frame_Sum d S8 (by omega)).mono ?_; rintro e _ ⟨rfl, rfl⟩) | (go_at_call 29; refine (frame_four (H4.nil 5 1) (sumF d) hs (by omega)).mono ?_; rintro e w3 ⟨v3, rfl, H3, hz3⟩; rw [Nat.zero_add, List.nil_append] at H3; have C3 := H3.run_str Try.underlying24 Try.underlying5 Try.underlying9; have Cy3 := run_str (P := Try.prog) Try.underlying24 Try.underlying5 Try.underlying9 (hy2.out.sl H3.drop.drop)))
  all_goals
    have H3 := Kp.mk H3
    have hz := Kp.mk (Nat.le_trans hz.out hz3)
    clear S8 Cy C3 Cy3 hz3 H4 hy1 hx1
    by_cases hq4 : four8 (sumF d) = y
    · have hb : ((str (four8 (sumF d))).toList == (str y).toList) = true := by rw [hq4]; simp
      rw [hb, Bool.not_true]
      have hS := Kp.mk (hx2.out.sl H3.out.drop.drop)
      rw [if_pos hq4] at hnx
      have hnx := Kp.mk hnx
      go_wp2_with (at_builtin; go_must (refine own_append (v := .slice none 0 0) (vx := .slice X d.length (c - (l.length - t.length + 4))) (H3.out.drop.drop.nil 5 1) rfl (.const (.slice none 0 0)) (.tmp 58) 24 (.int .u8 0) 1 d.length (U d) rfl Try.underlying24 info_u8 rfl (by decide) rfl rfl hS.out (U_one _) ?c2 ?c3 ?_))
      case c2 => unfold maxLen; omega
      case c3 => omega
      intro v4 w4 H4 hz4 _
      go_wp2
      go_ret3
      unfold NextEnd
      rw [hnx.out.out]
      refine ⟨v4, ?_, ?_, by have := hz.out; omega⟩
      · exact congrArg (fun z : Int => Ending.returned (.tuple #[v4, .int .i64 z, .int .i64 0])) (show (l.length : Int) - (t.length : Int) + 4 + (d.length : Int) = ((l.length - t.length + 4 + d.length : Nat) : Int) by omega)
      · exact H4
    · have hb : ((str (four8 (sumF d))).toList == (str y).toList) = false := by
        rw [str_toList, str_toList]; simpa using hq4
      rw [hb, Bool.not_false]
      rw [if_neg hq4] at hnx
      clear hq4
      go_wp2
      go_ret3
      unfold NextEnd
      rw [hnx.out]
      exact ⟨_, rfl, H3.out.drop.drop.nil _ _, hz.out⟩
theorem frame_Next (H : Own W0 w R) (hd : Held W0 R vd 1 l.length (U l)) (hl : l.length ≤ 100000000) : Calls Try.prog 28 #[vd] w (NextEnd W0 R l w) := by
  obtain ⟨⟨n, t, er⟩, hr⟩ : ∃ r, numGo 2097152 0 0 l = r := ⟨_, rfl⟩
  by_cases h0 : er = 0
  · subst h0
    have hf := (numGo_fit 2097152 l 0 0).2
    rw [hr] at hf
    have hn : n ≤ 2097152 := hf rfl
    by_cases ht : n + 4 ≤ t.length
    · exact next_go H hd hl n t ⟨hr⟩ hn ht
    · exact next_short H hd hl n t ⟨hr⟩ hn (by omega)
  · have hb := numGo_bad 2097152 l 0 0
    rw [hr] at hb
    exact next_bad H hd hl er ⟨hr.trans (hb h0)⟩ h0
end Go.Proofs.YtfpiaeodblbfjaaSep
