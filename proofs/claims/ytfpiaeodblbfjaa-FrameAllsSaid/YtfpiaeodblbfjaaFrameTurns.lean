/- Own work: FrameTurns. -/
import Derived.Test.YtfpiaeodblbfjaaFrameWhole
import Derived.Test.YtfpiaeodblbfjaaFrameH
import Derived.Test.YtfpiaeodblbfjaaNumPutB
import Derived.Test.YtfpiaeodblbfjaaRow
namespace Go.Proofs.YtfpiaeodblbfjaaSep
open Go.RowKit Go.Lib Go.Proofs

theorem len_four8 (s : Nat) : (four8 s).length = 4 := rfl
theorem nextF_put (n : Nat) (hn : n ≤ 2097152) (t : List UInt8) : numGo 2097152 0 0 (putN n ++ t) = (n, t, 0) := numGo_put _ _ _ (by omega) hn
theorem turns_short (d : List UInt8) (hd : d.length ≤ 2097152) (j : Nat) (h1 : (putN d.length).length ≤ j) (h2 : j < (frameF d).length) : (nextF ((frameF d).take j)).2.2 = 8 := by
  rw [len_frameF] at h2
  rw [frameF, List.append_assoc, List.take_append, List.take_of_length_le h1, nextF, nextF_put _ hd]
  simp only
  rw [if_pos (Or.inr ⟨trivial, by rw [List.length_take]; omega⟩)]
theorem turns_bad (d : List UInt8) (hd : d.length ≤ 2097152) (j : Nat) (h1 : (putN d.length).length ≤ j) (h2 : j < (frameF d).length) (b : UInt8) (hb : b ≠ (frameF d)[j]) : nextF ((frameF d).set j b) = ([], 0, 12) := by
  have h3 := h2
  rw [len_frameF] at h3
  have hs := sumF_lt d
  obtain ⟨i, rfl⟩ : ∃ i, j = (putN d.length).length + i := ⟨j - (putN d.length).length, by omega⟩
  have e1 : (frameF d).set ((putN d.length).length + i) b = putN d.length ++ (four8 (sumF d) ++ d).set ((putN d.length).length + i - (putN d.length).length) b := by
    rw [frameF, List.append_assoc, List.set_append_right _ _ h1]
  have hl : ((four8 (sumF d) ++ d).set ((putN d.length).length + i - (putN d.length).length) b).length = 4 + d.length := by rw [List.length_set, List.length_append, len_four8]
  rw [e1, nextF, nextF_put _ hd]
  simp only
  rw [if_neg (by rw [hl]; rintro (h | ⟨_, h⟩) <;> omega), if_neg (by simp), if_neg ?_]
  have hget : (frameF d)[(putN d.length).length + i] = (four8 (sumF d) ++ d)[(putN d.length).length + i - (putN d.length).length]'(by rw [List.length_append, len_four8]; omega) := by
    have e2 : (frameF d)[(putN d.length).length + i]? = (four8 (sumF d) ++ d)[(putN d.length).length + i - (putN d.length).length]? := by rw [frameF, List.append_assoc, List.getElem?_append_right h1]
    rw [List.getElem?_eq_getElem h2, List.getElem?_eq_getElem (by rw [List.length_append, len_four8]; omega)] at e2
    exact Option.some.inj e2
  rw [hget] at hb
  clear hget e1
  simp only [Nat.add_sub_cancel_left] at hb hl ⊢
  by_cases h4 : i < 4
  · rw [List.set_append_left _ _ (by rw [len_four8]; exact h4), List.drop_left' (by rw [List.length_set, len_four8]), List.take_left' (by rw [List.length_set, len_four8]), List.take_length]
    intro h
    rw [List.getElem_append_left (by rw [len_four8]; exact h4)] at hb
    apply hb
    have h5 : ((four8 (sumF d)).set i b)[i]? = some b := List.getElem?_set_self (by rw [len_four8]; exact h4)
    rw [← h, List.getElem?_eq_getElem (by rw [len_four8]; exact h4)] at h5
    exact (Option.some.inj h5).symm
  · have hi4 : i - 4 < d.length := by omega
    rw [List.set_append_right _ _ (by rw [len_four8]; omega), List.drop_left' (len_four8 _), List.take_left' (len_four8 _), List.take_of_length_le (by rw [List.length_set]; omega), len_four8]
    intro h
    rw [List.getElem_append_right (by rw [len_four8]; omega)] at hb
    simp only [len_four8] at hb
    exact sumF_set d (i - 4) hi4 b hb (four8_inj (sumF_lt _) hs h)
theorem whole_bad {l : List UInt8} {e : Int} (h : nextF l = ([], 0, e)) (he : ¬ e = 0) (hl : 0 < l.length) : wholeF l = (0, e) := by
  have ha : allF l = [] := by
    rw [allF]
    cases hk : l.length with
    | zero => rfl
    | succ k => rw [allG, List.drop_zero, h, if_neg (fun h => he h.2)]
  rw [wholeF, ha, show endOf [] = 0 from rfl, if_pos hl, List.drop_zero, h]
theorem xor_u8 (x y : UInt8) : bits .xor .u8 (x.toNat : Int) (y.toNat : Int) = ((x ^^^ y).toNat : Int) := by
  have hx := x.toNat_lt
  have hy := y.toNat_lt
  have h1 : (BitVec.ofInt 8 (x.toNat : Int)).toNat = x.toNat := by rw [BitVec.ofInt_natCast, BitVec.toNat_ofNat]; exact Nat.mod_eq_of_lt (by omega)
  have h2 : (BitVec.ofInt 8 (y.toNat : Int)).toNat = y.toNat := by rw [BitVec.ofInt_natCast, BitVec.toNat_ofNat]; exact Nat.mod_eq_of_lt (by omega)
  have h3 : x.toNat ^^^ y.toNat < 256 := Nat.xor_lt_two_pow (n := 8) (by omega) (by omega)
  show IntKind.u8.wrap ((BitVec.ofInt 8 (x.toNat : Int) ^^^ BitVec.ofInt 8 (y.toNat : Int)).toNat : Int) = _
  rw [BitVec.toNat_xor, h1, h2, IntKind.wrap_u8, UInt8.toNat_xor]
  omega
theorem xor_ne (x y : UInt8) (h : y ≠ 0) : x ^^^ y ≠ x := by
  intro e
  have h2 := congrArg (x ^^^ ·) e
  simp only [← UInt8.xor_assoc, UInt8.xor_self, UInt8.zero_xor] at h2
  exact h h2
set_option maxHeartbeats 4000000 in
theorem frameTurns_core (w : World) (vd : Value) (l : List UInt8) (g : Sl w vd 1 l.length (U l)) (hl : l.length ≤ 500) (a : Int) (y : UInt8) (hy : y ≠ 0) :
    Calls Try.prog 9 #[vd, .int .i64 a, .int .u8 (y.toNat : Int)] w fun e w' => e = .returned (.bool true) ∧ Below w.heap.size w w' := by
  have HH := Kp.mk (head5 (own_start w))
  have G := Kp.mk g
  obtain ⟨A, c, rfl, _⟩ := g.2
  clear g
  have hy0 : ((y.toNat : Int) == 0) = false := by
    have h : ¬ y.toNat = 0 := fun h => hy (UInt8.toNat_inj.1 h)
    simpa using h
  have hp := putN_len64 (n := l.length) (by omega)
  have hL := len_frameF l
  obtain ⟨k, hk, hkb⟩ := and_i64 a 65535 (by decide)
  have hkb : bits .and .i64 a 65535 = (k : Int) := hkb
  obtain ⟨L, hLe⟩ : ∃ L, (frameF l).length = L := ⟨_, rfl⟩
  obtain ⟨f, hfe⟩ : ∃ f, (putN l.length).length = f := ⟨_, rfl⟩
  have hf0 : 0 < f := hfe ▸ putN_ne _
  rw [hLe, hfe] at hL
  rw [hfe] at hp
  obtain ⟨m, hm⟩ : ∃ m, k % (L - f) = m := ⟨_, rfl⟩
  have hmlt : m < L - f := by rw [← hm]; exact Nat.mod_lt _ (by omega)
  have hrem : (k : Int) % ((L : Int) - (f : Int)) = (m : Int) := by
    rw [show (L : Int) - (f : Int) = ((L - f : Nat) : Int) by omega, ← Int.natCast_emod, hm]
  have hb1 : f + m < L := by omega
  have hb2 : L ≤ 600 := by omega
  have hb3 : 0 < L - f := by omega
  have hLK := Kp.mk hL
  have hLe := Kp.mk hLe
  have hfe := Kp.mk hfe
  clear hL hm
  have hcv : IntKind.u64.wrap (l.length : Int) = (l.length : Int) := by rw [IntKind.wrap_u64]; omega
  have HY := Kp.mk hy
  clear hy
  go_enter Try.func9, Try.ntmps9
  go_wp2_with fail
  refine HH.out.mono ?_
  rintro e w1 ⟨rfl, H1⟩
  have HP := Kp.mk (frame_Put (H1.nil 5 1) l G.out.held (by omega) (by omega))
  clear HH H1
  go_wp2_with fail
  refine HP.out.mono ?_
  rintro e w2 ⟨v2, rfl, H2, hz2⟩
  rw [Nat.zero_add, List.nil_append, hLe.out] at H2
  obtain ⟨A2, c2, hv2, hlc2, _⟩ := (H2.sl (by decide)).2
  subst hv2
  have HQ := num_Put0 H2 (l.length : Int) (by omega) (by omega)
  rw [Int.toNat_natCast] at HQ
  have HQ := Kp.mk HQ
  have H2 := Kp.mk H2
  clear HP hz2
  go_wp2_with fail
  refine HQ.out.mono ?_
  rintro e w3 ⟨v3, rfl, H3, hz3⟩
  rw [hfe.out] at H3
  obtain ⟨A3, c3, hv3, _⟩ := (H3.sl (by decide)).2
  subst hv3
  have H3 := Kp.mk H3.drop
  clear HQ hz3
  obtain ⟨inf, hinf, _⟩ := Option.map_eq_some_iff.1 info_u8
  obtain ⟨X, hX⟩ : ∃ X, Kp (frameF l = X) := ⟨_, ⟨rfl⟩⟩
  rw [hX.out] at hLe H3
  have hC := Held.cutTo (l := X) (A := A2) (c := c2) Try.underlying24 hinf (by rw [hLe.out]; exact held_row (by decide) : Held w (Old w * Row 5 1 (.slice A2 L c2) L (U X)) (.slice A2 X.length c2) 1 X.length (U X)) (by rw [hLe.out]; exact hlc2) ((f : Int) + (m : Int)) (f + m) (by omega) (by rw [hLe.out]; omega)
  rw [hLe.out] at hC
  obtain ⟨hx1, hx2⟩ := hC
  have htl : (X.take (f + m)).length = f + m := by rw [List.length_take, hLe.out]; omega
  have HQ := frame_Next H3.out (l := X.take (f + m)) (vd := .slice A2 (f + m) c2) (by rw [htl]; exact hx2) (by rw [htl]; omega)
  obtain ⟨⟨d1, n1, e1⟩, hn1⟩ : ∃ r, Kp (nextF (X.take (f + m)) = r) := ⟨_, ⟨rfl⟩⟩
  have he1 : e1 = 8 := by
    have h := turns_short l (by omega) (f + m) (by rw [hfe.out]; omega) (by rw [hX.out, hLe.out]; exact hb1)
    rw [hX.out, hn1.out] at h
    exact h
  subst he1
  unfold NextEnd at HQ
  rw [hn1.out] at HQ
  have HQ := Kp.mk HQ
  clear hx2 htl hn1
  go_wp2_with fail
  refine HQ.out.mono ?_
  rintro e w4 ⟨v4, rfl, H4, hz4⟩
  dsimp only at H4 ⊢
  obtain ⟨A', c', x, hv, hcell, hx, _⟩ := H4.drop.sl (by decide) |>.byte (f + m) hb1
  injection hv with hv1 _ hv2
  subst hv1 hv2
  obtain ⟨A4, c4, hv4, _⟩ := (H4.sl (by decide)).2
  subst hv4
  obtain ⟨hfz, H5⟩ := H4.drop.setRow (f + m) hb1 (.int .u8 (((x ^^^ y).toNat : Nat) : Int))
  have hxor := xor_u8 x y
  rw [show (U X).set (f + m) (.int .u8 (((x ^^^ y).toNat : Nat) : Int)) = U (X.set (f + m) (x ^^^ y)) by rw [U, U, List.map_set]] at H5
  obtain ⟨Z, hZ⟩ : ∃ Z, Kp (X.set (f + m) (x ^^^ y) = Z) := ⟨_, ⟨rfl⟩⟩
  rw [hZ.out] at H5
  have hZl : Z.length = L := by rw [← hZ.out, List.length_set]; exact hLe.out
  have hnx : nextF Z = ([], 0, 12) := by
    have h1 : f + m < (frameF l).length := by rw [hX.out, hLe.out]; exact hb1
    have h2 : (frameF l)[f + m] = x := by
      have h3 := hx.out
      rw [← hX.out, List.getD_eq_getElem?_getD, List.getElem?_eq_getElem h1] at h3
      exact h3
    have h := turns_bad l (by omega) (f + m) (by rw [hfe.out]; omega) h1 (x ^^^ y) (by rw [h2]; exact xor_ne x y HY.out)
    rw [hX.out, hZ.out] at h
    exact h
  have hwb : wholeF Z = (0, 12) := whole_bad hnx (by decide) (by omega)
  have hZK := Kp.mk hZl
  have HN := frame_Next H5 (l := Z) (vd := .slice (some A') L c2) (by rw [hZl]; exact held_row (by decide)) (by omega)
  unfold NextEnd at HN
  rw [hnx] at HN
  have HN := Kp.mk HN
  have H5 := Kp.mk H5
  have hwb := Kp.mk hwb
  clear HQ hz4 H4 hZl hnx hZ hx hX hx1
  go_wp2_with fail
  refine HN.out.mono ?_
  rintro e w5 ⟨v5, rfl, H6, hz5⟩
  dsimp only at H6 ⊢
  obtain ⟨A5, c5, hv5, _⟩ := (H6.sl (by decide)).2
  subst hv5
  have HW := frame_Whole H6.drop (l := Z) (vd := .slice (some A') L c2) (by rw [hZK.out]; exact held_row (by decide)) (by rw [hZK.out]; omega)
  rw [hwb.out] at HW
  have HW := Kp.mk HW
  clear HN hz5 H6
  go_wp2_with fail
  refine HW.out.mono ?_
  rintro e w6 ⟨A6, c6, rfl, H7⟩
  have H7 := Kp.mk H7
  clear HW
  go_wp2
  go_ret
  exact ⟨rfl, H7.out.drop.old⟩
theorem frameTurns_long (w : World) (vd : Value) (l : List UInt8) (g : Sl w vd 1 l.length (U l)) (a z : Int) (h : 500 < l.length ∨ z = 0) :
    Calls Try.prog 9 #[vd, .int .i64 a, .int .u8 z] w fun e w' => e = .returned (.bool true) ∧ Below w.heap.size w w' := by
  have HH := Kp.mk (head5 (own_start w))
  obtain ⟨A, c, rfl, _⟩ := g.2
  clear g
  by_cases hl : 500 < l.length
  · go_enter Try.func9, Try.ntmps9
    go_wp2_with fail
    refine HH.out.mono ?_
    rintro e w1 ⟨rfl, H1⟩
    go_wp2
    go_ret
    exact ⟨rfl, H1.old⟩
  · obtain rfl : z = 0 := by omega
    have hl2 : l.length ≤ 500 := by omega
    clear h hl
    go_enter Try.func9, Try.ntmps9
    go_wp2_with fail
    refine HH.out.mono ?_
    rintro e w1 ⟨rfl, H1⟩
    go_wp2
    go_ret
    exact ⟨rfl, H1.old⟩
theorem frameTurns_walk (w : World) (vd : Value) (l : List UInt8) (_ : l.length ≤ 140737488351232) (g : Sl w vd 1 l.length (U l)) (a : Int) (_ : (Lit.int .i64 a).wf = true) (z : Int) (wz : (Lit.int .u8 z).wf = true) :
    Calls Try.prog 9 #[vd, .int .i64 a, .int .u8 z] w fun e w' => e = .returned (.bool true) ∧ Below w.heap.size w w' := by
  have hz := bounds_u8 wz
  by_cases h : 500 < l.length ∨ z = 0
  · exact frameTurns_long w vd l g a z h
  · have hy : (((UInt8.ofNat z.toNat).toNat : Nat) : Int) = z := by
      rw [UInt8.toNat_ofNat']
      omega
    have := frameTurns_core w vd l g (by omega) a (UInt8.ofNat z.toNat) (fun e => by
      rw [e] at hy
      exact h (.inr (by rw [← hy]; rfl)))
    rw [hy] at this
    exact this
end Go.Proofs.YtfpiaeodblbfjaaSep
