/- Own work: the reader's next number and next text, by walks. -/
import Derived.Test.YtfpiaeodblbfjaaReaderA
namespace Go.Proofs.YtfpiaeodblbfjaaSep
open Go.RowKit Go.Lib Go.Proofs

/-- A number off bytes: what it is, what is left, and why there is none. -/
def numGo (most : Nat) : Nat → Nat → List UInt8 → Nat × List UInt8 × Int
  | _, _, [] => (0, [], 8)
  | i, n, c :: t => if (i = 9 ∧ 1 < c.toNat) ∨ (0 < i ∧ c.toNat = 0) then (0, [], 2)
      else if c.toNat < 128 then (if most < n + c.toNat % 128 * 128 ^ i then (0, [], 3) else (n + c.toNat % 128 * 128 ^ i, t, 0))
      else numGo most (i + 1) (n + c.toNat % 128 * 128 ^ i) t
def numR (most : Nat) (l : List UInt8) (er : Int) : Nat × List UInt8 × Int := if er = 0 then numGo most 0 0 l else (0, l, er)
theorem pow128 (k : Nat) : 128 ^ k = 2 ^ (7 * k) := by rw [Nat.pow_mul]
theorem or_code (y k : Nat) (b : UInt8) (hk : k ≤ 9) (h9 : k = 9 → b.toNat ≤ 1) (hy : y < 128 ^ k) :
    bits .or .u64 (y : Int) (IntKind.u64.wrap (IntKind.u64.wrap (bits .and .u8 (b.toNat : Int) 127) * 2 ^ (7 * k))) = ((y + b.toNat % 128 * 128 ^ k : Nat) : Int) ∧ (y + b.toNat % 128 * 128 ^ k < 18446744073709551616) ∧ y + b.toNat % 128 * 128 ^ k < 128 ^ (k + 1) := by
  have hb := b.toNat_lt
  have hand : b.toNat &&& 127 = b.toNat % 128 := Nat.and_two_pow_sub_one_eq_mod b.toNat 7
  have e1 : bits .and .u8 (b.toNat : Int) 127 = ((b.toNat % 128 : Nat) : Int) := by
    rw [show (127 : Int) = ((127 : Nat) : Int) from rfl, u8_and_nat _ _ (by omega) (by omega), hand]
  have hpos : 0 < 128 ^ k := Nat.pos_of_ne_zero (by simp)
  have hbound : b.toNat % 128 * 128 ^ k + 128 ^ k ≤ 18446744073709551616 := by
    rcases Nat.lt_or_ge k 9 with h | h
    · have h1 : 128 ^ k ≤ 128 ^ 8 := Nat.pow_le_pow_right (by decide) (by omega)
      have h2 : b.toNat % 128 * 128 ^ k ≤ 127 * 128 ^ k := Nat.mul_le_mul_right _ (by omega)
      have h3 : (128 : Nat) ^ 8 = 72057594037927936 := by decide +kernel
      rw [h3] at h1
      generalize 128 ^ k = q at h1 h2 ⊢
      omega
    · obtain rfl : k = 9 := by omega
      have h1 := h9 rfl
      have h3 : (128 : Nat) ^ 9 = 9223372036854775808 := by decide +kernel
      rw [h3]
      omega
  have hnext : y + b.toNat % 128 * 128 ^ k < 128 ^ (k + 1) := by
    rw [Nat.pow_succ]
    have h2 : b.toNat % 128 * 128 ^ k ≤ 127 * 128 ^ k := Nat.mul_le_mul_right _ (by omega)
    omega
  refine ⟨?_, by omega, hnext⟩
  have e2 : IntKind.u64.wrap ((b.toNat % 128 : Nat) : Int) = ((b.toNat % 128 : Nat) : Int) := by rw [IntKind.wrap_u64]; omega
  have e3 : (((b.toNat % 128 : Nat) : Int) * 2 ^ (7 * k)) = ((b.toNat % 128 * 128 ^ k : Nat) : Int) := by rw [pow128]; push_cast; rfl
  have e4 : IntKind.u64.wrap ((b.toNat % 128 * 128 ^ k : Nat) : Int) = ((b.toNat % 128 * 128 ^ k : Nat) : Int) := by rw [IntKind.wrap_u64]; omega
  rw [e1, e2, e3, e4, u64_or_nat _ _ (by omega) (by omega)]
  congr 1
  rw [pow128] at hy ⊢
  have := Nat.two_pow_add_eq_or_of_lt hy (b.toNat % 128)
  rw [Nat.or_comm, Nat.mul_comm, ← this, Nat.add_comm]
section
variable {W0 w : World} {R : HP} {p : Nat} {l : List UInt8} {er : Int}
def NumEnd (W0 : World) (R : HP) (p : Nat) (r : Nat × List UInt8 × Int) (w : World) (e : Ending) (w' : World) : Prop :=
  e = .returned (.int .u64 r.1) ∧ Own W0 w' (R * Rdr p r.2.1 r.2.2) ∧ w.heap.size ≤ w'.heap.size
theorem rdr_cut {A X : Option Addr} {c k : Nat} (HH : Own W0 w (R * Blk p (.cells #[.slice A l.length c, .int .i64 0] 62) * Rds (.slice A l.length c) 1 l.length (U l))) (hk : k ≤ l.length)
    (hX : X = if c = k then A else A.map (·.add k)) : Own W0 (w.setCell ⟨p, 0, none⟩ (.slice X (l.length - k) (c - k))) (R * Rdr p (l.drop k) 0) := by
  have h1 := (HH.rot.set 0 (.slice X (l.length - k) (c - k))).rot
  refine Own.ofRdr (vb := .slice X (l.length - k) (c - k)) (h1.turn fun h hh w' hw => ?_)
  rw [List.length_drop, U, List.map_drop, hX]
  exact (hh w' hw).drop hk
set_option maxHeartbeats 6000000 in
set_option maxRecDepth 100000 in
theorem rdr_Num (H : Own W0 w (R * Rdr p l 0)) (most : Nat) (hl : l.length ≤ 100000000) :
    Calls Try.prog 21 #[.pointer (some ⟨p, 0, none⟩), .int .u64 most] w (NumEnd W0 R p (numGo most 0 0 l) w) := by
  have HF := Kp.mk (rdr_fail H)
  obtain ⟨vb, H⟩ := H.rdr
  have hat := Kp.mk fun k => H.rds.byte k
  obtain ⟨A, c, rfl, hlc, j2⟩ := H.rds.2
  clear j2
  have c0 : w.cell? ⟨p, 0, none⟩ = some (.slice A l.length c) := cell_blk H.drop.blk rfl
  have c1 : w.cell? ⟨p, 1, none⟩ = some (.int .i64 0) := cell_blk H.drop.blk rfl
  have f0 : w.frozen? ⟨p, 0, none⟩ = false := frz_blk H.drop.blk
  have HH := Kp.mk H
  clear H
  go_enter Try.func21, Try.ntmps21
  go_wp2
  go_loopg [5, 22] l.length (fun g n i wr => ∃ k y : Nat, k ≤ l.length ∧ k ≤ 9 ∧ i = .int .i64 k ∧ n = .int .u64 y ∧ Kp (g + k = l.length) ∧ Kp (y < 128 ^ k) ∧ Kp (numGo most 0 0 l = numGo most k y (l.drop k)) ∧ w = wr)
  case atStart => exact ⟨0, 0, Nat.zero_le _, Nat.zero_le _, rfl, rfl, ⟨by omega⟩, ⟨by decide⟩, ⟨rfl⟩, rfl⟩
  case round =>
    obtain ⟨k, y, hk, hk9, rfl, rfl, hg, hy, HE, rfl⟩ := hrel
    by_cases hlt : k < l.length
    · obtain ⟨A', c', b, he, hc, hb, hb2⟩ := hat.out k hlt
      injection he with e1 e2 e3
      subst e1
      clear e2 e3
      have hn := Kp.mk (show l.drop k = b :: l.drop (k + 1) by
        rw [List.drop_eq_getElem_cons hlt, ← hb.out, List.getD_eq_getElem?_getD, List.getElem?_eq_getElem hlt]; rfl)
      by_cases hf : (k = 9 ∧ 1 < b.toNat) ∨ (0 < k ∧ b.toNat = 0)
      · have HN := Kp.mk (show numGo most 0 0 l = (0, [], 2) by rw [HE.out, hn.out, numGo, if_pos hf])
        have hfk : (9 ≤ k ∧ 2 ≤ b.toNat) ∨ (9 ≤ k ∧ b.toNat < 1) ∨ (1 ≤ k ∧ k < 9 ∧ b.toNat < 1) := by omega
        clear hf hg
        have q1 : 1 < b.toNat ∨ (decide ((1 : Int) < (b.toNat : Int)) = false ∧ ((b.toNat : Int) == 0) = true) := by
          rcases hfk with ⟨p1, p2⟩ | ⟨p1, p2⟩ | ⟨p1, p2, p3⟩
          · exact Or.inl (by omega)
          · exact Or.inr ⟨decide_eq_false (by omega), beq_iff_eq.2 (by omega)⟩
          · exact Or.inr ⟨decide_eq_false (by omega), beq_iff_eq.2 (by omega)⟩
        have hfk : (9 ≤ k ∧ 2 ≤ b.toNat) ∨ (9 ≤ k ∧ decide ((1 : Int) < (b.toNat : Int)) = false ∧ ((b.toNat : Int) == 0) = true) ∨ (1 ≤ k ∧ k < 9 ∧ b.toNat < 1) := by
          rcases hfk with ⟨p1, p2⟩ | ⟨p1, p2⟩ | ⟨p1, p2, p3⟩
          · exact Or.inl ⟨p1, p2⟩
          · exact Or.inr (Or.inl ⟨p1, decide_eq_false (by omega), beq_iff_eq.2 (by omega)⟩)
          · exact Or.inr (Or.inr ⟨p1, p2, p3⟩)
        clear q1
        rcases hfk with ⟨p1, p2⟩ | ⟨p1, p2, p3⟩ | ⟨p1, p2, p3⟩
        all_goals
          go_wp2_with fail
          refine (HF.out 2).mono ?_
          rintro e w1 ⟨rfl, H1, hz1⟩
          go_wp2
          go_ret
          rw [HN.out]
          exact ⟨rfl, H1, hz1⟩
      · by_cases hs : b.toNat < 128
        · by_cases h9 : k = 9
          · have HO := Kp.mk (or_code y k b hk9 (by omega) hy.out)
            obtain ⟨z, hz⟩ : ∃ z, z = y + b.toNat % 128 * 128 ^ k := ⟨_, rfl⟩
            have hz3 := HO.out.1
            rw [← hz, h9, show ((2 : Int) ^ (7 * 9)) = 9223372036854775808 from by decide +kernel] at hz3
            have q3 : decide ((b.toNat : Int) < 128) = true := decide_eq_true (by omega)
            have HS0 := Kp.mk (show numGo most 0 0 l = (if most < z then (0, [], 3) else (z, l.drop 10, 0)) by rw [HE.out, hn.out, numGo, if_neg hf, if_pos hs, ← hz, h9])
            obtain ⟨X, hX⟩ : ∃ X : Option Addr, X = if c = (10 : Int).toNat then some A' else (some A').map (·.add ((10 : Int).toNat * 1)) := ⟨_, rfl⟩
            have hcut := run_cut_l (P := Try.prog) Try.underlying24 info_u8 (some A') X l.length c (10 : Int) (by omega) (by omega) hX
            have KX := Kp.mk hX
            have KL := Kp.mk (show 10 ≤ l.length by omega)
            have p1 : 9 ≤ k := by omega
            have p2 : decide ((1 : Int) < (b.toNat : Int)) = false := decide_eq_false (by omega)
            have p3 : ((b.toNat : Int) == 0) = false := beq_eq_false_iff_ne.2 (by omega)
            have HS := Kp.mk hs
            clear hf hs hg hX hz HO h9
            by_cases hmz : most < z
            · have q4 : decide ((most : Int) < (z : Int)) = true := decide_eq_true (by omega)
              have HN := Kp.mk (show numGo most 0 0 l = (0, [], 3) by rw [HS0.out, if_pos hmz])
              clear hcut q4
              go_wp2_with fail
              refine (HF.out 3).mono ?_
              rintro e w1 ⟨rfl, H1, hz1⟩
              go_wp2
              go_ret
              rw [HN.out]
              exact ⟨rfl, H1, hz1⟩
            · have q4 : decide ((most : Int) < (z : Int)) = false := decide_eq_false (by omega)
              have HN := Kp.mk (show numGo most 0 0 l = (z, l.drop 10, 0) by rw [HS0.out, if_neg hmz])
              have hmz2 : z ≤ most := by omega
              clear hmz q4
              go_wp2
              go_ret
              rw [HN.out]
              refine ⟨rfl, rdr_cut (k := 10) HH.out KL.out ?_, by simp⟩
              rw [KX.out]
              rfl
          have HO := Kp.mk (or_code y k b hk9 (by omega) hy.out)
          obtain ⟨z, hz⟩ : ∃ z, z = y + b.toNat % 128 * 128 ^ k := ⟨_, rfl⟩
          have hz2 := HO.out.2.1
          have hz3 := HO.out.1
          rw [← hz] at hz2 hz3
          have q3 : decide ((b.toNat : Int) < 128) = true := decide_eq_true (by omega)
          have HS0 := Kp.mk (show numGo most 0 0 l = (if most < z then (0, [], 3) else (z, l.drop (k + 1), 0)) by rw [HE.out, hn.out, numGo, if_neg hf, if_pos hs, ← hz])
          obtain ⟨X, hX⟩ : ∃ X : Option Addr, X = if c = ((k : Int) + 1).toNat then some A' else (some A').map (·.add (((k : Int) + 1).toNat * 1)) := ⟨_, rfl⟩
          have hcut := run_cut_l (P := Try.prog) Try.underlying24 info_u8 (some A') X l.length c ((k : Int) + 1) (by omega) (by omega) hX
          have KX := Kp.mk hX
          have hbk : k < 1 ∨ (1 ≤ k ∧ k < 9 ∧ 1 ≤ b.toNat) := by omega
          clear h9
          have HS := Kp.mk hs
          clear hf hs hg hX hz hz2 HO
          by_cases hmz : most < z
          · have q4 : decide ((most : Int) < (z : Int)) = true := decide_eq_true (by omega)
            have HN := Kp.mk (show numGo most 0 0 l = (0, [], 3) by rw [HS0.out, if_pos hmz])
            clear hcut q4
            rcases hbk with p1 | ⟨p1, p2, p3⟩
            all_goals
              go_wp2_with fail
              refine (HF.out 3).mono ?_
              rintro e w1 ⟨rfl, H1, hz1⟩
              go_wp2
              go_ret
              rw [HN.out]
              exact ⟨rfl, H1, hz1⟩
          · have q4 : decide ((most : Int) < (z : Int)) = false := decide_eq_false (by omega)
            have HN := Kp.mk (show numGo most 0 0 l = (z, l.drop (k + 1), 0) by rw [HS0.out, if_neg hmz])
            have hmz2 : z ≤ most := by omega
            clear hmz q4
            rcases hbk with p1 | ⟨p1, p2, p3⟩
            all_goals
              go_wp2
              go_ret
              rw [HN.out]
              refine ⟨rfl, rdr_cut (k := k + 1) HH.out (by omega) ?_, by simp⟩
              have e : ((k : Int) + 1).toNat = k + 1 := by omega
              rw [KX.out, e, Nat.mul_one]
        · have HO := Kp.mk (or_code y k b hk9 (by omega) hy.out)
          have h9 : k < 9 := by omega
          have q0 : ((k : Int) == 9) = false := beq_eq_false_iff_ne.2 (by omega)
          have q2 : ((b.toNat : Int) == 0) = false := beq_eq_false_iff_ne.2 (by omega)
          have q3 : decide ((b.toNat : Int) < 128) = false := decide_eq_false (by omega)
          have HS := Kp.mk (show numGo most 0 0 l = numGo most (k + 1) (y + b.toNat % 128 * 128 ^ k) (l.drop (k + 1)) by rw [HE.out, hn.out, numGo, if_neg hf, if_neg hs])
          have hck : k < 1 ∨ (1 ≤ k ∧ 1 ≤ b.toNat) := by omega
          have p0 : 128 ≤ b.toNat := by omega
          clear hf hs q0 q2
          rcases hck with p1 | ⟨p1, p2⟩
          all_goals
            go_wp2
            go_roundg (l.length - (k + 1))
            case measure => have := hg.out; omega
            case rel => exact ⟨k + 1, y + b.toNat % 128 * 128 ^ k, by omega, by omega, by go_num, congrArg (Value.int .u64) HO.out.1, ⟨by omega⟩, ⟨HO.out.2.2⟩, HS, rfl⟩
    · obtain rfl : k = l.length := by omega
      have HN := Kp.mk (show numGo most 0 0 l = (0, [], 8) by rw [HE.out, List.drop_length, numGo])
      clear hg
      go_wp2_with fail
      refine (HF.out 8).mono ?_
      rintro e w1 ⟨rfl, H1, hz1⟩
      go_wp2
      go_ret
      rw [HN.out]
      exact ⟨rfl, H1, hz1⟩
end
end Go.Proofs.YtfpiaeodblbfjaaSep
