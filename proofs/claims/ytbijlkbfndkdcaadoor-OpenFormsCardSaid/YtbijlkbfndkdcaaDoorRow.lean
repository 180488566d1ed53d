/- Own work: an element of an owned slice is written; masks; the sum tells a turned byte. -/
import Derived.Test.YtbijlkbfndkdcaaDoorBytes
import Derived.Test.YtbijlkbfndkdcaaDoorLaw
namespace Go.Proofs.YtbijlkbfndkdcaaDoorSep
open Go.RowKit Go.Lib Go.Proofs

section
variable {W0 w : World} {P : HP} {e sz n : Nat} {v : Value} {cs : List Value}
theorem Own.rowBlk (H : Own W0 w (P * Row e sz v n cs)) (hn : 0 < n) : ∃ g cap cur, v = .slice (some ⟨g, 0, none⟩) n cap ∧ n ≤ cap ∧ cap ≤ maxLen ∧ cur.size = cap * sz ∧ cur.toList.take (n * sz) = cs ∧ Own W0 w (P * Blk g (.cells cur e)) := by
  rcases H.split with h | ⟨⟨rfl, _⟩, _⟩
  · obtain ⟨h1, h2, h3, h, ⟨p, a, hd, rfl, hp, hl, hA⟩, hs⟩ := h
    rcases hA with ⟨_, h0, _⟩ | ⟨g, cap, cur, rfl, rfl, c1, c2, c3, c4⟩
    · omega
    · exact ⟨g, cap, cur, rfl, c1, c2, c3, c4, h1, h2, h3, _, ⟨p, _, hd, rfl, hp, rfl⟩, hs⟩
  · omega
theorem Own.setRow {A : Addr} {c : Nat} (H : Own W0 w (P * Row e 1 (.slice (some A) n c) n cs)) (j : Nat) (hj : j < n) (u : Value) :
    w.frozen? (A.add j) = false ∧ Own W0 (w.setCell (A.add j) u) (P * Row e 1 (.slice (some A) n c) n (cs.set j u)) := by
  obtain ⟨g, cap, cur, hv, h1, h2, h3, h4, HB⟩ := H.rowBlk (by omega)
  injection hv with e1 e2 e3
  injection e1 with e1
  subst e1 e3
  have hadd : (⟨g, 0, none⟩ : Addr).add j = ⟨g, j, none⟩ := by unfold Addr.add; split <;> simp_all
  rw [hadd]
  refine ⟨by simp [World.frozen?, HB.blk], ?_⟩
  have h5 := (HB.set j u).made (sz := 1) n h1 h2 (by rw [Array.size_setIfInBounds]; exact h3)
  rw [← h4, ← List.take_set, ← Array.toList_setIfInBounds]
  exact h5
end
theorem and_i64 (x : Int) (m : Nat) (hm : m < 9223372036854775808) : ∃ k : Nat, k ≤ m ∧ bits .and .i64 x (m : Int) = (k : Int) := by
  refine ⟨(BitVec.ofInt 64 x &&& BitVec.ofInt 64 (m : Int)).toNat, ?_, ?_⟩
  · rw [BitVec.toNat_and, BitVec.ofInt_natCast, BitVec.toNat_ofNat]
    exact Nat.le_trans Nat.and_le_right (Nat.mod_le _ _)
  · have h : (BitVec.ofInt 64 x &&& BitVec.ofInt 64 (m : Int)).toNat ≤ m := by
      rw [BitVec.toNat_and, BitVec.ofInt_natCast, BitVec.toNat_ofNat]
      exact Nat.le_trans Nat.and_le_right (Nat.mod_le _ _)
    show IntKind.i64.wrap ((BitVec.ofInt 64 x &&& BitVec.ofInt 64 (m : Int)).toNat : Int) = _
    rw [IntKind.wrap_i64]
    omega
/-! The sum tells a byte that is turned. -/
theorem mul_odd_inj {x y : Nat} (hx : x < 4294967296) (hy : y < 4294967296) (h : x * 16777619 % 4294967296 = y * 16777619 % 4294967296) : x = y := by
  have h2 : x * 16777619 % 4294967296 * 899433627 % 4294967296 = y * 16777619 % 4294967296 * 899433627 % 4294967296 := by rw [h]
  rw [Nat.mod_mul_mod, Nat.mod_mul_mod, Nat.mul_assoc, Nat.mul_assoc, show 16777619 * 899433627 = 3513497 * 4294967296 + 1 from by decide +kernel] at h2
  rw [Nat.mul_add, Nat.mul_add, ← Nat.mul_assoc, ← Nat.mul_assoc, Nat.mul_add_mod_self_right, Nat.mul_add_mod_self_right, Nat.mul_one, Nat.mul_one, Nat.mod_eq_of_lt hx, Nat.mod_eq_of_lt hy] at h2
  exact h2
theorem xor_lt32 {s : Nat} (b : UInt8) (hs : s < 4294967296) : s ^^^ b.toNat < 4294967296 := Nat.xor_lt_two_pow (n := 32) hs (by have := b.toNat_lt; omega)
theorem sumStep_inj {s t : Nat} {b c : UInt8} (hs : s < 4294967296) (ht : t < 4294967296) (h : sumStep s b = sumStep t c) : s ^^^ b.toNat = t ^^^ c.toNat :=
  mul_odd_inj (xor_lt32 b hs) (xor_lt32 c ht) h
theorem xor_cancel {a b c : Nat} (h : a ^^^ c = b ^^^ c) : a = b := by
  have := congrArg (· ^^^ c) h
  simpa [Nat.xor_assoc] using this
theorem sumFrom_inj (l : List UInt8) : ∀ s t : Nat, s < 4294967296 → t < 4294967296 → l.foldl sumStep s = l.foldl sumStep t → s = t := by
  induction l with
  | nil => intro s t _ _ h; exact h
  | cons b l ih =>
    intro s t hs ht h
    exact xor_cancel (sumStep_inj hs ht (ih _ _ (sumStep_lt _ _) (sumStep_lt _ _) h))
theorem sumF_set (l : List UInt8) (j : Nat) (hj : j < l.length) (b : UInt8) (hb : b ≠ l[j]) : sumF (l.set j b) ≠ sumF l := by
  intro h
  have e1 : l = l.take j ++ l[j] :: l.drop (j + 1) := by rw [← List.drop_eq_getElem_cons hj, List.take_append_drop]
  have e2 : l.set j b = l.take j ++ b :: l.drop (j + 1) := List.set_eq_take_append_cons_drop.trans (if_pos hj)
  rw [e2] at h
  conv at h => rhs; rw [e1]
  unfold sumF at h
  rw [List.foldl_append, List.foldl_append, List.foldl_cons, List.foldl_cons] at h
  have hs : (l.take j).foldl sumStep sum0 < 4294967296 := sumFrom_lt _ _ (by decide)
  have h2 := sumStep_inj hs hs (sumFrom_inj _ _ _ (sumStep_lt _ _) (sumStep_lt _ _) h)
  rw [Nat.xor_comm _ b.toNat, Nat.xor_comm _ (l[j]).toNat] at h2
  exact hb (UInt8.toNat_inj.1 (xor_cancel h2))
theorem four8_inj {s t : Nat} (hs : s < 4294967296) (ht : t < 4294967296) (h : four8 s = four8 t) : s = t := by
  simp only [four8, List.cons.injEq, and_true] at h
  obtain ⟨h1, h2, h3, h4⟩ := h
  have h1 := congrArg UInt8.toNat h1
  have h2 := congrArg UInt8.toNat h2
  have h3 := congrArg UInt8.toNat h3
  have h4 := congrArg UInt8.toNat h4
  simp only [UInt8.toNat_ofNat'] at h1 h2 h3 h4
  omega
end Go.Proofs.YtbijlkbfndkdcaaDoorSep
