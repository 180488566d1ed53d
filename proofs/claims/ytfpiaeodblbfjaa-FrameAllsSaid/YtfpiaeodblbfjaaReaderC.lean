/- Own work: the reader's next text, by a walk. -/
import Derived.Test.YtfpiaeodblbfjaaReaderB
namespace Go.Proofs.YtfpiaeodblbfjaaSep
open Go.RowKit Go.Lib Go.Proofs

/-- 'v[:m]' as a run. -/
theorem run_take_l {P : Program} {t e : TypeId} {i : TypeInfo} (ht : P.underlying t = some (.slice e)) (hi : P.info? e = some i) (A : Option Addr) (n c m : Nat) (h1 : m ≤ n) (h2 : n ≤ c) (k : IntKind) : ∀ w, (Instr.slice t (.slice A n c) none (some (.int k (m : Int))) none).run P w = .ok (.slice A m c) w := by
  intro w
  have hel : P.elem t = e := by simp [Program.elem, ht]
  have hu : P.underlying t = some (.slice (P.elem t)) := by rw [hel]; exact ht
  have ha : (A.map fun x => x.add 0) = A := by cases A <;> simp [Addr.add]
  rw [run_slice_h w t A n c hu k (m : Int) (by omega) (by omega), hel]
  simp [sizeOf, typeInfo, hi, sliced, Result.andThen, ha]
theorem run_cut_k {P : Program} {t e sz bytes : Nat} {z : Value} (kl : IntKind) (ht : P.underlying t = some (.slice e)) (hinfo : (P.info? e).map (fun i => (i.zero, i.size, i.bytes)) = some (some z, sz, bytes)) (A X : Option Addr) (n c m : Nat) (h1 : m ≤ n)
    (hX : X = if c = m then A else A.map (·.add (m * sz))) : ∀ w, (Instr.slice t (.slice A n c) (some (.int kl (m : Int))) none none).run P w = .ok (.slice X (n - m) (c - m)) w := by
  intro w
  obtain ⟨inf, hi, hzz⟩ := Option.map_eq_some_iff.1 hinfo
  simp only [Prod.mk.injEq] at hzz
  obtain ⟨_, hz1, _⟩ := hzz
  have hel : P.elem t = e := by simp [Program.elem, ht]
  have hu : P.underlying t = some (.slice (P.elem t)) := by rw [hel]; exact ht
  rw [run_slice_l w t A n c hu kl (m : Int) (by omega) (by omega), hel]
  simp [sizeOf, typeInfo, hi, hz1, sliced, Result.andThen, hX]
theorem numGo_fit (most : Nat) : ∀ (l : List UInt8) (i n : Nat), (numGo most i n l).2.1.length ≤ l.length ∧ ((numGo most i n l).2.2 = 0 → (numGo most i n l).1 ≤ most) := by
  intro l
  induction l with
  | nil => intro i n; simp [numGo]
  | cons c t ih =>
    intro i n
    rw [numGo]
    repeat' split
    · simp
    · simp
    · simp; omega
    · have := ih (i + 1) (n + c.toNat % 128 * 128 ^ i); simp; omega
/-- A text off bytes, by the number before it. -/
def textOf (r : Nat × List UInt8 × Int) : List UInt8 × List UInt8 × Int :=
  if r.2.2 = 0 then (if r.1 ≤ r.2.1.length then (r.2.1.take r.1, r.2.1.drop r.1, 0) else ([], [], 8)) else ([], r.2.1, r.2.2)
section
variable {W0 w : World} {R : HP} {p : Nat} {l : List UInt8} {er : Int}
def TextEnd (W0 : World) (R : HP) (p : Nat) (r : List UInt8 × List UInt8 × Int) (w : World) (e : Ending) (w' : World) : Prop :=
  e = .returned (.string (str r.1)) ∧ Own W0 w' (R * Rdr p r.2.1 r.2.2) ∧ w.heap.size ≤ w'.heap.size
theorem str_nil : str [] = ({ data := #[] } : ByteArray) := rfl
set_option maxHeartbeats 1500000 in
theorem rdr_Text (H : Own W0 w (R * Rdr p l 0)) (m : Int) (hm : m < 9223372036854775808) (hl : l.length ≤ 100000000) :
    Calls Try.prog 20 #[.pointer (some ⟨p, 0, none⟩), .int .i64 m] w (TextEnd W0 R p (textOf (numGo m.toNat 0 0 l)) w) := by
  have HQ := rdr_Num H m.toNat hl
  have hfit := numGo_fit m.toNat l 0 0
  generalize hr : numGo m.toNat 0 0 l = r at HQ hfit ⊢
  obtain ⟨n, t, er⟩ := r
  obtain ⟨hf1, hf2⟩ := hfit
  clear hr H
  simp only at hf1 hf2
  have htl : t.length ≤ 100000000 := by omega
  have hn64 : Kp (er = 0 → n < 9223372036854775808) := ⟨fun h => by have := hf2 h; omega⟩
  have hcase : ∃ x : Int, (m ≤ 0 ∧ x = 0 ∨ 0 < m ∧ x = m) ∧ ((m.toNat : Nat) : Int) = IntKind.u64.wrap x := by
    rcases (show m ≤ 0 ∨ 0 < m by omega) with h | h
    · exact ⟨0, Or.inl ⟨h, rfl⟩, by rw [IntKind.wrap_u64]; omega⟩
    · exact ⟨m, Or.inr ⟨h, rfl⟩, by rw [IntKind.wrap_u64]; omega⟩
  obtain ⟨x, hx, hx2⟩ := hcase
  rw [hx2] at HQ
  have HQ := Kp.mk HQ
  clear hf1 hf2 hm hx2 hl
  rcases hx with ⟨h, rfl⟩ | ⟨h, rfl⟩
  all_goals
    go_enter Try.func20, Try.ntmps20
    go_wp2_with fail
    refine HQ.out.mono ?_
    rintro e w1 ⟨rfl, H1, hz1⟩
    dsimp only at H1 ⊢
    clear HQ
    have hzk := Kp.mk hz1
    clear hz1
    obtain ⟨vb, H2⟩ := H1.rdr
    have hS := H2.rds
    obtain ⟨A, c, rfl, j1, j2⟩ := H2.rds.2
    clear j2
    have c0 : w1.cell? ⟨p, 0, none⟩ = some (.slice A t.length c) := cell_blk H2.drop.blk rfl
    have c1 : w1.cell? ⟨p, 1, none⟩ = some (.int .i64 er) := cell_blk H2.drop.blk rfl
    have f0 : w1.frozen? ⟨p, 0, none⟩ = false := frz_blk H2.drop.blk
    have H2 := Kp.mk H2
    by_cases he : er = 0
    · subst he
      have hn6 := hn64.out rfl
      have HF := Kp.mk (rdr_fail H1)
      clear H1
      by_cases hnt : n ≤ t.length
      · have HT := Kp.mk (show textOf (n, t, 0) = (t.take n, t.drop n, 0) by simp [textOf, hnt])
        have hs := hS.take hnt
        rw [Nat.mul_one, show (U t).take n = U (t.take n) by rw [U, U, List.map_take]] at hs
        have hrs := run_str (P := Try.prog) (l := t.take n) Try.underlying24 Try.underlying5 Try.underlying9 hs
        obtain ⟨X, hX⟩ : ∃ X : Option Addr, X = if c = n then A else A.map (·.add (n * 1)) := ⟨_, rfl⟩
        have hcut := run_cut_k (P := Try.prog) .u64 Try.underlying24 info_u8 A X t.length c n hnt hX
        have htk := fun i hi => run_take_l (P := Try.prog) (i := i) Try.underlying24 hi A t.length c n hnt j1 .u64
        have KX := Kp.mk hX
        clear hS hs hX
        go_wp2
        go_ret
        rw [HT.out]
        refine ⟨rfl, ?_, by simpa using hzk.out⟩
        refine rdr_cut (k := n) H2.out hnt ?_
        rw [KX.out, Nat.mul_one]
      · have HT := Kp.mk (show textOf (n, t, 0) = ([], [], 8) by simp [textOf, hnt])
        clear hS
        go_wp2_with fail
        refine (HF.out 8).mono ?_
        rintro e w2 ⟨rfl, H3, hz2⟩
        go_wp2
        go_ret
        rw [HT.out]
        exact ⟨rfl, H3, Nat.le_trans hzk.out hz2⟩
    · have HT := Kp.mk (show textOf (n, t, er) = ([], t, er) by simp [textOf, he])
      have h2 : (er == 0) = false := by simpa using he
      have h3 : (er != 0) = true := by simpa using he
      have H1 := Kp.mk H1
      clear hS he
      go_wp2
      go_ret
      rw [HT.out]
      exact ⟨rfl, H1.out, hzk.out⟩
end
end Go.Proofs.YtfpiaeodblbfjaaSep
