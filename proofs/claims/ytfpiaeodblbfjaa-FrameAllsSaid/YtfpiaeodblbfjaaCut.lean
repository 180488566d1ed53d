/- Own work: parts of slices. -/
import Derived.Test.YtfpiaeodblbfjaaReaderC
namespace Go.Proofs.YtfpiaeodblbfjaaSep
open Go.RowKit Go.Lib Go.Proofs

/-- 'v[i:j]' as a run. -/
theorem run_sub {P : Program} {t e sz bytes : Nat} {z : Value} (ht : P.underlying t = some (.slice e)) (hinfo : (P.info? e).map (fun i => (i.zero, i.size, i.bytes)) = some (some z, sz, bytes)) (A X : Option Addr) (n c : Nat) (i j : Int) (h0 : 0 ≤ i) (h1 : i ≤ j) (h2 : j ≤ c)
    (hX : X = if c = i.toNat then A else A.map (·.add (i.toNat * sz))) : ∀ w, (Instr.slice t (.slice A n c) (some (.int .i64 i)) (some (.int .i64 j)) none).run P w = .ok (.slice X (j.toNat - i.toNat) (c - i.toNat)) w := by
  intro w
  obtain ⟨inf, hi, hzz⟩ := Option.map_eq_some_iff.1 hinfo
  simp only [Prod.mk.injEq] at hzz
  obtain ⟨_, hz1, _⟩ := hzz
  have hel : P.elem t = e := by simp [Program.elem, ht]
  have hu : P.underlying t = some (.slice (P.elem t)) := by rw [hel]; exact ht
  rw [run_slice_lh w t A n c hu .i64 .i64 i j h0 h1 h2, hel]
  simp [sizeOf, typeInfo, hi, hz1, sliced, Result.andThen, hX]
/-- A part of bytes that are held is held. -/
theorem Held.cut {P : Program} {t e bytes : Nat} {z : Value} (ht : P.underlying t = some (.slice e)) (hinfo : (P.info? e).map (fun i => (i.zero, i.size, i.bytes)) = some (some z, 1, bytes)) {W0 : World} {R : HP} {A : Option Addr} {c : Nat} {l : List UInt8} (h : Held W0 R (.slice A l.length c) 1 l.length (U l)) (hc : l.length ≤ c)
    (i j : Int) (i' j' : Nat) (hi : i = i') (hj : j = j') (hij : i' ≤ j') (hjn : j' ≤ l.length) :
    ∃ X, (∀ w, (Instr.slice t (.slice A l.length c) (some (.int .i64 i)) (some (.int .i64 j)) none).run P w = .ok (.slice X (j' - i') (c - i')) w) ∧ Held W0 R (.slice X (j' - i') (c - i')) 1 (j' - i') (U ((l.drop i').take (j' - i'))) := by
  subst hi hj
  refine ⟨if c = i' then A else A.map (·.add i'), ?_, fun w H => ?_⟩
  · have := run_sub ht hinfo A _ l.length c (i' : Int) (j' : Int) (by omega) (by omega) (by omega) rfl
    rw [Int.toNat_natCast, Int.toNat_natCast, Nat.mul_one] at this
    exact this
  · have h1 := (h w H).drop (k := i') (by omega)
    have h2 := h1.take (m := j' - i') (by omega)
    rw [Nat.mul_one] at h2
    rw [U, List.map_take, List.map_drop]
    exact h2
/-- What lies behind a place of bytes that are held is held. -/
theorem Held.cutFrom {P : Program} {t e bytes : Nat} {z : Value} (ht : P.underlying t = some (.slice e)) (hinfo : (P.info? e).map (fun i => (i.zero, i.size, i.bytes)) = some (some z, 1, bytes)) {W0 : World} {R : HP} {A : Option Addr} {c : Nat} {l : List UInt8} (h : Held W0 R (.slice A l.length c) 1 l.length (U l))
    (i : Int) (i' : Nat) (hi : i = i') (hin : i' ≤ l.length) :
    ∃ X, (∀ w, (Instr.slice t (.slice A l.length c) (some (.int .i64 i)) none none).run P w = .ok (.slice X (l.length - i') (c - i')) w) ∧ Held W0 R (.slice X (l.length - i') (c - i')) 1 (l.drop i').length (U (l.drop i')) := by
  subst hi
  refine ⟨if c = i' then A else A.map (·.add i'), ?_, fun w H => ?_⟩
  · have := run_cut_l ht hinfo A _ l.length c (i' : Int) (by omega) (by omega) rfl
    rw [Int.toNat_natCast, Nat.mul_one] at this
    exact this
  · have h1 := (h w H).drop (k := i') (by omega)
    rw [List.length_drop, U, List.map_drop]
    exact h1
/-- What stands ahead of a place of bytes that are held is held. -/
theorem Held.cutTo {P : Program} {t e : TypeId} {i : TypeInfo} (ht : P.underlying t = some (.slice e)) (hinfo : P.info? e = some i) {W0 : World} {R : HP} {A : Option Addr} {c : Nat} {l : List UInt8} (h : Held W0 R (.slice A l.length c) 1 l.length (U l)) (hc : l.length ≤ c)
    (j : Int) (j' : Nat) (hj : j = j') (hjn : j' ≤ l.length) :
    (∀ w, (Instr.slice t (.slice A l.length c) none (some (.int .i64 j)) none).run P w = .ok (.slice A j' c) w) ∧ Held W0 R (.slice A j' c) 1 j' (U (l.take j')) := by
  subst hj
  refine ⟨run_take_l ht hinfo A l.length c j' hjn hc .i64, fun w H => ?_⟩
  have h2 := (h w H).take (m := j') (by omega)
  rw [Nat.mul_one] at h2
  rw [U, List.map_take]
  exact h2
end Go.Proofs.YtfpiaeodblbfjaaSep
