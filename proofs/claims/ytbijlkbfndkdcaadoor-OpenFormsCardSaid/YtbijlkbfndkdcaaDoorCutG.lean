/- Own work: what stands behind a place of a slice. No program in it. -/
import Derived.Test.YtbijlkbfndkdcaaDoorBig
import Derived.Lib.SliceRun
namespace Go.Proofs.YtbijlkbfndkdcaaDoorSep
open Go.RowKit Go.Lib Go.Proofs
/-- A cut from k on. -/
theorem Sl.drop {w : World} {A : Option Addr} {n c k : Nat} {cs : List Value} (h : Sl w (.slice A n c) 1 n cs) (hk : k ≤ n) : Sl w (.slice (if c = k then A else A.map (·.add k)) (n - k) (c - k)) 1 (n - k) (cs.drop k) := by
  obtain ⟨hl, A', c', he, h1, h2, h4, h3⟩ := h
  injection he with e1 _ e3
  subst e1 e3
  refine ⟨by rw [List.length_drop, hl]; omega, _, _, rfl, by omega, by omega, fun hA => ?_, fun h0 => ?_⟩
  · by_cases hc : c = k
    · omega
    · rw [if_neg hc] at hA
      have := h4 (by simpa using hA)
      omega
  · obtain ⟨ad, rfl, hc⟩ := h3 (by omega)
    rw [if_neg (by omega)]
    refine ⟨ad.add k, rfl, fun j u hj => ?_⟩
    have h5 := hc (k + j) u (by rw [List.getElem?_drop] at hj; exact hj)
    have : (ad.add k).add j = ad.add (k + j) := by
      unfold Addr.add
      repeat' split
      all_goals first | rfl | omega | (simp; done) | (simp; omega)
    rw [this]
    exact h5

/-- 'v[i:]' as a run. -/
theorem run_cut_l {P : Program} {t e sz bytes : Nat} {z : Value} (ht : P.underlying t = some (.slice e)) (hinfo : (P.info? e).map (fun i => (i.zero, i.size, i.bytes)) = some (some z, sz, bytes)) (A X : Option Addr) (n c : Nat) (i : Int) (h0 : 0 ≤ i) (h1 : i ≤ n)
    (hX : X = if c = i.toNat then A else A.map (·.add (i.toNat * sz))) : ∀ w, (Instr.slice t (.slice A n c) (some (.int .i64 i)) none none).run P w = .ok (.slice X (n - i.toNat) (c - i.toNat)) w := by
  intro w
  obtain ⟨inf, hi, hzz⟩ := Option.map_eq_some_iff.1 hinfo
  simp only [Prod.mk.injEq] at hzz
  obtain ⟨_, hz1, _⟩ := hzz
  have hel : P.elem t = e := by simp [Program.elem, ht]
  have hu : P.underlying t = some (.slice (P.elem t)) := by rw [hel]; exact ht
  rw [run_slice_l w t A n c hu .i64 i h0 h1, hel]
  simp [sizeOf, typeInfo, hi, hz1, sliced, Result.andThen, hX]
end Go.Proofs.YtbijlkbfndkdcaaDoorSep
