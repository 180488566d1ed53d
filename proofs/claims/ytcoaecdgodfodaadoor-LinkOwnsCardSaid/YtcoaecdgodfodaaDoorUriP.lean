/- Own work: the file and the place to which a reference leads: plain, and the law's head. -/
import Derived.Test.YtcoaecdgodfodaaDoorUriO
import Derived.Test.YtcoaecdgodfodaaDoorUriL
namespace Go.Proofs.YtcoaecdgodfodaaDoorSep
open Go.RowKit Go.Lib Go.Proofs

theorem decodeF_len : ∀ (n : Nat) (l p : List UInt8), l.length ≤ n → decodeF l = some p → p.length ≤ l.length := by
  intro n
  induction n with
  | zero =>
    intro l p hn h
    obtain rfl : l = [] := List.eq_nil_of_length_eq_zero (by omega)
    rw [decodeF] at h
    injection h with h
    subst h
    simp
  | succ n ih =>
    intro l p hn h
    cases l with
    | nil =>
      rw [decodeF] at h
      injection h with h
      subst h
      simp
    | cons c t =>
      rw [List.length_cons] at hn
      rw [decodeF] at h
      split at h
      · split at h
        · split at h
          · obtain ⟨x, hx, rfl⟩ := Option.map_eq_some_iff.1 h
            have := ih _ _ (by rw [List.length_drop]; omega) hx
            rw [List.length_drop] at this
            simp only [List.length_cons]
            omega
          · cases h
        · cases h
      · obtain ⟨x, hx, rfl⟩ := Option.map_eq_some_iff.1 h
        have := ih _ _ (by omega) hx
        simp only [List.length_cons]
        omega
def fileF (p : List UInt8) : List UInt8 := if p = [] ∨ Lib.hasSuffix p [47] = true then p ++ ixHtml else p
def targetF (l : List UInt8) (r : RefL) : List UInt8 × List UInt8 × Int :=
  if r.hs || r.ha then ([], [], 1) else
  match decodeF (Lib.trimPrefix (resolveF ⟨[], [], 47 :: l, [], [], false, false, false, false⟩ r).path [47]) with
  | none => ([], [], 2)
  | some p => match decodeF r.frag with
    | none => ([], [], 2)
    | some f => (fileF p, f, 0)
theorem head15_r : parseF [46, 46, 47, 103, 35, 115] = ⟨[], [], [46, 46, 47, 103], [], [115], false, false, false, true⟩ := by
  rw [parseF, show cutAt 35 [46, 46, 47, 103, 35, 115] = ([46, 46, 47, 103], [115], true) by decide +kernel]
  simp only
  rw [show cutAt 63 [46, 46, 47, 103] = ([46, 46, 47, 103], [], false) by decide +kernel]
  simp only
  rw [parse2, show schemeF [46, 46, 47, 103] = none by decide +kernel]
  simp only
  rw [parse3, if_neg (by decide +kernel)]
theorem head15_p : (resolveF ⟨[], [], 47 :: [98, 47, 99, 47, 100, 46, 104, 116, 109, 108], [], [], false, false, false, false⟩ ⟨[], [], [46, 46, 47, 103], [], [115], false, false, false, true⟩).path = [47, 98, 47, 103] := by decide +kernel
theorem decode_b : decodeF [98, 47, 103] = some [98, 47, 103] := by
  rw [decodeF, if_neg (by decide), decodeF, if_neg (by decide), decodeF, if_neg (by decide), decodeF]
  rfl
theorem decode_s : decodeF [115] = some [115] := by
  rw [decodeF, if_neg (by decide), decodeF]
  rfl
theorem head15 : targetF [98, 47, 99, 47, 100, 46, 104, 116, 109, 108] (parseF [46, 46, 47, 103, 35, 115]) = ([98, 47, 103], [115], 0) := by
  rw [head15_r, targetF, head15_p, show Lib.trimPrefix [47, 98, 47, 103] [47] = [98, 47, 103] by decide +kernel, decode_b]
  simp only [decode_s, Bool.or_false, Bool.false_eq_true, if_false]
  rw [fileF, if_neg (by decide +kernel)]
end Go.Proofs.YtcoaecdgodfodaaDoorSep
