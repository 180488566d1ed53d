/- Own work: plain laws of references: lengths, a stroke ahead. -/
import Derived.Test.YtcoaecdgodfodaaDoorUriP
namespace Go.Proofs.YtcoaecdgodfodaaDoorSep
open Go.RowKit Go.Lib Go.Proofs

theorem parse3_len (q f sc : List UInt8 × Bool) (l : List UInt8) : (parse3 q f sc l).path.length ≤ l.length ∧ (parse3 q f sc l).frag = f.1 := by
  rw [parse3]
  split
  · refine ⟨?_, rfl⟩
    simp only [List.length_drop]; omega
  · exact ⟨Nat.le_refl _, rfl⟩
theorem parseF_len (l : List UInt8) : (parseF l).path.length ≤ l.length ∧ (parseF l).frag.length ≤ l.length := by
  have h1 := cutAt_len 35 l
  have h2 := cutAt_len 63 (cutAt 35 l).1
  rw [parseF, parse2]
  split
  · rename_i r hr
    have h3 := schemeF_len _ _ hr
    have h4 := parse3_len (cutAt 63 (cutAt 35 l).1).2 (cutAt 35 l).2 (r.1, true) r.2
    rw [h4.2]
    omega
  · have h4 := parse3_len (cutAt 63 (cutAt 35 l).1).2 (cutAt 35 l).2 ([], false) (cutAt 63 (cutAt 35 l).1).1
    rw [h4.2]
    omega
theorem trim_hit (t : List UInt8) : Lib.trimPrefix (47 :: t) [47] = t := by
  rw [Lib.trimPrefix, if_pos (by simp [Lib.hasPrefix])]
  rfl
theorem trim_miss (c : UInt8) (t : List UInt8) (h : ¬ c = 47) : Lib.trimPrefix (c :: t) [47] = c :: t := by
  rw [Lib.trimPrefix, if_neg (by simp [Lib.hasPrefix]; exact fun e => h e.symm)]
end Go.Proofs.YtcoaecdgodfodaaDoorSep
