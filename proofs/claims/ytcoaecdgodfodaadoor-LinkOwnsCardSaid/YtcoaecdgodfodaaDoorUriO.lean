/- Own work: the lengths of what the parts of a reference come to. Plain. -/
import Derived.Test.YtcoaecdgodfodaaDoorUriN
namespace Go.Proofs.YtcoaecdgodfodaaDoorSep
open Go.RowKit Go.Lib Go.Proofs

theorem dotsN_len : ∀ (f : Nat) (out inp : List UInt8), (dotsN f out inp).length ≤ out.length + inp.length := by
  intro f
  induction f with
  | zero => intro out inp; rw [dotsN]; omega
  | succ f ih =>
    intro out inp
    rw [dotsN]
    split
    · omega
    · rename_i h
      have h1 := (dotsStep_len out inp h).2
      have h2 := ih (dotsStep out inp).1 (dotsStep out inp).2
      omega
theorem dotsF_len (l : List UInt8) : (dotsF l).length ≤ l.length := by
  have := dotsN_len l.length [] l
  rw [dotsF]
  simpa using this
theorem mergeF_len (b : RefL) (p : List UInt8) : (mergeF b p).length ≤ b.path.length + p.length + 1 := by
  rw [mergeF]
  split
  · simp only [List.length_cons]; omega
  · simp only [List.length_append, List.length_take]; omega
theorem resolveF_len (b r : RefL) : (resolveF b r).path.length ≤ b.path.length + r.path.length + 1 := by
  have h1 := dotsF_len r.path
  have h2 := dotsF_len (mergeF b r.path)
  have h3 := mergeF_len b r.path
  rw [resolveF]
  repeat' split
  all_goals (simp only; omega)
def ixHtml : List UInt8 := [105, 110, 100, 101, 120, 46, 104, 116, 109, 108]
theorem trim_len (l p : List UInt8) : (Lib.trimPrefix l p).length ≤ l.length := by
  rw [Lib.trimPrefix]
  split
  · rw [List.length_drop]; omega
  · exact Nat.le_refl _
end Go.Proofs.YtcoaecdgodfodaaDoorSep
