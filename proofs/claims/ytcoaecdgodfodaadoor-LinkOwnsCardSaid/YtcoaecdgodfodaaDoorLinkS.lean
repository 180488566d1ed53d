/- Own work: the lengths of what a published link comes to; what Own hands back. Plain. -/
import Derived.Test.YtcoaecdgodfodaaDoorLinkQ
import Derived.Test.YtcoaecdgodfodaaDoorUriQ
import Derived.Test.YtcoaecdgodfodaaDoorUriM
namespace Go.Proofs.YtcoaecdgodfodaaDoorSep
open Go.RowKit Go.Lib Go.Proofs
theorem decodeOk : DecodeOk := fun _ _ _ H s hs => uri_Decode H s hs
theorem cutAt_lens (x : UInt8) (l : List UInt8) : (cutAt x l).1.length ≤ l.length ∧ (cutAt x l).2.1.length ≤ l.length := by
  induction l with
  | nil => simp [cutAt]
  | cons c t ih =>
    rw [cutAt]
    split
    · simp
    · simp only [List.length_cons]; omega
theorem parse_queryLen (l : List UInt8) : (parseF l).query.length ≤ l.length := by
  have h : (parseF l).query = (cutAt 63 (cutAt 35 l).1).2.1 := by
    rw [parseF, parse2]
    split <;> exact (parse3_q _ _ _ _).1
  have h1 := cutAt_lens 35 l
  have h2 := cutAt_lens 63 (cutAt 35 l).1
  rw [h]
  omega
theorem fileF_len (p : List UInt8) : (fileF p).length ≤ p.length + 10 := by
  rw [fileF]
  split
  · rw [List.length_append]; exact Nat.le_refl _
  · omega
theorem target_len (l : List UInt8) (r : RefL) : (targetF l r).1.length ≤ l.length + r.path.length + 12 ∧ (targetF l r).2.1.length ≤ r.frag.length := by
  have h1 := resolveF_len ⟨[], [], 47 :: l, [], [], false, false, false, false⟩ r
  have h2 := trim_len (resolveF ⟨[], [], 47 :: l, [], [], false, false, false, false⟩ r).path [47]
  rw [List.length_cons] at h1
  rw [targetF]
  split
  · simp
  · split
    · simp
    · rename_i p hp
      have h3 := decodeF_len _ _ p (Nat.le_refl _) hp
      have h4 := fileF_len p
      split
      · simp
      · rename_i f hf
        have h5 := decodeF_len _ _ f (Nat.le_refl _) hf
        simp only
        omega
def goalV (f p : List UInt8) : Value := .agg #[.string (str f), .string (str p)]
def ownT (o : OwnM) : Array Value := #[.string (str o.s), goalV o.f o.p, .bool o.b, .int .i64 o.e]
/-- The place's text. -/
def fragF (p : List UInt8) : List UInt8 := if p = [] then [] else encF false p
theorem ownF_out (l v : List UInt8) (h : ((parseF v).hs || (parseF v).ha) = true) : ownF l v = ⟨v, [], [], false, 0⟩ := by rw [ownF, if_pos h]
theorem ownF_bad (l v : List UInt8) (h : ((parseF v).hs || (parseF v).ha) = false) (h2 : ¬ ((targetF l (parseF v)).2.2 = 0 ∧ rightF (targetF l (parseF v)).1 = true)) : ownF l v = ⟨[], [], [], true, 23⟩ := by
  rw [ownF, if_neg (by rw [h]; simp), if_neg h2]
theorem ownF_in (l v : List UInt8) (h : ((parseF v).hs || (parseF v).ha) = false) (f p : List UInt8) (h2 : targetF l (parseF v) = (f, p, 0)) (h3 : rightF f = true) : ownF l v = ⟨textF (toR f p (parseF v)), f, p, true, 0⟩ := by
  rw [ownF, if_neg (by rw [h]; simp), h2, if_pos ⟨rfl, h3⟩]
theorem toR_len {f p : List UInt8} {r : RefL} (hf : f.length ≤ 200) : refLen (toR f p r) ≤ 601 + r.query.length + 3 * p.length := by
  have h1 := encF_len true f
  have h2 := encF_len false p
  rw [toR, refLen]
  simp only [List.length_cons, List.length_nil]
  split
  · simp only [List.length_nil]; omega
  · omega
theorem textF_len (r : RefL) : (textF r).length ≤ refLen r + 5 := by
  rw [textF, refLen]
  simp only [List.length_append]
  split <;> split <;> split <;> split <;> simp <;> omega
end Go.Proofs.YtcoaecdgodfodaaDoorSep
