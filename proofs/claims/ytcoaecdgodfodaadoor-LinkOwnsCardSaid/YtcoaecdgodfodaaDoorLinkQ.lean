/- Own work: what a published link is, read again: plain. -/
import Derived.Test.YtcoaecdgodfodaaDoorLinkP
import Derived.Test.YtcoaecdgodfodaaDoorUriText
import Derived.Test.YtcoaecdgodfodaaDoorMetaC
namespace Go.Proofs.YtcoaecdgodfodaaDoorSep
open Go.RowKit Go.Lib Go.Proofs
theorem cutAt_fst_none (x : UInt8) (l : List UInt8) : x ∉ (cutAt x l).1 := by
  induction l with
  | nil => simp [cutAt]
  | cons c t ih =>
    rw [cutAt]
    split
    · simp
    · rename_i h
      simp only [List.mem_cons, not_or]
      exact ⟨fun e => h e.symm, ih⟩
theorem cutAt_snd_sub (x : UInt8) (l : List UInt8) : ∀ y ∈ (cutAt x l).2.1, y ∈ l := by
  induction l with
  | nil => simp [cutAt]
  | cons c t ih =>
    intro y hy
    rw [cutAt] at hy
    split at hy
    · exact List.mem_cons_of_mem _ hy
    · exact List.mem_cons_of_mem _ (ih y hy)
theorem cutAt_miss_nil (x : UInt8) (l : List UInt8) (h : (cutAt x l).2.2 = false) : (cutAt x l).2.1 = [] := by
  induction l with
  | nil => rfl
  | cons c t ih =>
    rw [cutAt] at h ⊢
    split
    · rename_i hc; rw [if_pos hc] at h; simp at h
    · rename_i hc; rw [if_neg hc] at h; exact ih h
theorem parse3_q (q f sc : List UInt8 × Bool) (l : List UInt8) : (parse3 q f sc l).query = q.1 ∧ (parse3 q f sc l).hq = q.2 := by
  rw [parse3]
  split <;> exact ⟨rfl, rfl⟩
theorem parse_query (l : List UInt8) : (35 : UInt8) ∉ (parseF l).query ∧ ((parseF l).hq = false → (parseF l).query = []) := by
  have h : (parseF l).query = (cutAt 63 (cutAt 35 l).1).2.1 ∧ (parseF l).hq = (cutAt 63 (cutAt 35 l).1).2.2 := by
    rw [parseF, parse2]
    split <;> exact parse3_q _ _ _ _
  rw [h.1, h.2]
  exact ⟨fun hm => cutAt_fst_none 35 l (cutAt_snd_sub 63 _ 35 hm), cutAt_miss_nil 63 _⟩
/-- A published link. -/
def toR (f p : List UInt8) (r : RefL) : RefL := ⟨[], [], 47 :: encF true f, r.query, if p = [] then [] else encF false p, false, false, r.hq, !decide (p = [])⟩
theorem parse_to {f : List UInt8} (hf : rightF f = true) (q g : List UInt8) (hq hg : Bool) (h35 : (35 : UInt8) ∉ q) (h0 : hq = false → q = []) (h1 : hg = false → g = []) :
    parseF (textF ⟨[], [], 47 :: f, q, g, false, false, hq, hg⟩) = ⟨[], [], 47 :: f, q, g, false, false, hq, hg⟩ := by
  have f35 : (35 : UInt8) ∉ 47 :: f := by
    have := right_not hf 35 (by decide) (by decide)
    simp [this]
  have f63 : (63 : UInt8) ∉ 47 :: f := by
    have := right_not hf 63 (by decide) (by decide)
    simp [this]
  have hs : schemeF (47 :: f) = none := by rw [schemeF, if_neg (by decide)]
  have hp : ¬ Lib.hasPrefix (47 :: f) [47, 47] = true := by
    rw [Lib.hasPrefix, List.isPrefixOf_iff_prefix, List.cons_prefix_cons]
    rintro ⟨_, t, ht⟩
    exact right_head hf t ht.symm
  have ht : textF ⟨[], [], 47 :: f, q, g, false, false, hq, hg⟩ = ((47 :: f) ++ (if hq then 63 :: q else [])) ++ (if hg then 35 :: g else []) := by
    simp [textF]
  have a35 : (35 : UInt8) ∉ (47 :: f) ++ (if hq then 63 :: q else []) := by
    rw [List.mem_append, not_or]
    refine ⟨f35, ?_⟩
    cases hq <;> simp [h35]
  have c35 : cutAt 35 (textF ⟨[], [], 47 :: f, q, g, false, false, hq, hg⟩) = ((47 :: f) ++ (if hq then 63 :: q else []), g, hg) := by
    rw [ht]
    cases hg
    · rw [h1 rfl]
      simp only [Bool.false_eq_true, if_false, List.append_nil]
      exact cutAt_none _ _ a35
    · exact cutAt_mid _ _ _ a35
  have c63 : cutAt 63 ((47 :: f) ++ (if hq then 63 :: q else [])) = (47 :: f, q, hq) := by
    cases hq
    · rw [h0 rfl]
      simp only [Bool.false_eq_true, if_false, List.append_nil]
      exact cutAt_none _ _ f63
    · exact cutAt_mid _ _ _ f63
  rw [parseF, c35]
  simp only
  rw [c63]
  simp only
  rw [parse2, hs]
  simp only
  rw [parse3, if_neg hp]
theorem toR_eq {f : List UInt8} (hf : rightF f = true) (p : List UInt8) (r : RefL) : toR f p r = ⟨[], [], 47 :: f, r.query, if p = [] then [] else encF false p, false, false, r.hq, !decide (p = [])⟩ := by
  rw [toR, enc_right (right_bytes hf)]
theorem parse_again {f : List UInt8} (hf : rightF f = true) (p v : List UInt8) : parseF (textF (toR f p (parseF v))) = toR f p (parseF v) := by
  rw [toR_eq hf]
  obtain ⟨h1, h2⟩ := parse_query v
  refine parse_to hf _ _ _ _ h1 h2 ?_
  intro h
  by_cases hp : p = []
  · rw [if_pos hp]
  · rw [decide_eq_false hp] at h; cases h
theorem target_again {f : List UInt8} (hf : rightF f = true) (p : List UInt8) (r : RefL) (l : List UInt8) : targetF l (toR f p r) = (f, p, 0) := by
  rw [toR_eq hf, targetF, if_neg (by simp), resolveF, if_neg (by simp), if_neg (by simp), if_neg (by simp), if_pos (by simp), right_dots hf, trim_hit, decode_all f (right_not hf 37 (by decide) (by decide))]
  simp only
  have : decodeF (if p = [] then [] else encF false p) = some p := by
    by_cases hp : p = []
    · rw [if_pos hp, hp, decodeF]
    · rw [if_neg hp, decode_enc0]
  rw [this]
  simp only
  rw [right_file hf]
/-- What link.Own hands back. -/
structure OwnM where
  s : List UInt8
  f : List UInt8
  p : List UInt8
  b : Bool
  e : Int
def ownF (l v : List UInt8) : OwnM :=
  if (parseF v).hs || (parseF v).ha then ⟨v, [], [], false, 0⟩
  else if (targetF l (parseF v)).2.2 = 0 ∧ rightF (targetF l (parseF v)).1 = true then ⟨textF (toR (targetF l (parseF v)).1 (targetF l (parseF v)).2.1 (parseF v)), (targetF l (parseF v)).1, (targetF l (parseF v)).2.1, true, 0⟩
  else ⟨[], [], [], true, 23⟩
theorem own_again {f : List UInt8} (hf : rightF f = true) (p v l : List UInt8) : ownF l (textF (toR f p (parseF v))) = ⟨textF (toR f p (parseF v)), f, p, true, 0⟩ := by
  have h1 := parse_again hf p v
  have h2 := target_again hf p (parseF v) l
  have h3 : toR f p (toR f p (parseF v)) = toR f p (parseF v) := rfl
  rw [ownF, h1, if_neg (by simp [toR]), h2]
  simp only
  rw [if_pos (by simp [hf]), h3]
end Go.Proofs.YtcoaecdgodfodaaDoorSep
