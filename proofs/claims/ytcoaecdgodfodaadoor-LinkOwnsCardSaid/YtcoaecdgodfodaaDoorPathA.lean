/- Own work: paths as lists of bytes: a text cut at its strokes; what is a part, a path, hidden, a page; what stands ahead of the last stroke. No program in it. -/
import Derived.Test.YtcoaecdgodfodaaDoorStr
import Derived.Lib.Split
import Derived.Lib.SplitLaws
import Derived.Lib.Replace
import Derived.Lib.LastIndexByte
namespace Go.Proofs.YtcoaecdgodfodaaDoorSep
open Go.RowKit Go.Lib Go.Proofs

def partsGo (now : List UInt8) : List UInt8 → List (List UInt8)
  | [] => [now]
  | c :: t => if c = 47 then now :: partsGo [] t else partsGo (now ++ [c]) t
def splitF (l : List UInt8) : List (List UInt8) := partsGo [] l
def onto (now : List UInt8) : List (List UInt8) → List (List UInt8)
  | [] => []
  | h :: r => (now ++ h) :: r
theorem onto_nil : ∀ l : List (List UInt8), onto [] l = l
  | [] => rfl
  | _ :: _ => rfl
theorem index_cons_eq (t : List UInt8) : index (47 :: t) [47] = 0 := by
  rw [index_one]; rfl
theorem index_cons_ne (c : UInt8) (t : List UInt8) (h : c ≠ 47) (hi : ∃ i : Nat, index t [47] = i) : ∃ i : Nat, index t [47] = i ∧ index (c :: t) [47] = ((i + 1 : Nat) : Int) := by
  obtain ⟨i, hi⟩ := hi
  refine ⟨i, hi, ?_⟩
  rw [index_one] at hi ⊢
  have e : indexByte (c :: t) 47 = if indexByte t 47 == -1 then -1 else indexByte t 47 + 1 := by
    rw [indexByte]
    simp [h]
  rw [e, hi]
  rw [if_neg (by intro e; have := beq_iff_eq.1 e; omega)]
  omega
theorem splitK_parts : ∀ (s now : List UInt8), onto now (splitK [47] 0 (count s [47]) s) = partsGo now s
  | [], now => by simp [count_one, splitK, onto, partsGo]
  | c :: t, now => by
    by_cases h : c = 47
    · subst h
      rw [count_cons_eq, show 1 + count t [47] = count t [47] + 1 by omega, splitK, index_cons_eq, if_neg (by decide), partsGo, if_pos rfl]
      have := splitK_parts t []
      rw [onto_nil] at this
      simp [onto, this]
    · rw [count_cons_ne c 47 t h, partsGo, if_neg h, ← splitK_parts t (now ++ [c])]
      cases hk : count t [47] with
      | zero => simp [splitK, onto]
      | succ j =>
        obtain ⟨i, h1, h2⟩ := index_cons_ne c t h (index_of_count (by omega))
        rw [splitK, splitK, h2, h1, if_neg (by intro e; have := beq_iff_eq.1 e; omega), if_neg (by intro e; have := beq_iff_eq.1 e; omega)]
        simp only [Int.toNat_natCast, onto, List.length_cons, List.length_nil, Nat.add_zero, Nat.zero_add]
        rw [List.take_succ_cons, List.drop_succ_cons]
        simp
theorem splitF_K (s : List UInt8) : splitK [47] 0 (count s [47]) s = splitF s := by
  rw [splitF, ← splitK_parts, onto_nil]
theorem splitB_F (l : List UInt8) : splitB (str [47]) 0 (countB (str l) (str [47])) (str l) = (splitF l).map str := by
  have h := splitB_data (str [47]) 0 (countB (str l) (str [47])) (str l)
  have e : countB (str l) (str [47]) = count l [47] := rfl
  rw [e] at h ⊢
  change _ = splitK [47] 0 (count l [47]) l at h
  rw [splitF_K] at h
  have h2 := congrArg (List.map str) h
  rw [List.map_map] at h2
  rw [← h2]
  have h3 : (str ∘ fun x : ByteArray => x.data.toList) = id := by funext x; exact str_of x
  rw [h3, List.map_id]
theorem splitF_len (l : List UInt8) : (splitF l).length = countB (str l) (str [47]) + 1 := by
  have := splitB_all (str [47]) (by decide) 0 _ (str l) rfl
  rw [splitB_F, List.length_map] at this
  exact this
theorem partsGo_pos (now l : List UInt8) : 0 < (partsGo now l).length := by
  induction l generalizing now with
  | nil => simp [partsGo]
  | cons c t ih =>
    rw [partsGo]
    split
    · simp
    · exact ih _
theorem partsGo_len : ∀ (l now : List UInt8), (partsGo now l).length ≤ l.length + 1
  | [], now => by simp [partsGo]
  | c :: t, now => by
    rw [partsGo]
    split
    · simp; exact partsGo_len t []
    · have := partsGo_len t (now ++ [c]); simp; omega
theorem partsGo_each : ∀ (l now : List UInt8) (p : List UInt8), p ∈ partsGo now l → p.length ≤ now.length + l.length
  | [], now, p, h => by simp [partsGo] at h; subst h; simp
  | c :: t, now, p, h => by
    rw [partsGo] at h
    split at h
    · rcases List.mem_cons.1 h with h | h
      · subst h; omega
      · have := partsGo_each t [] p h
        simp at this ⊢; omega
    · have := partsGo_each t (now ++ [c]) p h
      simp at this ⊢; omega
def okN (x : Nat) : Bool := decide (97 ≤ x ∧ x ≤ 122) || decide (65 ≤ x ∧ x ≤ 90) || decide (48 ≤ x ∧ x ≤ 57) || decide (x = 46) || decide (x = 45) || decide (x = 95)
def okL (l : List UInt8) : Bool := l.all fun c => okN c.toNat
def partF (l : List UInt8) : Bool := !(decide (l = []) || decide (l = [46]) || decide (l = [46, 46])) && okL l
def rightF (l : List UInt8) : Bool := decide (1 ≤ l.length ∧ l.length ≤ 200) && decide ((splitF l).length ≤ 16) && (splitF l).all partF
def lowF (l : List UInt8) : Bool := hasPrefix l [95]
def hiddenF (l : List UInt8) : Bool := (splitF l).any lowF
def pageF (l : List UInt8) : Bool := rightF l && hasSuffix l [46, 104, 116, 109, 108] && !hiddenF l
/-- What stands up to the last stroke. -/
def dirF (l : List UInt8) : List UInt8 := (splitF l).dropLast.flatMap (· ++ [47])
def lastF (l : List UInt8) : List UInt8 := (splitF l).getLast?.getD []
theorem partsGo_ne (now l : List UInt8) : partsGo now l ≠ [] := fun e => by have := partsGo_pos now l; rw [e] at this; simp at this
theorem parts_join : ∀ (l now : List UInt8), ((partsGo now l).dropLast.flatMap (· ++ [47])) ++ (partsGo now l).getLast?.getD [] = now ++ l
  | [], now => by simp [partsGo]
  | c :: t, now => by
    rw [partsGo]
    split
    · rename_i h
      have := parts_join t []
      rw [List.dropLast_cons_of_ne_nil (partsGo_ne _ _), List.getLast?_cons_of_ne_nil (partsGo_ne _ _), List.flatMap_cons, List.append_assoc, this, h]
      simp
    · rw [parts_join t (now ++ [c])]; simp
theorem dir_last (l : List UInt8) : dirF l ++ lastF l = l := parts_join l []
theorem parts_none : ∀ (l now : List UInt8), (47 : UInt8) ∉ now → (47 : UInt8) ∉ (partsGo now l).getLast?.getD []
  | [], now, h => by simpa [partsGo] using h
  | c :: t, now, h => by
    rw [partsGo]
    split
    · rw [List.getLast?_cons_of_ne_nil (partsGo_ne _ _)]
      exact parts_none t [] (by simp)
    · rename_i h2
      exact parts_none t (now ++ [c]) (by simp [h]; exact fun e => h2 e.symm)
theorem last_none (l : List UInt8) : (47 : UInt8) ∉ lastF l := parts_none l [] (by simp)
theorem dir_end (l : List UInt8) : dirF l = [] ∨ ∃ d, dirF l = d ++ [47] := by
  unfold dirF
  rcases List.eq_nil_or_concat (splitF l).dropLast with h | ⟨a, b, h⟩
  · left; rw [h]; rfl
  · right
    rw [h, List.concat_eq_append, List.flatMap_append]
    exact ⟨a.flatMap (· ++ [47]) ++ b, by simp⟩
theorem last_at (l : List UInt8) : l.take (lastIndexByte (str l) 47 + 1).toNat = dirF l ∧ (lastIndexByte (str l) 47 + 1).toNat = (dirF l).length ∧ lastIndexByte (str l) 47 + 1 = ((dirF l).length : Int) := by
  have hj := dir_last l
  have hn := last_none l
  have hsz : (str l).size = l.length := str_size l
  have hk : lastIndexByte (str l) 47 + 1 = ((dirF l).length : Int) := by
    rcases dir_end l with he | ⟨d, he⟩
    · rw [he, List.nil_append] at hj
      rw [hj] at hn
      rw [he]
      rcases lastIdx_spec (str l) 47 (str l).size with ⟨h, _⟩ | ⟨i, hi, h1, h2, _⟩
      · rw [lastIndexByte, h]; rfl
      · exfalso
        apply hn
        rw [hsz] at hi
        have h3 : (str l).data[i]! = l[i] := by simp [str, getElem!_pos, hi]
        rw [h3] at h2
        have h4 : l[i] = 47 := UInt8.toNat_inj.1 (by simpa using (by omega : (l[i]).toNat = 47))
        rw [← h4]; exact List.getElem_mem hi
    · rw [he] at hj
      rw [he, List.length_append, List.length_singleton]
      have hl : l.length = d.length + 1 + (lastF l).length := by have := congrArg List.length hj; simp at this; omega
      have at_d : l[d.length]? = some 47 := by generalize lastF l = x at hj; rw [← hj]; simp
      have behind : ∀ j, d.length < j → (hj2 : j < l.length) → l[j] ≠ 47 := by
        intro j h1 h2 h3
        have : l[j]? = (lastF l)[j - (d.length + 1)]? := by
          generalize lastF l = x at hj
          rw [← hj, List.getElem?_append_right (by simp; omega)]
          simp
        rw [List.getElem?_eq_getElem h2, h3] at this
        exact hn (List.mem_of_getElem? this.symm)
      rcases lastIdx_spec (str l) 47 (str l).size with ⟨_, h⟩ | ⟨i, hi, h1, h2, h5⟩
      · exfalso
        have h6 : d.length < l.length := by omega
        have := h d.length (by rw [hsz]; exact h6)
        rw [List.getElem?_eq_getElem h6] at at_d
        have h3 : (str l).data[d.length]! = l[d.length] := by simp [str, getElem!_pos, h6]
        rw [h3, Option.some.inj at_d] at this
        exact this rfl
      · rw [hsz] at hi h5
        have h3 : (str l).data[i]! = l[i] := by simp [str, getElem!_pos, hi]
        rw [h3] at h2
        have h4 : l[i] = 47 := UInt8.toNat_inj.1 (by simpa using (by omega : (l[i]).toNat = 47))
        rw [lastIndexByte, h1]
        rcases Nat.lt_trichotomy i d.length with h | h | h
        · exfalso
          have h6 : d.length < l.length := by omega
          have := h5 d.length h h6
          rw [List.getElem?_eq_getElem h6] at at_d
          have h3 : (str l).data[d.length]! = l[d.length] := by simp [str, getElem!_pos, h6]
          rw [h3, Option.some.inj at_d] at this
          exact this rfl
        · rw [h]; omega
        · exact absurd h4 (behind i h hi)
  refine ⟨?_, ?_, hk⟩
  · rw [hk, Int.toNat_natCast]
    generalize dirF l = d at hj ⊢
    rw [← hj, List.take_left]
  · rw [hk, Int.toNat_natCast]
end Go.Proofs.YtcoaecdgodfodaaDoorSep
