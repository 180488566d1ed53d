/- Own work: texts as lists of bytes. No program in it. -/
import Derived.Test.YtbijlkbfndkdcaaDoorBytes
import Derived.Lib.Bytealg
import Derived.Lib.Strings
namespace Go.Proofs.YtbijlkbfndkdcaaDoorSep
open Go.RowKit Go.Lib Go.Proofs

theorem s_drop (s : ByteArray) (k : Nat) (h : k < s.size) : s.data.toList.drop k = s[k] :: s.data.toList.drop (k + 1) := by
  rw [List.drop_eq_getElem_cons (by rw [data_length]; exact h)]
  rfl
theorem s_end (s : ByteArray) : s.data.toList.drop s.size = [] := by rw [← data_length, List.drop_length]
theorem str_of (s : ByteArray) : str s.data.toList = s := by cases s; rfl
theorem byte_eq (a b : UInt8) : (((a.toNat : Nat) : Int) == ((b.toNat : Nat) : Int)) = decide (a = b) := by
  by_cases h : a = b
  · subst h; simp
  · have h2 : ¬ a.toNat = b.toNat := fun e => h (UInt8.toNat_inj.1 e)
    have h3 : ¬ ((a.toNat : Nat) : Int) = ((b.toNat : Nat) : Int) := fun e => h2 (by omega)
    rw [decide_eq_false h]
    exact beq_eq_false_iff_ne.2 h3
/-- Where a byte first stands; -1: nowhere. -/
def atGo (c : UInt8) : Nat → List UInt8 → Int
  | _, [] => -1
  | k, x :: t => if x = c then k else atGo c (k + 1) t
def atF (c : UInt8) (l : List UInt8) : Int := atGo c 0 l
theorem atGo_hit (c : UInt8) (s : ByteArray) (k : Nat) (h : k < s.size) (he : s[k] = c) : atGo c k (s.data.toList.drop k) = k := by rw [s_drop s k h, atGo, if_pos he]
theorem atGo_miss (c : UInt8) (s : ByteArray) (k : Nat) (h : k < s.size) (he : ¬ s[k] = c) : atGo c k (s.data.toList.drop k) = atGo c (k + 1) (s.data.toList.drop (k + 1)) := by rw [s_drop s k h, atGo, if_neg he]
/-- A text cut at a byte. -/
def cutAt (c : UInt8) : List UInt8 → List UInt8 × List UInt8 × Bool
  | [] => ([], [], false)
  | x :: t => if x = c then ([], t, true) else (x :: (cutAt c t).1, (cutAt c t).2)
def letterB (c : UInt8) : Bool := (97 ≤ c.toNat && c.toNat ≤ 122) || (65 ≤ c.toNat && c.toNat ≤ 90)
def digitB (c : UInt8) : Bool := 48 ≤ c.toNat && c.toNat ≤ 57
def schemeT : List UInt8 → Option (List UInt8 × List UInt8)
  | [] => none
  | c :: t => if c = 58 then some ([], t) else if letterB c || digitB c || c = 43 || c = 45 || c = 46 then (schemeT t).map fun r => (c :: r.1, r.2) else none
def schemeF : List UInt8 → Option (List UInt8 × List UInt8)
  | [] => none
  | c :: t => if letterB c then (schemeT t).map fun r => (c :: r.1, r.2) else none
theorem ext_list (s : ByteArray) (i j : Nat) : (s.extract i j).data.toList = (s.data.toList.drop i).take (j - i) := by
  rw [ByteArray.data_extract, Array.toList_extract, List.extract_eq_take_drop]
theorem ext_take (s : ByteArray) (k : Nat) : s.extract 0 k = str (s.data.toList.take k) := by
  rw [← str_of (s.extract 0 k), ext_list, List.drop_zero, Nat.sub_zero]
theorem ext_drop (s : ByteArray) (k : Nat) : s.extract k s.size = str (s.data.toList.drop k) := by
  rw [← str_of (s.extract k s.size), ext_list, List.take_of_length_le (by rw [List.length_drop, data_length]; omega)]
theorem ext_mid (s : ByteArray) (i j : Nat) : s.extract i j = str ((s.data.toList.drop i).take (j - i)) := by
  rw [← str_of (s.extract i j), ext_list]
def contB (c : UInt8) : Bool := letterB c || digitB c || c = 43 || c = 45 || c = 46
/-- What a walk has found when it stands at k: what has come is put ahead of what comes. -/
def schemeAt (l : List UInt8) (k : Nat) : Option (List UInt8 × List UInt8) := if k = 0 then schemeF l else (schemeT (l.drop k)).map fun r => (l.take k ++ r.1, r.2)
theorem schemeT_at (s : ByteArray) (k : Nat) (h : k < s.size) : schemeT (s.data.toList.drop k) = if s[k] = 58 then some ([], s.data.toList.drop (k + 1)) else if contB s[k] then (schemeT (s.data.toList.drop (k + 1))).map fun r => (s[k] :: r.1, r.2) else none := by
  rw [s_drop s k h, schemeT]
  rfl
theorem schemeF_at (s : ByteArray) (h : 0 < s.size) : schemeF s.data.toList = if letterB s[0] then (schemeT (s.data.toList.drop 1)).map fun r => (s[0] :: r.1, r.2) else none := by
  have := s_drop s 0 h
  rw [List.drop_zero] at this
  rw [this, schemeF]
  rfl
theorem take_at (s : ByteArray) (k : Nat) (h : k < s.size) : s.data.toList.take (k + 1) = s.data.toList.take k ++ [s[k]] := by
  rw [List.take_add_one, List.getElem?_eq_getElem (by rw [data_length]; exact h)]
  rfl
theorem schemeAt_hit (s : ByteArray) (k : Nat) (h : k < s.size) (h58 : s[k] = 58) : schemeAt s.data.toList k = if k = 0 then none else some (s.data.toList.take k, s.data.toList.drop (k + 1)) := by
  unfold schemeAt
  by_cases h0 : k = 0
  · subst h0
    rw [if_pos rfl, if_pos rfl, schemeF_at s h, h58]
    rfl
  · rw [if_neg h0, if_neg h0, schemeT_at s k h, if_pos h58]
    simp
theorem schemeAt_go (s : ByteArray) (k : Nat) (h : k < s.size) (h58 : ¬ s[k] = 58) (hgo : letterB s[k] = true ∨ 0 < k ∧ contB s[k] = true) : schemeAt s.data.toList k = schemeAt s.data.toList (k + 1) := by
  have hc : contB s[k] = true := by
    rcases hgo with h | h
    · simp [contB, h]
    · exact h.2
  unfold schemeAt
  rw [if_neg (by omega : ¬ k + 1 = 0), take_at s k h]
  by_cases h0 : k = 0
  · subst h0
    have hl : letterB s[0] = true := by
      rcases hgo with h | h
      · exact h
      · omega
    rw [if_pos rfl, schemeF_at s h, if_pos hl]
    simp
  · rw [if_neg h0, schemeT_at s k h, if_neg h58, if_pos hc, Option.map_map]
    congr 1
    funext r
    simp
theorem schemeAt_stop (s : ByteArray) (k : Nat) (h : k < s.size) (h58 : ¬ s[k] = 58) (hl : letterB s[k] = false) (hno : k = 0 ∨ contB s[k] = false) : schemeAt s.data.toList k = none := by
  unfold schemeAt
  by_cases h0 : k = 0
  · subst h0
    rw [if_pos rfl, schemeF_at s h, hl]
    rfl
  · have hc : contB s[k] = false := by
      rcases hno with h | h
      · exact absurd h h0
      · exact h
    rw [if_neg h0, schemeT_at s k h, if_neg h58, hc]
    rfl
theorem schemeAt_end (s : ByteArray) : schemeAt s.data.toList s.size = none := by
  unfold schemeAt
  split
  · rename_i h
    have : s.data.toList = [] := List.eq_nil_of_length_eq_zero (by rw [data_length]; exact h)
    rw [this]
    rfl
  · rw [s_end]
    rfl
theorem index_cut (c : UInt8) : ∀ l : List UInt8, (Lib.indexByte l c = -1 ∧ cutAt c l = (l, [], false)) ∨ ∃ i : Nat, Lib.indexByte l c = i ∧ i < l.length ∧ cutAt c l = (l.take i, l.drop (i + 1), true) := by
  intro l
  induction l with
  | nil => exact .inl ⟨rfl, rfl⟩
  | cons b l ih =>
    rw [Lib.indexByte, cutAt]
    by_cases h : b = c
    · rw [if_pos h, if_pos (by simpa using h)]
      exact .inr ⟨0, rfl, by simp, by simp⟩
    · rw [if_neg h, if_neg (by simpa using h)]
      rcases ih with ⟨h1, h2⟩ | ⟨i, h1, h2, h3⟩
      · rw [h1, h2]
        exact .inl ⟨by simp, rfl⟩
      · rw [h1, h3, if_neg (by simp <;> omega)]
        exact .inr ⟨i + 1, by omega, by rw [List.length_cons]; omega, by simp⟩
def before (c : UInt8) (l : List UInt8) : List UInt8 := (cutAt c l).1
theorem index_before (c : UInt8) (l : List UInt8) : (Lib.indexByte l c = -1 ∧ before c l = l) ∨ (Lib.indexByte l c = ((before c l).length : Int) ∧ (before c l).length < l.length ∧ before c l = l.take (before c l).length) := by
  rcases index_cut c l with ⟨h1, h2⟩ | ⟨i, h1, h2, h3⟩
  · exact .inl ⟨h1, by rw [before, h2]⟩
  · have hb : before c l = l.take i := by rw [before, h3]
    have hl : (before c l).length = i := by rw [hb, List.length_take]; omega
    exact .inr ⟨by rw [hl, h1], by omega, by rw [hl, hb]⟩
theorem cutAt_len (c : UInt8) (l : List UInt8) : (cutAt c l).1.length ≤ l.length ∧ (cutAt c l).2.1.length ≤ l.length := by
  rcases index_cut c l with ⟨_, h⟩ | ⟨i, _, _, h⟩
  · rw [h]; simp
  · rw [h]; simp only [List.length_take, List.length_drop]; omega
theorem schemeT_len : ∀ (l : List UInt8) r, schemeT l = some r → r.2.length ≤ l.length := by
  intro l
  induction l with
  | nil => intro r h; cases h
  | cons c t ih =>
    intro r h
    rw [schemeT] at h
    split at h
    · injection h with h; subst h; simp
    · split at h
      · obtain ⟨x, hx, rfl⟩ := Option.map_eq_some_iff.1 h
        have := ih x hx
        simp only [List.length_cons]
        omega
      · cases h
theorem schemeF_len (l : List UInt8) (r) (h : schemeF l = some r) : r.2.length ≤ l.length := by
  cases l with
  | nil => cases h
  | cons c t =>
    rw [schemeF] at h
    split at h
    · obtain ⟨x, hx, rfl⟩ := Option.map_eq_some_iff.1 h
      have := schemeT_len t x hx
      simp only [List.length_cons]
      omega
    · cases h
end Go.Proofs.YtbijlkbfndkdcaaDoorSep
