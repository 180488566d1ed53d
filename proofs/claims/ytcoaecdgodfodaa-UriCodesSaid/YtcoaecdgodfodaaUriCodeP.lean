/- Own work: what is encoded is decoded: plain. -/
import Derived.Test.YtcoaecdgodfodaaUriEnc
import Derived.Test.YtcoaecdgodfodaaUriM
namespace Go.Proofs.YtcoaecdgodfodaaSep
open Go.RowKit Go.Lib Go.Proofs

theorem encB_cases (b : Bool) (c : UInt8) : (encB b c = [c] ∧ ¬ c = 37 ∧ (plainB c = true ∨ b = true ∧ c = 47)) ∨ encB b c = [37, hexD (c.toNat / 16), hexD (c.toNat % 16)] := by
  by_cases h : (plainB c || (b && decide (c = 47))) = true
  · refine .inl ⟨by rw [encB, if_pos h], ?_, by simpa using h⟩
    rintro rfl
    revert h
    cases b <;> decide
  · exact .inr (by rw [encB, if_neg h])
theorem hex_back (c : UInt8) : 0 ≤ hexF (hexD (c.toNat / 16)) ∧ 0 ≤ hexF (hexD (c.toNat % 16)) ∧ UInt8.ofNat (hexF (hexD (c.toNat / 16)) * 16 + hexF (hexD (c.toNat % 16))).toNat = c := by
  have key : ∀ a : Fin 256, 0 ≤ hexF (hexD (a.val / 16)) ∧ 0 ≤ hexF (hexD (a.val % 16)) ∧ UInt8.ofNat (hexF (hexD (a.val / 16)) * 16 + hexF (hexD (a.val % 16))).toNat = UInt8.ofNat a.val := by decide +kernel
  have := key ⟨c.toNat, c.toNat_lt⟩
  simpa using this
theorem decode_enc (b : Bool) (l t : List UInt8) : decodeF (encF b l ++ t) = (decodeF t).map (l ++ ·) := by
  induction l with
  | nil => simp [encF]
  | cons c l ih =>
    have e : encF b (c :: l) ++ t = encB b c ++ (encF b l ++ t) := by simp [encF]
    rw [e]
    rcases encB_cases b c with ⟨h1, h2, _⟩ | h1
    · rw [h1, List.singleton_append, decode_plain c _ h2, ih, Option.map_map]
      congr 1
    · obtain ⟨h2, h3, h4⟩ := hex_back c
      rw [h1]
      show decodeF (37 :: hexD (c.toNat / 16) :: hexD (c.toNat % 16) :: (encF b l ++ t)) = _
      rw [decode_two, if_pos ⟨h2, h3⟩, ih, Option.map_map, h4]
      congr 1
theorem decode_enc0 (b : Bool) (l : List UInt8) : decodeF (encF b l) = some l := by
  have := decode_enc b l []
  rw [List.append_nil, decodeF] at this
  simpa using this
def hexB (c : UInt8) : Bool := (48 ≤ c.toNat && c.toNat ≤ 57) || (65 ≤ c.toNat && c.toNat ≤ 70) || (97 ≤ c.toNat && c.toNat ≤ 102)
theorem hexB_F (c : UInt8) : hexB c = decide (0 ≤ hexF c) := by
  have key : ∀ a : Fin 256, hexB (UInt8.ofNat a.val) = decide (0 ≤ hexF (UInt8.ofNat a.val)) := by decide +kernel
  have := key ⟨c.toNat, c.toNat_lt⟩
  simpa using this
theorem decode_bad (b : Bool) (l : List UInt8) (x : UInt8) : (decodeF (encF b l ++ [37, x, 48])).isSome = hexB x := by
  rw [decode_enc, decode_two, hexB_F]
  by_cases h : 0 ≤ hexF x
  · rw [if_pos ⟨h, by decide⟩, decide_eq_true h, decodeF]
    rfl
  · rw [if_neg (fun h2 => h h2.1), decide_eq_false h]
    rfl
theorem decode_cut (b : Bool) (l : List UInt8) : decodeF (encF b l ++ [37, 52]) = none := by
  rw [decode_enc, decode_short _ (by decide)]
  rfl
def okN (b : Bool) (n : Nat) : Prop := (65 ≤ n ∧ n ≤ 90) ∨ (97 ≤ n ∧ n ≤ 122) ∨ (48 ≤ n ∧ n ≤ 57) ∨ n = 45 ∨ n = 46 ∨ n = 95 ∨ n = 126 ∨ n = 37 ∨ (b = true ∧ n = 47)
theorem hexD_ok (a : Nat) (h : a < 16) : (65 ≤ (hexD a).toNat ∧ (hexD a).toNat ≤ 90) ∨ (48 ≤ (hexD a).toNat ∧ (hexD a).toNat ≤ 57) := by
  have key : ∀ a : Fin 16, (65 ≤ (hexD a.val).toNat ∧ (hexD a.val).toNat ≤ 90) ∨ (48 ≤ (hexD a.val).toNat ∧ (hexD a.val).toNat ≤ 57) := by decide +kernel
  exact key ⟨a, h⟩
theorem enc_ok (b : Bool) (l : List UInt8) : ∀ x ∈ encF b l, okN b x.toNat := by
  intro x hx
  obtain ⟨c, _, hc⟩ := List.mem_flatMap.1 hx
  have hc256 := c.toNat_lt
  rcases encB_cases b c with ⟨h1, _, h3⟩ | h1
  · rw [h1] at hc
    obtain rfl : x = c := by simpa using hc
    rcases h3 with h3 | ⟨h3, h4⟩
    · have h4 : ∀ d : UInt8, x = d → x.toNat = d.toNat := fun d h => by rw [h]
      simp only [plainB, letterB, digitB, Bool.or_eq_true, Bool.and_eq_true, decide_eq_true_eq] at h3
      unfold okN
      rcases h3 with ((((h | h) | h) | h) | h) | h
      · omega
      · omega
      · have := h4 _ h; simp at this; omega
      · have := h4 _ h; simp at this; omega
      · have := h4 _ h; simp at this; omega
      · have := h4 _ h; simp at this; omega
    · subst h4
      exact .inr (.inr (.inr (.inr (.inr (.inr (.inr (.inr ⟨h3, rfl⟩)))))))
  · rw [h1] at hc
    simp only [List.mem_cons, List.not_mem_nil, or_false] at hc
    unfold okN
    rcases hc with rfl | rfl | rfl
    · simp
    · have := hexD_ok (c.toNat / 16) (by omega); omega
    · have := hexD_ok (c.toNat % 16) (by omega); omega
theorem encF_len (b : Bool) (l : List UInt8) : (encF b l).length ≤ 3 * l.length := by
  induction l with
  | nil => simp [encF]
  | cons c l ih =>
    have e : encF b (c :: l) = encB b c ++ encF b l := by simp [encF]
    rw [e, List.length_append, List.length_cons]
    have : (encB b c).length ≤ 3 := by
      rcases encB_cases b c with ⟨h1, _⟩ | h1 <;> rw [h1] <;> simp
    omega
end Go.Proofs.YtcoaecdgodfodaaSep
