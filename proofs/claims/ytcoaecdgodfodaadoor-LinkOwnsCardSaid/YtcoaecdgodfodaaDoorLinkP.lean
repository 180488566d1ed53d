/- Own work: a link as it is published leads to the same again: plain. -/
import Derived.Test.YtcoaecdgodfodaaDoorMetaB
import Derived.Test.YtcoaecdgodfodaaDoorUriEnc
import Derived.Test.YtcoaecdgodfodaaDoorUriO
namespace Go.Proofs.YtcoaecdgodfodaaDoorSep
open Go.RowKit Go.Lib Go.Proofs

def jl (ps : List (List UInt8)) : List UInt8 := ps.flatMap (fun x => 47 :: x)
def noS (ps : List (List UInt8)) : Prop := ∀ x ∈ ps, 47 ∉ x
theorem jl_nil : jl [] = [] := rfl
theorem jl_cons (x : List UInt8) (ps : List (List UInt8)) : jl (x :: ps) = 47 :: (x ++ jl ps) := by simp [jl]
theorem jl_snoc (ps : List (List UInt8)) (x : List UInt8) : jl (ps ++ [x]) = jl ps ++ (47 :: x) := by simp [jl]
theorem jl_head (ps : List (List UInt8)) : jl ps = [] ∨ ∃ t, jl ps = 47 :: t := by
  cases ps with
  | nil => exact .inl rfl
  | cons x ps => exact .inr ⟨_, jl_cons x ps⟩
theorem jl_empty (ps : List (List UInt8)) : jl ps = [] ↔ ps = [] := by
  cases ps with
  | nil => simp [jl]
  | cons x ps => simp [jl_cons]
theorem pre_part (r : List UInt8) (hr : r = [] ∨ ∃ t, r = 47 :: t) : ∀ (p x : List UInt8), 47 ∉ p → 47 ∉ x → (p ++ [47]) <+: (x ++ r) → x = p ∧ r ≠ [] := by
  intro p
  induction p with
  | nil =>
    intro x _ hx h
    cases x with
    | nil =>
      refine ⟨rfl, ?_⟩
      rintro rfl
      simp at h
    | cons a x =>
      simp at h
      exact absurd h (fun e => hx (by rw [← e]; simp))
  | cons a p ih =>
    intro x hp hx h
    cases x with
    | nil =>
      rcases hr with rfl | ⟨t, rfl⟩
      · simp at h
      · simp at h
        exact absurd h.1 (fun e => hp (by rw [e]; simp))
    | cons b x =>
      simp only [List.cons_append, List.cons_prefix_cons] at h
      obtain ⟨h1, h2⟩ := ih x (fun e => hp (by simp [e])) (fun e => hx (by simp [e])) h.2
      exact ⟨by rw [h1, h.1], h2⟩
theorem eq_part (r : List UInt8) (hr : r = [] ∨ ∃ t, r = 47 :: t) (p x : List UInt8) (hp : 47 ∉ p) (h : x ++ r = p) : x = p ∧ r = [] := by
  rcases hr with rfl | ⟨t, rfl⟩
  · simpa using h
  · exact absurd (by rw [← h]; simp) hp
theorem before_part (r : List UInt8) (hr : r = [] ∨ ∃ t, r = 47 :: t) (x : List UInt8) (hx : 47 ∉ x) : before 47 (x ++ r) = x := by
  induction x with
  | nil =>
    rcases hr with rfl | ⟨t, rfl⟩
    · rfl
    · rfl
  | cons a x ih =>
    have h1 : ¬ a = 47 := fun e => hx (by simp [e])
    have h2 := ih (fun e => hx (by simp [e]))
    rw [before] at h2 ⊢
    rw [List.cons_append, cutAt, if_neg h1, h2]
theorem pre_false (r : List UInt8) (a : UInt8) (p : List UInt8) (h : ¬ a = 47) : Lib.hasPrefix (47 :: r) (a :: p) = false := by
  rw [Lib.hasPrefix, List.isPrefixOf_cons_cons, beq_false_of_ne h, Bool.false_and]
theorem step_part (O x : List UInt8) (r : List UInt8) (hr : r = [] ∨ ∃ t, r = 47 :: t) (hx : 47 ∉ x) :
    dotsStep O (47 :: (x ++ r)) = if x = [46] then (O, if r = [] then [47] else r) else if x = [46, 46] then (upF O, if r = [] then [47] else r) else (O ++ 47 :: x, r) := by
  rw [dotsStep, pre_false _ _ _ (by decide), pre_false _ _ _ (by decide)]
  simp only [Bool.false_eq_true, if_false]
  have hp : ∀ p : List UInt8, 47 ∉ p → (Lib.hasPrefix (47 :: (x ++ r)) (47 :: (p ++ [47])) = true ↔ x = p ∧ r ≠ []) := by
    intro p hp
    rw [Lib.hasPrefix, List.isPrefixOf_iff_prefix, List.cons_prefix_cons]
    constructor
    · rintro ⟨_, h⟩
      exact pre_part r hr p x hp hx h
    · rintro ⟨rfl, h⟩
      refine ⟨rfl, ?_⟩
      rcases hr with rfl | ⟨t, rfl⟩
      · exact absurd rfl h
      · exact ⟨t, by simp⟩
  have he : ∀ p : List UInt8, 47 ∉ p → (47 :: (x ++ r) = 47 :: p ↔ x = p ∧ r = []) := by
    intro p hp
    constructor
    · intro h
      injection h with _ h
      exact eq_part r hr p x hp h
    · rintro ⟨rfl, rfl⟩
      simp
  have h1 := hp [46] (by decide)
  have h2 := he [46] (by decide)
  have h3 := hp [46, 46] (by decide)
  have h4 := he [46, 46] (by decide)
  simp only [List.cons_append, List.nil_append] at h1 h3
  have hb := before_part r hr x hx
  have h5 : ¬ (47 :: (x ++ r) = [46] ∨ 47 :: (x ++ r) = [46, 46]) := by simp
  by_cases e1 : x = [46]
  · subst e1
    by_cases e2 : r = []
    · subst e2
      rw [if_neg (by rw [h1]; simp), if_pos (h2.2 ⟨rfl, rfl⟩), if_pos rfl, if_pos rfl]
    · rw [if_pos (h1.2 ⟨rfl, e2⟩), if_pos rfl, if_neg e2]
      rfl
  · rw [if_neg (by rw [h1]; exact fun h => e1 h.1), if_neg (by rw [h2]; exact fun h => e1 h.1), if_neg e1]
    by_cases e3 : x = [46, 46]
    · subst e3
      by_cases e2 : r = []
      · subst e2
        rw [if_neg (by rw [h3]; simp), if_pos (h4.2 ⟨rfl, rfl⟩), if_pos rfl, if_pos rfl]
      · rw [if_pos (h3.2 ⟨rfl, e2⟩), if_pos rfl, if_neg e2]
        rfl
    · rw [if_neg (by rw [h3]; exact fun h => e3 h.1), if_neg (by rw [h4]; exact fun h => e3 h.1), if_neg h5, if_neg e3]
      rw [List.drop_succ_cons, List.drop_zero, hb, Nat.add_comm, List.take_succ_cons, List.drop_succ_cons, List.take_left, List.drop_left]
theorem cutAt_none (x : UInt8) (l : List UInt8) (h : x ∉ l) : cutAt x l = (l, [], false) := by
  induction l with
  | nil => rfl
  | cons a l ih =>
    have h1 : ¬ a = x := fun e => h (by simp [e])
    rw [cutAt, if_neg h1, ih (fun e => h (by simp [e]))]
theorem cutAt_mid (x : UInt8) (l t : List UInt8) (h : x ∉ l) : cutAt x (l ++ x :: t) = (l, t, true) := by
  induction l with
  | nil => rw [List.nil_append, cutAt, if_pos rfl]
  | cons a l ih =>
    have h1 : ¬ a = x := fun e => h (by simp [e])
    rw [List.cons_append, cutAt, if_neg h1, ih (fun e => h (by simp [e]))]
theorem encB_cases (b : Bool) (c : UInt8) : (encB b c = [c] ∧ ¬ c = 37 ∧ (plainB c = true ∨ b = true ∧ c = 47)) ∨ encB b c = [37, hexD (c.toNat / 16), hexD (c.toNat % 16)] := by
  by_cases h : (plainB c || (b && decide (c = 47))) = true
  · refine .inl ⟨by rw [encB, if_pos h], ?_, by simpa using h⟩
    rintro rfl
    revert h
    cases b <;> decide
  · exact .inr (by rw [encB, if_neg h])
theorem hex_back (c : UInt8) : 0 ≤ hexF (hexD (c.toNat / 16)) ∧ 0 ≤ hexF (hexD (c.toNat % 16)) ∧ UInt8.ofNat (hexF (hexD (c.toNat / 16)) * 16 + hexF (hexD (c.toNat % 16))).toNat = c := by
  have key : ∀ a : Fin 256, 0 ≤ hexF (hexD (a.val / 16)) ∧ 0 ≤ hexF (hexD (a.val % 16)) ∧ UInt8.ofNat (hexF (hexD (a.val / 16)) * 16 + hexF (hexD (a.val % 16))).toNat = UInt8.ofNat a.val := by decide +kernel
  have := key ⟨c.toNat, c.toNat_lt⟩
  simpa using this
theorem decode_enc (b : Bool) (l t : List UInt8) : decodeF (encF b l ++ t) = (decodeF t).map (l ++ ·) := by
  induction l with
  | nil => simp [encF]
  | cons c l ih =>
    have e : encF b (c :: l) ++ t = encB b c ++ (encF b l ++ t) := by simp [encF]
    rw [e]
    rcases encB_cases b c with ⟨h1, h2, _⟩ | h1
    · rw [h1, List.singleton_append, decode_plain c _ h2, ih, Option.map_map]
      congr 1
    · obtain ⟨h2, h3, h4⟩ := hex_back c
      rw [h1]
      show decodeF (37 :: hexD (c.toNat / 16) :: hexD (c.toNat % 16) :: (encF b l ++ t)) = _
      rw [decode_two, if_pos ⟨h2, h3⟩, ih, Option.map_map, h4]
      congr 1
theorem decode_enc0 (b : Bool) (l : List UInt8) : decodeF (encF b l) = some l := by
  have := decode_enc b l []
  rw [List.append_nil, decodeF] at this
  simpa using this
theorem encF_len (b : Bool) (l : List UInt8) : (encF b l).length ≤ 3 * l.length := by
  induction l with
  | nil => simp [encF]
  | cons c l ih =>
    have e : encF b (c :: l) = encB b c ++ encF b l := by simp [encF]
    rw [e, List.length_append, List.length_cons]
    have : (encB b c).length ≤ 3 := by
      rcases encB_cases b c with ⟨h1, _⟩ | h1 <;> rw [h1] <;> simp
    omega
/-- No part of dots: nothing goes. -/
def dotless (ps : List (List UInt8)) : Prop := ∀ x ∈ ps, ¬ x = [46] ∧ ¬ x = [46, 46]
theorem dots_none : ∀ (ps O : List (List UInt8)) (g : Nat), noS ps → dotless ps → (jl ps).length ≤ g → dotsN g (jl O) (jl ps) = jl (O ++ ps)
  | [], O, g, _, _, _ => by cases g <;> simp [dotsN, jl_nil]
  | x :: rest, O, g, hp, hd, hg => by
    have hx : 47 ∉ x := hp x (by simp)
    have hj := jl_head rest
    rw [jl_cons] at hg ⊢
    rw [List.length_cons, List.length_append] at hg
    obtain ⟨g, rfl⟩ : ∃ g', g = g' + 1 := ⟨g - 1, by omega⟩
    rw [dotsN, if_neg (by simp), step_part _ _ _ hj hx, if_neg (hd x (by simp)).1, if_neg (hd x (by simp)).2, ← jl_snoc]
    rw [dots_none rest (O ++ [x]) g (fun y hy => hp y (by simp [hy])) (fun y hy => hd y (by simp [hy])) (by omega)]
    simp
theorem jl_parts (l : List UInt8) : ∀ n, jl (partsGo n l) = 47 :: (n ++ l) := by
  induction l with
  | nil => intro n; simp [partsGo, jl]
  | cons c t ih =>
    intro n
    by_cases h : c = 47
    · subst h
      rw [partsGo, if_pos rfl, jl_cons, ih]
      simp
    · rw [partsGo, if_neg h, ih]
      simp
theorem parts_noS (l : List UInt8) : ∀ n, 47 ∉ n → noS (partsGo n l) := by
  induction l with
  | nil => intro n hn y hy; simp [partsGo] at hy; rw [hy]; exact hn
  | cons c t ih =>
    intro n hn
    by_cases h : c = 47
    · rw [partsGo, if_pos h]
      intro y hy
      rcases List.mem_cons.1 hy with e | e
      · rw [e]; exact hn
      · exact ih [] (by simp) y e
    · rw [partsGo, if_neg h]
      refine ih _ ?_
      simp only [List.mem_append, List.mem_singleton, not_or]
      exact ⟨hn, fun e => h e.symm⟩
theorem parts_bytes (l : List UInt8) (P : UInt8 → Prop) : ∀ n, (∀ p ∈ partsGo n l, ∀ x ∈ p, P x) → ∀ x ∈ n ++ l, P x ∨ x = 47 := by
  induction l with
  | nil => intro n h x hx; exact .inl (h n (by simp [partsGo]) x (by simpa using hx))
  | cons c t ih =>
    intro n h x hx
    by_cases hc : c = 47
    · rw [partsGo, if_pos hc] at h
      rcases List.mem_append.1 hx with e | e
      · exact .inl (h n (by simp) x e)
      · rcases List.mem_cons.1 e with e | e
        · exact .inr (e.trans hc)
        · exact ih [] (fun p hp => h p (by simp [hp])) x (by simpa using e)
    · rw [partsGo, if_neg hc] at h
      exact ih _ h x (by simpa using hx)
theorem part_ok {p : List UInt8} (h : partF p = true) : p ≠ [] ∧ ¬ p = [46] ∧ ¬ p = [46, 46] ∧ ∀ x ∈ p, okN x.toNat = true := by
  rw [partF] at h
  simp only [Bool.and_eq_true, Bool.not_eq_true', Bool.or_eq_false_iff, decide_eq_false_iff_not] at h
  refine ⟨h.1.1.1, h.1.1.2, h.1.2, fun x hx => ?_⟩
  exact List.all_eq_true.1 h.2 x hx
theorem right_parts {f : List UInt8} (h : rightF f = true) : ∀ p ∈ splitF f, partF p = true := by
  rw [rightF] at h
  simp only [Bool.and_eq_true] at h
  exact List.all_eq_true.1 h.2
theorem right_bytes {f : List UInt8} (h : rightF f = true) : ∀ x ∈ f, okN x.toNat = true ∨ x = 47 := by
  have := parts_bytes f (fun x => okN x.toNat = true) [] (fun p hp x hx => (part_ok (right_parts h p hp)).2.2.2 x hx)
  simpa using this
theorem right_not {f : List UInt8} (h : rightF f = true) (c : UInt8) (hc : okN c.toNat = false) (h2 : c ≠ 47) : c ∉ f := fun hm => by
  rcases right_bytes h c hm with e | e
  · rw [hc] at e; cases e
  · exact h2 e
theorem right_dots {f : List UInt8} (h : rightF f = true) : dotsF (47 :: f) = 47 :: f := by
  have hj : jl (splitF f) = 47 :: f := by rw [splitF, jl_parts]; simp
  have := dots_none (splitF f) [] (47 :: f).length (parts_noS f [] (by simp)) (fun p hp => ⟨(part_ok (right_parts h p hp)).2.1, (part_ok (right_parts h p hp)).2.2.1⟩) (by rw [hj]; exact Nat.le_refl _)
  rw [hj, List.nil_append, hj] at this
  exact this
theorem right_head {f : List UInt8} (h : rightF f = true) : ∀ t, f ≠ 47 :: t := fun t e => by
  subst e
  have := right_parts h [] (by simp [splitF, partsGo])
  exact (part_ok this).1 rfl
theorem right_len {f : List UInt8} (h : rightF f = true) : 1 ≤ f.length ∧ f.length ≤ 200 := by
  rw [rightF] at h
  simp only [Bool.and_eq_true, decide_eq_true_eq] at h
  exact h.1.1
theorem right_file {f : List UInt8} (h : rightF f = true) : fileF f = f := by
  rw [fileF, if_neg]
  rintro (e | e)
  · have := right_len h; rw [e] at this; simp at this
  · rw [hasSuffix, List.isSuffixOf_iff_suffix] at e
    obtain ⟨t, ht⟩ := e
    have hl := last_none f
    have hd := dir_last f
    have hp := right_parts h (lastF f) (by
      rw [lastF]
      rcases List.eq_nil_or_concat (splitF f) with h0 | ⟨a, b, h0⟩
      · exact absurd h0 (partsGo_ne [] f)
      · rw [h0]; simp)
    rcases List.eq_nil_or_concat (lastF f) with e2 | ⟨a, c, e2⟩
    · exact (part_ok hp).1 e2
    · rw [List.concat_eq_append] at e2
      rw [e2, ← List.append_assoc] at hd
      have := List.append_inj_right' (hd.trans ht.symm) rfl
      injection this with h1 _
      apply hl
      rw [e2, h1]
      simp
theorem enc_right {f : List UInt8} (h : ∀ x ∈ f, okN x.toNat = true ∨ x = 47) : encF true f = f := by
  induction f with
  | nil => rfl
  | cons c t ih =>
    rw [encF, List.flatMap_cons]
    rw [encF] at ih
    rw [ih (fun x hx => h x (by simp [hx]))]
    have hc := h c (by simp)
    have : encB true c = [c] := by
      rw [encB, if_pos]
      rcases hc with e | e
      · rw [okN] at e
        simp only [Bool.or_eq_true, decide_eq_true_eq] at e
        simp only [plainB, letterB, digitB, Bool.or_eq_true, Bool.and_eq_true, decide_eq_true_eq]
        have hx : ∀ n : Nat, n < 256 → c.toNat = n → c = UInt8.ofNat n := fun n h1 h2 => by
          apply UInt8.toNat_inj.1
          rw [h2]
          exact (UInt8.toNat_ofNat_of_lt' h1).symm
        rcases e with ((((e | e) | e) | e) | e) | e
        · exact .inl (.inl (.inl (.inl (.inl (.inl (.inl e))))))
        · exact .inl (.inl (.inl (.inl (.inl (.inl (.inr e))))))
        · exact .inl (.inl (.inl (.inl (.inl (.inr e)))))
        · exact .inl (.inl (.inl (.inr (hx 46 (by decide) e))))
        · exact .inl (.inl (.inl (.inl (.inr (hx 45 (by decide) e)))))
        · exact .inl (.inl (.inr (hx 95 (by decide) e)))
      · simp [e]
    rw [this]
    rfl
end Go.Proofs.YtcoaecdgodfodaaDoorSep
