/- Own work: a path without dots, by a list of its parts: plain. -/
import Derived.Test.YtcoaecdgodfodaaUriDir
import Derived.Test.YtcoaecdgodfodaaUriO
namespace Go.Proofs.YtcoaecdgodfodaaSep
open Go.RowKit Go.Lib Go.Proofs

def jl (ps : List (List UInt8)) : List UInt8 := ps.flatMap (fun x => 47 :: x)
def noS (ps : List (List UInt8)) : Prop := ∀ x ∈ ps, 47 ∉ x
def dlStep (O : List (List UInt8)) (x : List UInt8) (last : Bool) : List (List UInt8) :=
  if x = [46] then (if last then O ++ [[]] else O) else if x = [46, 46] then (if last then O.dropLast ++ [[]] else O.dropLast) else O ++ [x]
def dl (O : List (List UInt8)) : List (List UInt8) → List (List UInt8)
  | [] => O
  | x :: rest => dl (dlStep O x rest.isEmpty) rest
theorem jl_nil : jl [] = [] := rfl
theorem jl_cons (x : List UInt8) (ps : List (List UInt8)) : jl (x :: ps) = 47 :: (x ++ jl ps) := by simp [jl]
theorem jl_snoc (ps : List (List UInt8)) (x : List UInt8) : jl (ps ++ [x]) = jl ps ++ (47 :: x) := by simp [jl]
theorem jl_head (ps : List (List UInt8)) : jl ps = [] ∨ ∃ t, jl ps = 47 :: t := by
  cases ps with
  | nil => exact .inl rfl
  | cons x ps => exact .inr ⟨_, jl_cons x ps⟩
theorem jl_empty (ps : List (List UInt8)) : jl ps = [] ↔ ps = [] := by
  cases ps with
  | nil => simp [jl]
  | cons x ps => simp [jl_cons]
theorem pre_part (r : List UInt8) (hr : r = [] ∨ ∃ t, r = 47 :: t) : ∀ (p x : List UInt8), 47 ∉ p → 47 ∉ x → (p ++ [47]) <+: (x ++ r) → x = p ∧ r ≠ [] := by
  intro p
  induction p with
  | nil =>
    intro x _ hx h
    cases x with
    | nil =>
      refine ⟨rfl, ?_⟩
      rintro rfl
      simp at h
    | cons a x =>
      simp at h
      exact absurd h (fun e => hx (by rw [← e]; simp))
  | cons a p ih =>
    intro x hp hx h
    cases x with
    | nil =>
      rcases hr with rfl | ⟨t, rfl⟩
      · simp at h
      · simp at h
        exact absurd h.1 (fun e => hp (by rw [e]; simp))
    | cons b x =>
      simp only [List.cons_append, List.cons_prefix_cons] at h
      obtain ⟨h1, h2⟩ := ih x (fun e => hp (by simp [e])) (fun e => hx (by simp [e])) h.2
      exact ⟨by rw [h1, h.1], h2⟩
theorem eq_part (r : List UInt8) (hr : r = [] ∨ ∃ t, r = 47 :: t) (p x : List UInt8) (hp : 47 ∉ p) (h : x ++ r = p) : x = p ∧ r = [] := by
  rcases hr with rfl | ⟨t, rfl⟩
  · simpa using h
  · exact absurd (by rw [← h]; simp) hp
theorem before_part (r : List UInt8) (hr : r = [] ∨ ∃ t, r = 47 :: t) (x : List UInt8) (hx : 47 ∉ x) : before 47 (x ++ r) = x := by
  induction x with
  | nil =>
    rcases hr with rfl | ⟨t, rfl⟩
    · rfl
    · rfl
  | cons a x ih =>
    have h1 : ¬ a = 47 := fun e => hx (by simp [e])
    have h2 := ih (fun e => hx (by simp [e]))
    rw [before] at h2 ⊢
    rw [List.cons_append, cutAt, if_neg h1, h2]
theorem pre_false (r : List UInt8) (a : UInt8) (p : List UInt8) (h : ¬ a = 47) : Lib.hasPrefix (47 :: r) (a :: p) = false := by
  rw [Lib.hasPrefix, List.isPrefixOf_cons_cons, beq_false_of_ne h, Bool.false_and]
theorem step_part (O x : List UInt8) (r : List UInt8) (hr : r = [] ∨ ∃ t, r = 47 :: t) (hx : 47 ∉ x) :
    dotsStep O (47 :: (x ++ r)) = if x = [46] then (O, if r = [] then [47] else r) else if x = [46, 46] then (upF O, if r = [] then [47] else r) else (O ++ 47 :: x, r) := by
  rw [dotsStep, pre_false _ _ _ (by decide), pre_false _ _ _ (by decide)]
  simp only [Bool.false_eq_true, if_false]
  have hp : ∀ p : List UInt8, 47 ∉ p → (Lib.hasPrefix (47 :: (x ++ r)) (47 :: (p ++ [47])) = true ↔ x = p ∧ r ≠ []) := by
    intro p hp
    rw [Lib.hasPrefix, List.isPrefixOf_iff_prefix, List.cons_prefix_cons]
    constructor
    · rintro ⟨_, h⟩
      exact pre_part r hr p x hp hx h
    · rintro ⟨rfl, h⟩
      refine ⟨rfl, ?_⟩
      rcases hr with rfl | ⟨t, rfl⟩
      · exact absurd rfl h
      · exact ⟨t, by simp⟩
  have he : ∀ p : List UInt8, 47 ∉ p → (47 :: (x ++ r) = 47 :: p ↔ x = p ∧ r = []) := by
    intro p hp
    constructor
    · intro h
      injection h with _ h
      exact eq_part r hr p x hp h
    · rintro ⟨rfl, rfl⟩
      simp
  have h1 := hp [46] (by decide)
  have h2 := he [46] (by decide)
  have h3 := hp [46, 46] (by decide)
  have h4 := he [46, 46] (by decide)
  simp only [List.cons_append, List.nil_append] at h1 h3
  have hb := before_part r hr x hx
  have h5 : ¬ (47 :: (x ++ r) = [46] ∨ 47 :: (x ++ r) = [46, 46]) := by simp
  by_cases e1 : x = [46]
  · subst e1
    by_cases e2 : r = []
    · subst e2
      rw [if_neg (by rw [h1]; simp), if_pos (h2.2 ⟨rfl, rfl⟩), if_pos rfl, if_pos rfl]
    · rw [if_pos (h1.2 ⟨rfl, e2⟩), if_pos rfl, if_neg e2]
      rfl
  · rw [if_neg (by rw [h1]; exact fun h => e1 h.1), if_neg (by rw [h2]; exact fun h => e1 h.1), if_neg e1]
    by_cases e3 : x = [46, 46]
    · subst e3
      by_cases e2 : r = []
      · subst e2
        rw [if_neg (by rw [h3]; simp), if_pos (h4.2 ⟨rfl, rfl⟩), if_pos rfl, if_pos rfl]
      · rw [if_pos (h3.2 ⟨rfl, e2⟩), if_pos rfl, if_neg e2]
        rfl
    · rw [if_neg (by rw [h3]; exact fun h => e3 h.1), if_neg (by rw [h4]; exact fun h => e3 h.1), if_neg h5, if_neg e3]
      rw [List.drop_succ_cons, List.drop_zero, hb, Nat.add_comm, List.take_succ_cons, List.drop_succ_cons, List.take_left, List.drop_left]
theorem upF_jl (O : List (List UInt8)) (hO : noS O) : upF (jl O) = jl O.dropLast := by
  rcases List.eq_nil_or_concat O with rfl | ⟨q, x, rfl⟩
  · rfl
  · rw [List.concat_eq_append] at *
    have hx : 47 ∉ x := hO x (by simp)
    have e : jl (q ++ [x]) = jn (jl q :: []) ++ x := by rw [jl_snoc]; simp [jn]
    rw [upF, e, last_of [jl q] x hx]
    simp [jn]
theorem dots_jl : ∀ (ps : List (List UInt8)) (O : List (List UInt8)) (g : Nat), noS ps → noS O → (jl ps).length ≤ g → dotsN g (jl O) (jl ps) = jl (dl O ps) := by
  intro ps
  induction ps with
  | nil =>
    intro O g _ _ _
    cases g <;> simp [dotsN, jl_nil, dl]
  | cons x rest ih =>
    intro O g hp hO hg
    have hx : 47 ∉ x := hp x (by simp)
    have hr : noS rest := fun y hy => hp y (by simp [hy])
    have hj := jl_head rest
    rw [jl_cons] at hg ⊢
    rw [List.length_cons, List.length_append] at hg
    obtain ⟨g, rfl⟩ : ∃ g', g = g' + 1 := ⟨g - 1, by omega⟩
    have hO2 : noS O.dropLast := fun y hy => hO y (List.dropLast_subset _ hy)
    have one : ∀ (O : List (List UInt8)) g, 1 ≤ g → dotsN g (jl O) [47] = jl (O ++ [[]]) := by
      intro O g h1
      obtain ⟨g, rfl⟩ : ∃ g', g = g' + 1 := ⟨g - 1, by omega⟩
      rw [dotsN, if_neg (by simp)]
      have := step_part (jl O) [] [] (.inl rfl) (by simp)
      simp only [List.append_nil] at this
      rw [this, if_neg (by simp), if_neg (by simp), ← jl_snoc]
      cases g <;> simp [dotsN]
    rw [dotsN, if_neg (by simp), step_part _ _ _ hj hx, dl, dlStep]
    by_cases e1 : x = [46]
    · rw [if_pos e1, if_pos e1]
      rw [e1, List.length_singleton] at hg
      by_cases e2 : rest = []
      · subst e2
        rw [jl_nil, if_pos rfl, List.isEmpty_nil, if_pos rfl, dl]
        exact one O g (by rw [jl_nil] at hg; simp at hg; omega)
      · rw [if_neg (fun h => e2 ((jl_empty _).1 h)), if_neg (by simp [e2])]
        exact ih O g hr hO (by omega)
    · rw [if_neg e1, if_neg e1]
      by_cases e3 : x = [46, 46]
      · rw [if_pos e3, if_pos e3, upF_jl O hO]
        rw [e3] at hg
        by_cases e2 : rest = []
        · subst e2
          rw [jl_nil, if_pos rfl, List.isEmpty_nil, if_pos rfl, dl]
          exact one O.dropLast g (by simp at hg; omega)
        · rw [if_neg (fun h => e2 ((jl_empty _).1 h)), if_neg (by simp [e2])]
          exact ih O.dropLast g hr hO2 (by simp at hg; omega)
      · rw [if_neg e3, if_neg e3, ← jl_snoc]
        refine ih (O ++ [x]) g hr (fun y hy => ?_) (by omega)
        rcases List.mem_append.1 hy with h | h
        · exact hO y h
        · rw [List.mem_singleton.1 h]; exact hx
theorem splitG_noS (l : List UInt8) : ∀ n, 47 ∉ n → noS (splitG n l) := by
  induction l with
  | nil => intro n hn y hy; simp [splitG] at hy; rw [hy]; exact hn
  | cons c t ih =>
    intro n hn y hy
    by_cases h : c = 47
    · subst h
      rw [splitG_hit] at hy
      rcases List.mem_cons.1 hy with h | h
      · rw [h]; exact hn
      · exact ih [] (by simp) y h
    · rw [splitG_miss _ _ _ h] at hy
      exact ih (n ++ [c]) (by simp [hn]; exact fun e => h e.symm) y hy
theorem jl_split (l : List UInt8) : ∀ n, jl (splitG n l) = 47 :: (n ++ l) := by
  induction l with
  | nil => intro n; simp [splitG, jl]
  | cons c t ih =>
    intro n
    by_cases h : c = 47
    · subst h
      rw [splitG_hit, jl_cons, ih]
      simp
    · rw [splitG_miss _ _ _ h, ih]
      simp
theorem splitG_part (x l : List UInt8) (hx : 47 ∉ x) : ∀ n, splitG n (x ++ l) = splitG (n ++ x) l := by
  induction x with
  | nil => intro n; simp
  | cons c x ih =>
    intro n
    have h : ¬ c = 47 := fun e => hx (by simp [e])
    rw [List.cons_append, splitG_miss _ _ _ h, ih (fun e => hx (by simp [e]))]
    simp
theorem split_jl (ps : List (List UInt8)) (hp : noS ps) : ∀ n, splitG n (jl ps) = n :: ps := by
  induction ps with
  | nil => intro n; simp [jl, splitG]
  | cons x ps ih =>
    intro n
    rw [jl_cons, splitG_hit, splitG_part _ _ (hp x (by simp)), ih (fun y hy => hp y (by simp [hy]))]
    simp
def okP (ps : List (List UInt8)) : Prop := ∀ x ∈ ps, ¬ x = [46] ∧ ¬ x = [46, 46]
theorem dlStep_spec (O : List (List UInt8)) (x : List UInt8) (last : Bool) (h1 : noS O) (h2 : okP O) (hx : 47 ∉ x) : noS (dlStep O x last) ∧ okP (dlStep O x last) := by
  have hd1 : noS O.dropLast := fun y hy => h1 y (List.dropLast_subset _ hy)
  have hd2 : okP O.dropLast := fun y hy => h2 y (List.dropLast_subset _ hy)
  have sn : ∀ (O : List (List UInt8)) (z : List UInt8), noS O → okP O → 47 ∉ z → ¬ z = [46] → ¬ z = [46, 46] → noS (O ++ [z]) ∧ okP (O ++ [z]) := by
    intro O z a b c d e
    refine ⟨fun y hy => ?_, fun y hy => ?_⟩
    · rcases List.mem_append.1 hy with h | h
      · exact a y h
      · rw [List.mem_singleton.1 h]; exact c
    · rcases List.mem_append.1 hy with h | h
      · exact b y h
      · rw [List.mem_singleton.1 h]; exact ⟨d, e⟩
  rw [dlStep]
  by_cases e1 : x = [46]
  · rw [if_pos e1]
    cases last
    · exact ⟨h1, h2⟩
    · exact sn O [] h1 h2 (by simp) (by simp) (by simp)
  · rw [if_neg e1]
    by_cases e2 : x = [46, 46]
    · rw [if_pos e2]
      cases last
      · exact ⟨hd1, hd2⟩
      · exact sn O.dropLast [] hd1 hd2 (by simp) (by simp) (by simp)
    · rw [if_neg e2]
      exact sn O x h1 h2 hx e1 e2
theorem dl_spec : ∀ (ps O : List (List UInt8)), noS ps → noS O → okP O → noS (dl O ps) ∧ okP (dl O ps) := by
  intro ps
  induction ps with
  | nil => intro O _ h1 h2; exact ⟨h1, h2⟩
  | cons x rest ih =>
    intro O hp h1 h2
    have := dlStep_spec O x rest.isEmpty h1 h2 (hp x (by simp))
    exact ih _ (fun y hy => hp y (by simp [hy])) this.1 this.2
theorem dl_ok : ∀ (ps O : List (List UInt8)), okP ps → dl O ps = O ++ ps := by
  intro ps
  induction ps with
  | nil => intro O _; simp [dl]
  | cons x rest ih =>
    intro O hp
    have h := hp x (by simp)
    rw [dl, dlStep, if_neg h.1, if_neg h.2, ih _ (fun y hy => hp y (by simp [hy]))]
    simp
/-- What the law's way over a list of parts comes to. -/
def dotsL (q : List UInt8) : List (List UInt8) := dl [] (splitF q)
theorem dots_law (q : List UInt8) : dotsF (47 :: q) = jl (dotsL q) ∧ splitF (jl (dotsL q)) = [] :: dotsL q ∧ okP ([] :: dotsL q) ∧ dotsF (jl (dotsL q)) = jl (dotsL q) := by
  have h0 : noS (splitF q) := splitG_noS q [] (by simp)
  have hs := dl_spec (splitF q) [] h0 (fun y hy => by simp at hy) (fun y hy => by simp at hy)
  have key : ∀ ps, noS ps → dotsF (jl ps) = jl (dl [] ps) := fun ps hp => by
    have := dots_jl ps [] (jl ps).length hp (fun y hy => by simp at hy) (Nat.le_refl _)
    rw [jl_nil] at this
    exact this
  refine ⟨?_, split_jl _ hs.1 [], ?_, ?_⟩
  · have := key (splitF q) h0
    rw [splitF, jl_split] at this
    exact this
  · intro x hx
    rcases List.mem_cons.1 hx with rfl | h
    · simp
    · exact hs.2 x h
  · show dotsF (jl (dl [] (splitF q))) = jl (dl [] (splitF q))
    rw [key _ hs.1, dl_ok _ _ hs.2]
    rfl
theorem dots_three : dotsF [] = [] ∧ dotsF [46, 46] = [] ∧ dotsF [97, 47, 98] = [97, 47, 98] := ⟨by decide +kernel, by decide +kernel, by decide +kernel⟩
end Go.Proofs.YtcoaecdgodfodaaSep
