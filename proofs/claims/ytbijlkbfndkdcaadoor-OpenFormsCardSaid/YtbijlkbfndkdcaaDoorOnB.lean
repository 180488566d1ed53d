/- Own work: the law's steps: rows of them, opened; what they say of the elements: plain. -/
import Derived.Test.YtbijlkbfndkdcaaDoorOnA
import Derived.Test.YtbijlkbfndkdcaaDoorOpU
import Derived.Test.YtbijlkbfndkdcaaDoorOpenT
namespace Go.Proofs.YtbijlkbfndkdcaaDoorSep
open Go.RowKit Go.Lib Go.Proofs Go.ChangeShapes Go.WideShapes
structure StM where
  K : Int
  N : Int
  name : List UInt8
  val : List UInt8
def StM.cells (o : StM) : List Value := [.int .i64 o.K, .int .i64 o.N, .string (str o.name), .string (str o.val)]
def stepsC (L : List StM) : List Value := L.flatMap StM.cells
theorem stepsC_len (L : List StM) : (stepsC L).length = L.length * 4 := flat_len StM.cells 4 L (fun _ _ => rfl)
theorem stepsC_get (L : List StM) (i j : Nat) (x : StM) (h : L[i]? = some x) (hj : j < 4) : (stepsC L)[i * 4 + j]? = x.cells[j]? := flat_get StM.cells 4 (by decide) L (fun _ _ => rfl) i j x h hj
theorem stepsC_append (L M : List StM) : stepsC (L ++ M) = stepsC L ++ stepsC M := by simp [stepsC]
theorem stepsC_snoc (L : List StM) (x : StM) : stepsC (L ++ [x]) = stepsC L ++ x.cells := by simp [stepsC]
theorem stepsC_one (L : List StM) : ∀ u ∈ stepsC L, u.oneCell' = true := by
  intro u hu
  rw [stepsC, List.mem_flatMap] at hu
  obtain ⟨f, hf, hu⟩ := hu
  simp only [StM.cells, List.mem_cons, List.not_mem_nil, or_false] at hu
  rcases hu with rfl | rfl | rfl | rfl
  all_goals rfl
theorem stepsC_take (L : List StM) (m : Nat) (hm : m ≤ L.length) : (stepsC L).take (m * 4) = stepsC (L.take m) := by
  have h1 : stepsC L = stepsC (L.take m) ++ stepsC (L.drop m) := by rw [← stepsC_append, List.take_append_drop]
  rw [h1, List.take_left' (by rw [stepsC_len, List.length_take]; omega)]
theorem stepsC_drop (L : List StM) (m : Nat) (hm : m ≤ L.length) : (stepsC L).drop (m * 4) = stepsC (L.drop m) := by
  have h1 : stepsC L = stepsC (L.take m) ++ stepsC (L.drop m) := by rw [← stepsC_append, List.take_append_drop]
  rw [h1, List.drop_left' (by rw [stepsC_len, List.length_take]; omega)]
theorem info_step : (Tryd.prog.info? 52).map (fun i => (i.zero, i.size, i.bytes)) = some (some (.agg #[.int .i64 0, .int .i64 0, .string ByteArray.empty, .string ByteArray.empty]), 4, 48) := by kernel_rfl
/-- The cells of one of a row. -/
theorem Own.stepAt {W0 w : World} {P : HP} {v : Value} {L : List StM} (H : Own W0 w (P * Row 52 4 v L.length (stepsC L))) (i : Nat) (x : StM) (hx : L[i]? = some x) : ∃ gf c, v = .slice (some ⟨gf, 0, none⟩) L.length c ∧ L.length ≤ c ∧ c ≤ maxLen ∧ ∀ (j : Nat) (u : Value), j < 4 → x.cells[j]? = some u → w.cell? ⟨gf, i * 4 + j, none⟩ = some u := by
  have hi := (List.getElem?_eq_some_iff.1 hx).1
  obtain ⟨gf, cap, cur, rfl, h1, h2, h3, h4, HB⟩ := H.openN (by omega)
  exact ⟨gf, cap, rfl, h1, h2, fun j u hj hu => cell_blk HB.blk (take_cell h4 (by omega) ((stepsC_get L i j x hx hj).trans hu))⟩
theorem Sl.stepAt {w : World} {v : Value} {L : List StM} (h : Sl w v 4 L.length (stepsC L)) (i : Nat) (x : StM) (hx : L[i]? = some x) : ∃ ad c, v = .slice (some ad) L.length c ∧ L.length ≤ c ∧ c ≤ maxLen ∧
    w.cell? (ad.add (i * 4)) = some (.int .i64 x.K) ∧ w.cell? ⟨(ad.add (i * 4)).block, (ad.add (i * 4)).off + 1, none⟩ = some (.int .i64 x.N) ∧ w.cell? ⟨(ad.add (i * 4)).block, (ad.add (i * 4)).off + 2, none⟩ = some (.string (str x.name)) ∧ w.cell? ⟨(ad.add (i * 4)).block, (ad.add (i * 4)).off + 3, none⟩ = some (.string (str x.val)) := by
  have hi := (List.getElem?_eq_some_iff.1 hx).1
  obtain ⟨hl, A, c, rfl, h1, h2, _, h3⟩ := h
  obtain ⟨ad, rfl, hc⟩ := h3 (by omega)
  have hg := fun (j : Nat) (u : Value) (hj : j < 3) (hu : x.cells[j + 1]? = some u) => hc _ u ((stepsC_get L i (j + 1) x hx (by omega)).trans hu)
  have h0 := hc _ (.int .i64 x.K) ((stepsC_get L i 0 x hx (by omega)).trans rfl)
  refine ⟨ad, c, rfl, h1, h2, h0, ?_, ?_, ?_⟩
  · have := hg 0 _ (by omega) rfl
    rwa [← Addr.add_add, Addr.add_succ'] at this
  · have := hg 1 _ (by omega) rfl
    rwa [← Addr.add_add, Addr.add_succ'] at this
  · have := hg 2 _ (by omega) rfl
    rwa [← Addr.add_add, Addr.add_succ'] at this
theorem open_ops {H : Type} {enc : TypeId × Value → H} {W : World} {base : Nat} {spare : Nat → Bool} {held : Bool} {v : Value} {d : DataW H} {ps : List MemPlace} {b : Nat}
    (hv : Value.okWide Tryd.prog W .any b 50 v) (h : DataW.Trod enc Tryd.prog W base spare held 50 v d ps) :
    ∃ L : List StM, Sl W v 4 L.length (stepsC L) ∧ ∀ o ∈ L, (o.name.length = o.name.length) := by
  obtain ⟨L, h1, h2⟩ := open_slice_of (sz := 4) StM.cells (fun x => x.name.length = x.name.length) (by decide) Tryd.underlying50 (by kernel_rfl) (fun fuel cs x hx => by
    have hl := struct_len Tryd.underlying52 hx
    obtain ⟨n0, y0, f0⟩ := field_at Tryd.underlying52 hx (i := 0) rfl
    obtain ⟨n1, y1, f1⟩ := field_at Tryd.underlying52 hx (i := 1) rfl
    obtain ⟨n2, y2, f2⟩ := field_at Tryd.underlying52 hx (i := 2) rfl
    obtain ⟨n3, y3, f3⟩ := field_at Tryd.underlying52 hx (i := 3) rfl
    rw [show Tryd.prog.cellsOf 52 = 4 by kernel_rfl] at hl
    match cs, hl with
    | [c0, c1, c2, c3], _ =>
      have q1 : Tryd.prog.cellsOf 3 = 1 := by kernel_rfl
      have q2 : Tryd.prog.cellsOf 9 = 1 := by kernel_rfl
      replace f0 : DataW.trod enc Tryd.prog W base spare held n0 3 [c0] = some y0 := by simpa [q1] using f0
      replace f1 : DataW.trod enc Tryd.prog W base spare held n1 3 [c1] = some y1 := by simpa [q1] using f1
      replace f2 : DataW.trod enc Tryd.prog W base spare held n2 9 [c2] = some y2 := by simpa [q2] using f2
      replace f3 : DataW.trod enc Tryd.prog W base spare held n3 9 [c3] = some y3 := by simpa [q2] using f3
      obtain ⟨k0, e0, _⟩ := DataW.trod_int Tryd.underlying3 f0
      obtain ⟨k1, e1, _⟩ := DataW.trod_int Tryd.underlying3 f1
      obtain ⟨s2, e2, _⟩ := DataW.trod_string Tryd.underlying9 f2
      obtain ⟨s3, e3, _⟩ := DataW.trod_string Tryd.underlying9 f3
      injection e0 with e0
      injection e1 with e1
      injection e2 with e2
      injection e3 with e3
      subst e0 e1 e2 e3
      exact ⟨⟨k0, k1, s2.data.toList, s3.data.toList⟩, by rw [StM.cells, str_of, str_of], rfl, rfl⟩) hv h
  exact ⟨L, h1, fun o ho => (h2 o ho).2⟩
-- plain: what the law holds, and what the elements are
def RelE (o : StM) (f : FormM) : Prop := (o.K = 0 ∧ f.node = o.N ∧ 0 ≤ o.N ∧ f.name = o.name ∧ f.A = [(aT, o.val)]) ∨ (o.K = 1 ∧ f.node = -1)
structure Rel (own : List StM) (fs : List FormM) : Prop where
  len : own.length = fs.length
  at_ : ∀ (i : Nat) (o : StM) (f : FormM), own[i]? = some o → fs[i]? = some f → RelE o f
  nod : ∀ (i j : Nat) (o p : StM), own[i]? = some o → own[j]? = some p → o.K = 0 → p.K = 0 → o.N = p.N → i = j
theorem Rel.nil : Rel [] [] := ⟨rfl, fun i o f h => by simp at h, fun i j o p h => by simp at h⟩
section
variable {own : List StM} {fs : List FormM}
theorem Rel.get (h : Rel own fs) {i : Nat} {o : StM} (ho : own[i]? = some o) : ∃ f, fs[i]? = some f ∧ RelE o f := by
  have hi := (List.getElem?_eq_some_iff.1 ho).1
  have hf : fs[i]? = some (fs[i]'(by rw [← h.len]; exact hi)) := List.getElem?_eq_getElem _
  exact ⟨_, hf, h.at_ i o _ ho hf⟩
def cutJ {α : Type} (l : List α) (j : Nat) : List α := l.take j ++ l.drop (j + 1)
theorem cutJ_get {α : Type} (l : List α) (j i : Nat) : (cutJ l j)[i]? = if i < j then l[i]? else l[i + 1]? := by
  rw [cutJ, ← List.eraseIdx_eq_take_drop_succ, List.getElem?_eraseIdx]
theorem cutJ_len {α : Type} (l : List α) (j : Nat) (h : j < l.length) : (cutJ l j).length = l.length - 1 := by
  rw [cutJ, List.length_append, List.length_take, List.length_drop]; omega
theorem Rel.cut (h : Rel own fs) (j : Nat) (hj : j < own.length) : Rel (cutJ own j) (cutJ fs j) := by
  refine ⟨by rw [cutJ_len _ _ hj, cutJ_len _ _ (by rw [← h.len]; exact hj), h.len], fun i o f h1 h2 => ?_, fun i k o p h1 h2 a b c => ?_⟩
  · rw [cutJ_get] at h1 h2
    split at h1
    · rw [if_pos (by assumption)] at h2
      exact h.at_ _ _ _ h1 h2
    · rw [if_neg (by assumption)] at h2
      exact h.at_ _ _ _ h1 h2
  · rw [cutJ_get] at h1 h2
    split at h1 <;> split at h2
    all_goals
      have := h.nod _ _ _ _ h1 h2 a b c
      omega
theorem Rel.take (h : Rel own fs) (m : Nat) : Rel (own.take m) (fs.take m) := by
  refine ⟨by rw [List.length_take, List.length_take, h.len], fun i o f h1 h2 => ?_, fun i k o p h1 h2 a b c => ?_⟩
  · rw [List.getElem?_take] at h1 h2
    split at h1
    · rw [if_pos (by assumption)] at h2
      exact h.at_ _ _ _ h1 h2
    · cases h1
  · rw [List.getElem?_take] at h1 h2
    split at h1
    · split at h2
      · exact h.nod _ _ _ _ h1 h2 a b c
      · cases h2
    · cases h1
theorem snoc_get {α : Type} {l : List α} {x y : α} {i : Nat} (h : (l ++ [x])[i]? = some y) : l[i]? = some y ∨ (i = l.length ∧ y = x) := by
  rw [List.getElem?_append] at h
  split at h
  · exact .inl h
  · have := (List.getElem?_eq_some_iff.1 h).1
    simp at this
    have hi : i = l.length := by omega
    subst hi
    simp at h
    exact .inr ⟨rfl, h.symm⟩
theorem Rel.add (h : Rel own fs) {x : StM} {f : FormM} (hx : RelE x f) (hn : x.K = 0 → ∀ o ∈ own, o.K = 0 → o.N ≠ x.N) : Rel (own ++ [x]) (fs ++ [f]) := by
  refine ⟨by rw [List.length_append, List.length_append, h.len]; rfl, fun i o g h1 h2 => ?_, fun i k o p h1 h2 a b c => ?_⟩
  · rcases snoc_get h1 with k1 | ⟨k1, e1⟩
    · rcases snoc_get h2 with k2 | ⟨k2, e2⟩
      · exact h.at_ _ _ _ k1 k2
      · have := (List.getElem?_eq_some_iff.1 k1).1
        have := h.len
        omega
    · rcases snoc_get h2 with k2 | ⟨k2, e2⟩
      · have := (List.getElem?_eq_some_iff.1 k2).1
        have := h.len
        omega
      · rw [e1, e2]
        exact hx
  · rcases snoc_get h1 with k1 | ⟨k1, e1⟩
    · rcases snoc_get h2 with k2 | ⟨k2, e2⟩
      · exact h.nod _ _ _ _ k1 k2 a b c
      · rw [e2] at b c
        exact absurd c (hn b _ (List.mem_of_getElem? k1) a)
    · rcases snoc_get h2 with k2 | ⟨k2, e2⟩
      · rw [e1] at a c
        exact absurd c.symm (hn a _ (List.mem_of_getElem? k2) b)
      · omega
theorem RelE.zero {o : StM} {f : FormM} (h : RelE o f) (hK : o.K = 0) : f.node = o.N ∧ 0 ≤ o.N ∧ ¬ f.node = -1 ∧ f.name = o.name ∧ f.A = [(aT, o.val)] := by
  rcases h with ⟨_, h1, h2, h3, h4⟩ | ⟨h1, _⟩
  · exact ⟨h1, h2, by omega, h3, h4⟩
  · omega
theorem RelE.one {o : StM} {f : FormM} (h : RelE o f) (hK : ¬ o.K = 0) : o.K = 1 ∧ f.node = -1 := by
  rcases h with ⟨h1, _⟩ | h1
  · exact absurd h1 hK
  · exact h1
def lastI (n : Int) (own : List StM) : Nat → Int
  | 0 => -1
  | i + 1 => match own[i]? with
    | none => -1
    | some o => if o.K = 0 ∧ o.N = n then (i : Int) else lastI n own i
theorem lastI_step {n : Int} {i : Nat} {o : StM} (h : own[i]? = some o) : lastI n own (i + 1) = if o.K = 0 ∧ o.N = n then (i : Int) else lastI n own i := by rw [lastI, h]
theorem lastI_none {n : Int} : ∀ q, (∀ (i : Nat) (o : StM), own[i]? = some o → ¬ (o.K = 0 ∧ o.N = n)) → lastI n own q = -1
  | 0, _ => rfl
  | q + 1, h => by
    rw [lastI]
    split
    · rfl
    · rw [if_neg (h _ _ (by assumption)), lastI_none q h]
theorem lastI_some {n : Int} {i : Nat} {o : StM} (ho : own[i]? = some o) (h : o.K = 0 ∧ o.N = n) (hnod : ∀ (j : Nat) (p : StM), own[j]? = some p → p.K = 0 ∧ p.N = n → j = i) : ∀ q, i < q → q ≤ own.length → lastI n own q = (i : Int)
  | 0, hq, _ => by omega
  | q + 1, hq, hl => by
    have hg : own[q]? = some (own[q]'(by omega)) := List.getElem?_eq_getElem _
    rw [lastI_step hg]
    split
    · rw [hnod _ _ hg (by assumption)]
    · by_cases hiq : i = q
      · subst hiq
        have e := Option.some.inj (hg.symm.trans ho)
        rename_i hne
        exact absurd (by rw [e]; exact h) hne
      · exact lastI_some ho h hnod q (by omega) (by omega)
/-- The last one of a number is the one that is found. -/
theorem Rel.last (h : Rel own fs) {n : Int} (hn : 0 ≤ n) : lastI n own own.length = idF n fs := by
  rw [idF]
  cases hf : fs.findIdx? (atP n) with
  | none =>
    refine lastI_none _ fun i o ho hk => ?_
    obtain ⟨f, hff, hr⟩ := h.get ho
    rw [List.findIdx?_eq_none_iff] at hf
    have := hf f (List.mem_of_getElem? hff)
    obtain ⟨h1, h2, h3, _⟩ := hr.zero hk.1
    simp [atP, h1, hk.2] at this
    omega
  | some i =>
    obtain ⟨hi, hp, _⟩ := List.findIdx?_eq_some_iff_getElem.1 hf
    have hg : own[i]? = some (own[i]'(by rw [h.len]; exact hi)) := List.getElem?_eq_getElem _
    have hr := h.at_ i _ _ hg (List.getElem?_eq_getElem hi)
    simp only [atP, Bool.and_eq_true, decide_eq_true_eq] at hp
    have hk : (own[i]'(by rw [h.len]; exact hi)).K = 0 ∧ (own[i]'(by rw [h.len]; exact hi)).N = n := by
      rcases hr with ⟨a, b, _⟩ | ⟨_, b⟩
      · exact ⟨a, by rw [← b]; exact hp.1⟩
      · rw [hp.1] at b
        omega
    exact lastI_some hg hk (fun j p hj hp2 => h.nod _ _ _ _ hj hg hp2.1 hk.1 (by rw [hp2.2, hk.2])) _ (by rw [h.len]; exact hi) (Nat.le_refl _)
theorem lastI_nin {n : Int} : ∀ q, q ≤ own.length → lastI n own q < 0 → ∀ (i : Nat) (o : StM), i < q → own[i]? = some o → ¬ (o.K = 0 ∧ o.N = n)
  | 0, _, _, i, o, hi, _ => by omega
  | q + 1, hq, hl, i, o, hi, ho => by
    have hg : own[q]? = some (own[q]'(by omega)) := List.getElem?_eq_getElem _
    rw [lastI_step hg] at hl
    split at hl
    · omega
    · by_cases hiq : i = q
      · subst hiq
        rw [ho] at hg
        injection hg with hg
        rw [hg]
        assumption
      · exact lastI_nin q (by omega) hl i o (by omega) ho
theorem lastI_new {n : Int} (h : lastI n own own.length < 0) : ∀ o ∈ own, o.K = 0 → o.N ≠ n := by
  intro o ho hk hn
  obtain ⟨i, hi, rfl⟩ := List.getElem_of_mem ho
  exact lastI_nin _ (Nat.le_refl _) h i _ hi (List.getElem?_eq_getElem hi) ⟨hk, hn⟩
theorem alike_one (v u : List UInt8) : alikeA [(aT, v)] [(aT, u)] = decide (v = u) := by
  simp [alikeA, hitA, getAt, eq_comm]
theorem RelE.same {o : StM} {f : FormM} (h : RelE o f) (hK : o.K = 0) (nm v : List UInt8) : sameF nm [(aT, v)] f = (decide (o.name = nm) && decide (o.val = v)) := by
  obtain ⟨_, _, _, h3, h4⟩ := h.zero hK
  rw [sameF, h3, h4, alike_one]
theorem goS_bound (p : FormM → Bool) (fs : List FormM) : ∀ (i : Nat) (s : Int × Nat), (s.2 = 0 ∨ ∃ j : Nat, s.1 = j ∧ j < fs.length) → i ≤ fs.length → ((goS p fs i s).2 = 0 ∨ ∃ j : Nat, (goS p fs i s).1 = j ∧ j < fs.length)
  | 0, s, h, _ => h
  | i + 1, s, h, hi => by
    rw [goS]
    split
    · exact h
    · split
      · exact h
      · refine goS_bound p fs i _ ?_ (by omega)
        split
        · exact .inr ⟨i, rfl, by omega⟩
        · exact h
def cutO (own : List StM) (r : Int × Nat) : List StM := if 3 ≤ r.2 then cutJ own r.1.toNat else own
theorem Rel.addS (h : Rel own fs) {x : StM} {f : FormM} (hx : RelE x f) (hn : x.K = 0 → ∀ o ∈ own, o.K = 0 → o.N ≠ x.N) : Rel (cutO own (goS (sameF f.name f.A) fs fs.length (-1, 0)) ++ [x]) (formAdd fs f) := by
  rw [formAdd]
  have hb := goS_bound (sameF f.name f.A) fs fs.length (-1, 0) (.inl rfl) (Nat.le_refl _)
  generalize goS (sameF f.name f.A) fs fs.length (-1, 0) = r at hb
  rw [cutO, cutS]
  split
  · obtain ⟨j, hj, hjl⟩ : ∃ j : Nat, r.1 = j ∧ j < fs.length := by rcases hb with h | h; omega; exact h
    rw [hj, Int.toNat_natCast]
    refine (h.cut j (by rw [h.len]; exact hjl)).add hx fun a o ho => hn a o ?_
    rcases List.mem_append.1 ho with h | h
    · exact List.mem_of_mem_take h
    · exact List.mem_of_mem_drop h
  · exact h.add hx hn
end
end Go.Proofs.YtbijlkbfndkdcaaDoorSep
