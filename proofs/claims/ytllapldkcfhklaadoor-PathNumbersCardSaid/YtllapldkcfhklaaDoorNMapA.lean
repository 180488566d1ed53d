/- Own work: a map with texts for keys, as a thing that is owned: the list of its entries, in the order in which they were laid. -/
import Derived.Test.YtllapldkcfhklaaDoorLaw
import Derived.Test.YtllapldkcfhklaaDoorBytes
import Derived.Test.YtllapldkcfhklaaDoorRange
import Derived.Maps.OwnSet
import Derived.Maps.RangeWalk
import Derived.Maps.OwnIn
namespace Go.Proofs.YtllapldkcfhklaaDoorSep
open Go.RowKit Go.Lib Go.Proofs Go.ChangeMaps

abbrev AL := List (Int × Value)
section
variable {β : Type}
def getA : List (Int × β) → Int → Option β
  | [], _ => none
  | p :: r, x => if p.1 = x then some p.2 else getA r x
def setA : List (Int × β) → Int → β → List (Int × β)
  | [], x, v => [(x, v)]
  | p :: r, x, v => if p.1 = x then (x, v) :: r else p :: setA r x v
def delA : List (Int × β) → Int → List (Int × β)
  | [], _ => []
  | p :: r, x => if p.1 = x then r else p :: delA r x
def KeysA (L : List (Int × β)) : Prop := (L.map (·.1)).Nodup
theorem getA_none : ∀ (L : List (Int × β)) (x : Int), getA L x = none ↔ x ∉ L.map (·.1)
  | [], x => by simp [getA]
  | p :: r, x => by
    rw [getA, List.map_cons, List.mem_cons, not_or]
    by_cases h : p.1 = x
    · simp [h]
    · rw [if_neg h, getA_none r x]
      exact ⟨fun h2 => ⟨fun e => h e.symm, h2⟩, fun h2 => h2.2⟩
theorem getA_mem : ∀ (L : List (Int × β)) (x : Int) (v : β), KeysA L → (getA L x = some v ↔ (x, v) ∈ L)
  | [], x, v, _ => by simp [getA]
  | p :: r, x, v, h => by
    unfold KeysA at h
    rw [List.map_cons, List.nodup_cons] at h
    rw [getA, List.mem_cons]
    by_cases hp : p.1 = x
    · rw [if_pos hp]
      constructor
      · intro e; injection e with e; left; rw [← hp, ← e]
      · rintro (e | e)
        · rw [← e]
        · exact absurd (List.mem_map.2 ⟨_, e, hp.symm⟩) h.1
    · rw [if_neg hp, getA_mem r x v h.2]
      constructor
      · exact .inr
      · rintro (e | e)
        · exact absurd (by rw [← e]) hp
        · exact e
theorem getA_set : ∀ (L : List (Int × β)) (x y : Int) (v : β), getA (setA L x v) y = if x = y then some v else getA L y
  | [], x, y, v => by rw [setA, getA]; rfl
  | p :: r, x, y, v => by
    rw [setA]
    by_cases h : p.1 = x
    · rw [if_pos h, getA, getA]
      by_cases h2 : x = y
      · simp [h2]
      · rw [if_neg h2, if_neg h2, if_neg (by rw [h]; exact h2)]
    · rw [if_neg h, getA, getA, getA_set r x y v]
      by_cases h2 : p.1 = y
      · rw [if_pos h2, if_pos h2, if_neg (by rintro rfl; exact h h2)]
      · rw [if_neg h2, if_neg h2]
theorem keys_set : ∀ (L : List (Int × β)) (x : Int) (v : β), (setA L x v).map (·.1) = if x ∈ L.map (·.1) then L.map (·.1) else L.map (·.1) ++ [x]
  | [], x, v => by simp [setA]
  | p :: r, x, v => by
    rw [setA]
    by_cases h : p.1 = x
    · simp [h]
    · rw [if_neg h, List.map_cons, keys_set r x v, List.map_cons]
      have h2 : ¬ x = p.1 := fun e => h e.symm
      by_cases h3 : x ∈ r.map (·.1)
      · rw [if_pos h3, if_pos (List.mem_cons_of_mem _ h3)]
      · rw [if_neg h3, if_neg (by rw [List.mem_cons, not_or]; exact ⟨h2, h3⟩)]
        rfl
theorem keysA_set {L : List (Int × β)} (h : KeysA L) (x : Int) (v : β) : KeysA (setA L x v) := by
  unfold KeysA at *
  rw [keys_set]
  split
  · exact h
  · rename_i hx
    rw [List.nodup_append]
    refine ⟨h, List.pairwise_singleton _ _, ?_⟩
    intro a ha b hb
    rw [List.mem_singleton.1 hb]
    rintro rfl
    exact hx ha
theorem del_sub : ∀ (L : List (Int × β)) (x : Int), (delA L x).Sublist L
  | [], _ => List.Sublist.refl _
  | p :: r, x => by
    rw [delA]
    split
    · exact List.sublist_cons_self ..
    · exact (del_sub r x).cons_cons _
theorem keysA_del {L : List (Int × β)} (h : KeysA L) (x : Int) : KeysA (delA L x) := h.sublist ((del_sub L x).map _)
theorem getA_del : ∀ (L : List (Int × β)) (x y : Int), KeysA L → getA (delA L x) y = if x = y then none else getA L y
  | [], x, y, _ => by simp [delA, getA]
  | p :: r, x, y, h => by
    have h' := h
    unfold KeysA at h
    rw [List.map_cons, List.nodup_cons] at h
    rw [delA]
    by_cases hp : p.1 = x
    · rw [if_pos hp, getA]
      by_cases h2 : x = y
      · rw [if_pos h2, getA_none, ← h2, ← hp]
        exact h.1
      · rw [if_neg h2, if_neg (by rw [hp]; exact h2)]
    · rw [if_neg hp, getA, getA, getA_del r x y h.2]
      by_cases h2 : p.1 = y
      · rw [if_pos h2, if_pos h2, if_neg (by rintro rfl; exact hp h2)]
      · rw [if_neg h2, if_neg h2]
theorem set_len (L : List (Int × β)) (x : Int) (v : β) : (setA L x v).length ≤ L.length + 1 := by
  have := congrArg List.length (keys_set L x v)
  rw [List.length_map] at this
  rw [this]
  split <;> simp
theorem del_len (L : List (Int × β)) (x : Int) : (delA L x).length ≤ L.length := (del_sub L x).length_le
end
/-! ### The block -/
def mkE (t : (Int × Value) × Nat) : MapEntry := { key := .int .i64 t.1.1, val := t.1.2, born := t.2 }
structure MapOk (es : Array MapEntry) (clock : Nat) (T : List ((Int × Value) × Nat)) : Prop where
  eq : es.toList = T.map mkE
  born : (T.map (·.2)).Nodup
  lt : ∀ t ∈ T, t.2 < clock
  keys : KeysA (T.map (·.1))
/-- What the search for a key finds. -/
theorem find_str (x : Int) : ∀ (T : List ((Int × Value) × Nat)) (i : Nat),
    (Instr.findNow (.int .i64) (.int .i64 x) (T.map mkE) i = some none ∧ getA (T.map (·.1)) x = none ∧ (∀ v, setA (T.map (·.1)) x v = T.map (·.1) ++ [(x, v)]) ∧ delA (T.map (·.1)) x = T.map (·.1)) ∨
    ∃ j t, T[j]? = some t ∧ t.1.1 = x ∧ Instr.findNow (.int .i64) (.int .i64 x) (T.map mkE) i = some (some (i + j, t.1.2)) ∧ getA (T.map (·.1)) x = some t.1.2 ∧ (∀ v, setA (T.map (·.1)) x v = (T.map (·.1)).set j (x, v)) ∧ delA (T.map (·.1)) x = (T.map (·.1)).eraseIdx j
  | [], i => .inl ⟨rfl, rfl, fun _ => rfl, rfl⟩
  | t :: T, i => by
    have hs : Instr.sameNow (.int .i64) (.int .i64 x) (mkE t).key = some (decide (t.1.1 = x)) := by
      simp only [mkE, Instr.sameNow]
      congr 1
      rw [if_pos trivial]
      congr 1
      rw [Bool.eq_iff_iff]
      simp only [beq_iff_eq, decide_eq_true_eq]
      exact eq_comm
    by_cases h : t.1.1 = x
    · right
      refine ⟨0, t, rfl, h, ?_, ?_, ?_, ?_⟩
      · rw [List.map_cons, Instr.findNow, hs, decide_eq_true h]; rfl
      · rw [List.map_cons, getA, if_pos h]
      · intro v; rw [List.map_cons, setA, if_pos h]; rfl
      · rw [List.map_cons, delA, if_pos h]; rfl
    · rcases find_str x T (i + 1) with ⟨h1, h2, h3, h4⟩ | ⟨j, t', h0, hx, h1, h2, h3, h4⟩
      · left
        refine ⟨?_, ?_, ?_, ?_⟩
        · rw [List.map_cons, Instr.findNow, hs, decide_eq_false h]; exact h1
        · rw [List.map_cons, getA, if_neg h]; exact h2
        · intro v; rw [List.map_cons, setA, if_neg h, h3 v]; rfl
        · rw [List.map_cons, delA, if_neg h, h4]
      · right
        refine ⟨j + 1, t', h0, hx, ?_, ?_, ?_, ?_⟩
        · rw [List.map_cons, Instr.findNow, hs, decide_eq_false h, show i + (j + 1) = i + 1 + j by omega]; exact h1
        · rw [List.map_cons, getA, if_neg h]; exact h2
        · intro v; rw [List.map_cons, setA, if_neg h, h3 v]; rfl
        · rw [List.map_cons, delA, if_neg h, h4]; rfl
section
variable {P : Program} {w : World} {b t k e : Nat} {es : Array MapEntry} {clock : Nat} {T : List ((Int × Value) × Nat)}
theorem run_check_str (hk : P.underlying k = some (.int .i64)) (em : Bool) (s : Int) (w : World) : (Instr.checkKey em 10000 k (.int .i64 s)).run P w = .ok () w := by
  exact MapKept.run_checkKey hk (k := .int .i64 s) (by simp [MapKept.IsKey]) em 9999
theorem run_find_str (hk : P.underlying k = some (.int .i64)) (x : Int) (es : List MapEntry) {r : Option (Nat × Value)} (h : Instr.findNow (.int .i64) (.int .i64 x) es 0 = some r) (w : World) : (Instr.findKey k (.int .i64 x) es).run P w = .ok r w := by
  simp [Instr.findKey, run_underlying hk, Result.andThen, h]
theorem run_stays_str (s : Int) (w : World) : (Instr.keyThatStays (.int .i64 s) (.int .i64 s)).run P w = .ok (.int .i64 s) w := by
  exact MapKept.run_keyThatStays (d := .int .i64) (k := .int .i64 s) (by simp [MapKept.IsKey])
theorem run_look_str (ht : P.underlying t = some (.map k e)) (hk : P.underlying k = some (.int .i64)) {z : Value} (hz : (zeroValue e).run P w = .ok z w) (hb : w.heap[b]? = some (.map es clock)) (M : MapOk es clock T) (x : Int) (c : Bool) :
    (Instr.lookup t (.map (some b)) (.int .i64 x) c).run P w = .ok (if c then .tuple #[(getA (T.map (·.1)) x).getD z, .bool (getA (T.map (·.1)) x).isSome] else (getA (T.map (·.1)) x).getD z) w := by
  rcases find_str x T 0 with ⟨h1, h2, _⟩ | ⟨j, t', _, _, h1, h2, _⟩
  · rw [← M.eq] at h1
    simp [Instr.lookup, run_underlying ht, MapKept.run_getObj_map hb, run_check_str hk, run_find_str hk x _ h1, hz, Result.andThen, h2]
  · rw [← M.eq] at h1
    simp [Instr.lookup, run_underlying ht, MapKept.run_getObj_map hb, run_check_str hk, run_find_str hk x _ h1, Result.andThen, h2]
theorem run_set_str (ht : P.underlying t = some (.map k e)) (hk : P.underlying k = some (.int .i64)) (hb : w.heap[b]? = some (.map es clock)) (M : MapOk es clock T) (x : Int) (v : Value) :
    ∃ es' clock' T', (Instr.mapUpdate t (.map (some b)) (.int .i64 x) v).run P w = .ok () (setBlock w b (.map es' clock')) ∧ MapOk es' clock' T' ∧ T'.map (·.1) = setA (T.map (·.1)) x v := by
  rcases find_str x T 0 with ⟨h1, h2, h3, _⟩ | ⟨j, t', h0, hx, h1, h2, h3, _⟩
  · have h1' := h1
    rw [← M.eq] at h1
    refine ⟨es.push { key := .int .i64 x, val := v, born := clock }, clock + 1, T ++ [((x, v), clock)], ?_, ⟨?_, ?_, ?_, ?_⟩, ?_⟩
    · simp [Instr.mapUpdate, run_underlying ht, MapKept.run_getObj_map hb, run_check_str hk, run_find_str hk x _ h1, MapKept.run_setObj_map _ hb, Result.andThen, setBlock]
    · rw [Array.toList_push, M.eq, List.map_append]; rfl
    · rw [List.map_append, List.nodup_append]
      refine ⟨M.born, List.pairwise_singleton _ _, ?_⟩
      intro a ha b hb
      obtain ⟨t, ht, rfl⟩ := List.mem_map.1 ha
      have := M.lt t ht
      rw [List.map_singleton, List.mem_singleton] at hb
      omega
    · intro t ht
      rcases List.mem_append.1 ht with h | h
      · have := M.lt t h; omega
      · rw [List.mem_singleton.1 h]; exact Nat.lt_succ_self _
    · rw [List.map_append]
      have := keysA_set M.keys x v
      rwa [h3 v] at this
    · rw [List.map_append, h3 v]; rfl
  · rw [← M.eq] at h1
    rw [Nat.zero_add] at h1
    obtain ⟨hj, hjt⟩ := List.getElem?_eq_some_iff.1 h0
    have hje : es[j]? = some (mkE t') := by
      have : es.toList[j]? = some (mkE t') := by rw [M.eq, List.getElem?_map, h0]; rfl
      simpa using this
    refine ⟨es.modify j fun e => { e with key := .int .i64 x, val := v }, clock, T.set j ((x, v), t'.2), ?_, ⟨?_, ?_, ?_, ?_⟩, ?_⟩
    · have hst := run_stays_str (P := P) x w
      simp [Instr.mapUpdate, run_underlying ht, MapKept.run_getObj_map hb, run_check_str hk, run_find_str hk x _ h1, MapKept.run_setObj_map _ hb, Result.andThen, setBlock, hje, mkE, hx, hst]
    · rw [Array.toList_modify, M.eq, modify_eq_set _ _ _ (mkE t') (by rw [List.getElem?_map, h0]; rfl), List.map_set]
      rfl
    · rw [List.map_set]
      have : (T.map (·.2)).set j t'.2 = T.map (·.2) := by
        rw [← hjt]
        have hj' : j < (T.map (·.2)).length := by rw [List.length_map]; exact hj
        rw [show T[j].2 = (T.map (·.2))[j] by rw [List.getElem_map]]
        exact List.set_getElem_self hj'
      rw [this]
      exact M.born
    · intro t ht
      rcases List.mem_or_eq_of_mem_set ht with h | h
      · exact M.lt t h
      · rw [h]; exact M.lt t' (List.mem_of_getElem? h0)
    · rw [List.map_set]
      have := keysA_set M.keys x v
      rwa [h3 v] at this
    · rw [List.map_set, h3 v]
theorem run_del_str {ty : TypeId} (ht : P.underlying t = some (.map k e)) (hk : P.underlying k = some (.int .i64)) (hb : w.heap[b]? = some (.map es clock)) (M : MapOk es clock T) (x : Int) :
    ∃ es' T', (Builtin.delete_ #[t, k] ty #[.map (some b), .int .i64 x]).run P w = .ok (.tuple #[]) (setBlock w b (.map es' clock)) ∧ MapOk es' clock T' ∧ T'.map (·.1) = delA (T.map (·.1)) x := by
  rcases find_str x T 0 with ⟨h1, h2, _, h4⟩ | ⟨j, t', h0, hx, h1, h2, _, h4⟩
  · rw [← M.eq] at h1
    refine ⟨es, T, ?_, M, h4.symm⟩
    simp [Builtin.delete_, run_underlying ht, MapKept.run_getObj_map hb, run_check_str hk, run_find_str hk x _ h1, MapKept.run_setObj_map _ hb, Result.andThen, setBlock]
  · rw [← M.eq] at h1
    rw [Nat.zero_add] at h1
    obtain ⟨hj, hjt⟩ := List.getElem?_eq_some_iff.1 h0
    have hjs : j < es.size := by
      have := congrArg List.length M.eq
      rw [List.length_map, Array.length_toList] at this
      omega
    have hsub : (es.eraseIdxIfInBounds j).toList = es.toList.eraseIdx j := by
      unfold Array.eraseIdxIfInBounds
      rw [dif_pos hjs]
      simp
    refine ⟨es.eraseIdxIfInBounds j, T.eraseIdx j, ?_, ⟨?_, ?_, ?_, ?_⟩, ?_⟩
    · simp [Builtin.delete_, run_underlying ht, MapKept.run_getObj_map hb, run_check_str hk, run_find_str hk x _ h1, MapKept.run_setObj_map _ hb, Result.andThen, setBlock]
    · rw [hsub, M.eq]; exact (map_eraseIdx _ _ _).symm
    · exact M.born.sublist ((List.eraseIdx_sublist _ _).map _)
    · exact fun t ht => M.lt t ((List.eraseIdx_sublist _ _).subset ht)
    · exact M.keys.sublist (((List.eraseIdx_sublist _ _).map _).map _)
    · rw [h4]; exact map_eraseIdx _ _ _
end
end Go.Proofs.YtllapldkcfhklaaDoorSep
