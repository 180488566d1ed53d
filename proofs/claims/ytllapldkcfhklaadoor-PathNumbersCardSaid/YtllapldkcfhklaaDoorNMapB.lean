/- Own work: maps that are owned: the laws at the operations. -/
import Derived.Test.YtllapldkcfhklaaDoorNMapA
namespace Go.Proofs.YtllapldkcfhklaaDoorSep
open Go.RowKit Go.Lib Go.Proofs Go.ChangeMaps

theorem inj_of_nodup {α β : Type} (f : α → β) : ∀ l : List α, (l.map f).Nodup → ∀ a ∈ l, ∀ b ∈ l, f a = f b → a = b
  | [], _, a, ha, _, _, _ => absurd ha (List.not_mem_nil)
  | c :: l, h, a, ha, b, hb, he => by
    rw [List.map_cons, List.nodup_cons] at h
    rcases List.mem_cons.1 ha with ea | ha2
    · rcases List.mem_cons.1 hb with eb | hb2
      · rw [ea, eb]
      · exact absurd (List.mem_map.2 ⟨b, hb2, by rw [← he, ea]⟩) h.1
    · rcases List.mem_cons.1 hb with eb | hb2
      · exact absurd (List.mem_map.2 ⟨a, ha2, by rw [he, eb]⟩) h.1
      · exact inj_of_nodup f l h.2 a ha2 b hb2 he
theorem len_of_subset {α : Type} : ∀ (l m : List α), l.Nodup → l ⊆ m → l.length ≤ m.length
  | [], _, _, _ => Nat.zero_le _
  | a :: l, m, h, hs => by
    rw [List.nodup_cons] at h
    obtain ⟨s, u, rfl⟩ := List.append_of_mem (hs (List.mem_cons_self ..))
    have := len_of_subset l (s ++ u) h.2 (by
      intro x hx
      have hx2 := hs (List.mem_cons_of_mem _ hx)
      rcases List.mem_append.1 hx2 with h2 | h2
      · exact List.mem_append.2 (.inl h2)
      · rcases List.mem_cons.1 h2 with rfl | h2
        · exact absurd hx h.1
        · exact List.mem_append.2 (.inr h2))
    simp only [List.length_append, List.length_cons] at this ⊢
    omega
/-- Block b is a map of these entries. -/
def MapH (b : Nat) (L : AL) : HP := fun h => ∃ es clock T, MapOk es clock T ∧ T.map (·.1) = L ∧ Blk b (.map es clock) h
/-- .. and block r goes round it: D is what it has handed out. -/
def RngH (b r : Nat) (L D : AL) : HP := fun h => ∃ es clock T S seen, MapOk es clock T ∧ T.map (·.1) = L ∧ S.map (·.1) = D ∧ S ⊆ T ∧ (S.map (·.2)).Nodup ∧ seen.toList = S.map (·.2) ∧ (Blk b (.map es clock) * Blk r (.mapIter (some b) clock seen clock)) h
section
variable {W0 w : World} {R : HP} {b r : Nat} {L D : AL}
theorem Own.map (H : Own W0 w (R * MapH b L)) : ∃ es clock T, MapOk es clock T ∧ T.map (·.1) = L ∧ Own W0 w (R * Blk b (.map es clock)) := by
  obtain ⟨q1, q2, q3, h, ⟨a, c, hd, rfl, ha, ⟨es, clock, T, hm, hl, hb⟩⟩, hs⟩ := H
  exact ⟨es, clock, T, hm, hl, q1, q2, q3, _, ⟨a, c, hd, rfl, ha, hb⟩, hs⟩
theorem Own.toMap {es : Array MapEntry} {clock : Nat} {T : List ((Int × Value) × Nat)} (hm : MapOk es clock T) (hl : T.map (·.1) = L) (H : Own W0 w (R * Blk b (.map es clock))) : Own W0 w (R * MapH b L) :=
  H.mono fun _ ⟨a, c, hd, he, ha, hb⟩ => ⟨a, c, hd, he, ha, ⟨es, clock, T, hm, hl, hb⟩⟩
theorem Own.mapKeys (H : Own W0 w (R * MapH b L)) : KeysA L := by
  obtain ⟨es, clock, T, hm, rfl, H2⟩ := H.map
  clear H2
  exact hm.keys
theorem Own.mapNil (H : Own W0 w (R * Blk b (.map #[] 0))) : Own W0 w (R * MapH b []) :=
  H.toMap (T := []) ⟨rfl, List.Pairwise.nil, fun _ h => absurd h (List.not_mem_nil), List.Pairwise.nil⟩ rfl
theorem Own.setB {o o' : Obj} (H : Own W0 w (R * Blk b o)) : Own W0 (setBlock w b o') (R * Blk b o') :=
  H.put (by have := H.lt; simp [setBlock, this]) (fun k hk _ => by simp [setBlock, Ne.symm hk]) rfl rfl rfl
variable {P : Program} {t k e : Nat}
theorem Own.look (H : Own W0 w (R * MapH b L)) (ht : P.underlying t = some (.map k e)) (hk : P.underlying k = some (.int .i64)) {z : Value} (hz : (zeroValue e).run P w = .ok z w) (x : Int) (c : Bool) :
    (Instr.lookup t (.map (some b)) (.int .i64 x) c).run P w = .ok (if c then .tuple #[(getA L x).getD z, .bool (getA L x).isSome] else (getA L x).getD z) w := by
  obtain ⟨es, clock, T, hm, rfl, H2⟩ := H.map
  exact run_look_str ht hk hz H2.blk hm x c
theorem Own.mapSet (H : Own W0 w (R * MapH b L)) (ht : P.underlying t = some (.map k e)) (hk : P.underlying k = some (.int .i64)) (x : Int) (v : Value) :
    ∃ w', (Instr.mapUpdate t (.map (some b)) (.int .i64 x) v).run P w = .ok () w' ∧ Own W0 w' (R * MapH b (setA L x v)) ∧ w'.heap.size = w.heap.size := by
  obtain ⟨es, clock, T, hm, rfl, H2⟩ := H.map
  obtain ⟨es', clock', T', hr, hm', hl⟩ := run_set_str ht hk H2.blk hm x v
  exact ⟨_, hr, (H2.setB).toMap hm' hl, by simp [setBlock]⟩
theorem Own.mapDel {ty : TypeId} (H : Own W0 w (R * MapH b L)) (ht : P.underlying t = some (.map k e)) (hk : P.underlying k = some (.int .i64)) (x : Int) :
    ∃ w', (Builtin.delete_ #[t, k] ty #[.map (some b), .int .i64 x]).run P w = .ok (.tuple #[]) w' ∧ Own W0 w' (R * MapH b (delA L x)) ∧ w'.heap.size = w.heap.size := by
  obtain ⟨es, clock, T, hm, rfl, H2⟩ := H.map
  obtain ⟨es', T', hr, hm', hl⟩ := run_del_str (ty := ty) ht hk H2.blk hm x
  exact ⟨_, hr, (H2.setB).toMap hm' hl, by simp [setBlock]⟩
theorem Own.mapLen {ty : TypeId} (H : Own W0 w (R * MapH b L)) (ht : P.underlying t = some (.map k e)) : (Builtin.len_ #[t] ty #[.map (some b)]).run P w = .ok (.int .i64 L.length) w := by
  obtain ⟨es, clock, T, hm, rfl, H2⟩ := H.map
  have hs : es.size = T.length := by
    have := congrArg List.length hm.eq
    rwa [List.length_map, Array.length_toList] at this
  simp [Builtin.len_, run_underlying ht, MapKept.run_getObj_map H2.blk, Result.andThen, hs, goInt]
theorem Own.rng (H : Own W0 w (R * RngH b r L D)) : ∃ es clock T S seen, MapOk es clock T ∧ T.map (·.1) = L ∧ S.map (·.1) = D ∧ S ⊆ T ∧ (S.map (·.2)).Nodup ∧ seen.toList = S.map (·.2) ∧ Own W0 w (R * Blk b (.map es clock) * Blk r (.mapIter (some b) clock seen clock)) := by
  obtain ⟨q1, q2, q3, h, ⟨a, c, hd, rfl, ha, ⟨es, clock, T, S, seen, h1, h2, h3, h4, h5, h6, hb⟩⟩, hs⟩ := H
  refine ⟨es, clock, T, S, seen, h1, h2, h3, h4, h5, h6, ?_⟩
  rw [star_assoc]
  exact ⟨q1, q2, q3, _, ⟨a, c, hd, rfl, ha, hb⟩, hs⟩
theorem Own.rngBack (H : Own W0 w (R * RngH b r L D)) : Own W0 w (R * MapH b L) := by
  obtain ⟨es, clock, T, S, seen, h1, h2, _, _, _, _, h⟩ := H.rng
  exact h.drop.toMap h1 h2
theorem Own.mapRange (H : Own W0 w (R * MapH b L)) (ht : P.underlying t = some (.map k e)) :
    ∃ w', (Instr.range t (.map (some b))).run P w = .ok (.pointer (some ⟨w.heap.size, 0, none⟩)) w' ∧ Own W0 w' (R * RngH b w.heap.size L []) ∧ w'.heap.size = w.heap.size + 1 := by
  obtain ⟨es, clock, T, hm, rfl, H2⟩ := H.map
  refine ⟨w.alloc (.mapIter (some b) clock #[] clock), ?_, ?_, by rw [World.size_alloc]⟩
  · simp [Instr.range, run_underlying ht, MapKept.run_getObj_map H2.blk, Result.andThen]
  · refine (H2.alloc (.mapIter (some b) clock #[] clock)).mono ?_
    intro h hh
    rw [star_assoc] at hh
    obtain ⟨a, c, hd, he, ha, hb⟩ := hh
    exact ⟨a, c, hd, he, ha, ⟨es, clock, T, [], #[], hm, rfl, rfl, List.nil_subset _, List.Pairwise.nil, rfl, hb⟩⟩
/-- One step: nothing is left; or some entry that wasn't handed out yet. -/
theorem Own.mapNext (H : Own W0 w (R * RngH b r L D)) (ty : TypeId) :
    (L.length ≤ D.length ∧ (∀ p ∈ L, p ∈ D) ∧ (Instr.next (.pointer (some ⟨r, 0, none⟩)) false ty).run P w = .ok (.tuple #[.bool false]) w) ∨
    ∃ x v w', (x, v) ∈ L ∧ (x, v) ∉ D ∧ (Instr.next (.pointer (some ⟨r, 0, none⟩)) false ty).run P w = .ok (.tuple #[.bool true, .int .i64 x, v]) w' ∧ Own W0 w' (R * RngH b r L (D ++ [(x, v)])) ∧ w'.heap.size = w.heap.size ∧
      (Instr.entry (.pointer (some ⟨r, 0, none⟩))).run P w' = .ok (.tuple #[.int .i64 x, v]) w' := by
  obtain ⟨es, clock, T, S, seen, hm, rfl, rfl, hST, hS, hse, H2⟩ := H.rng
  have hborn : ∀ x ∈ es.toList, x.born < clock := by
    intro x hx
    rw [hm.eq] at hx
    obtain ⟨t, ht, rfl⟩ := List.mem_map.1 hx
    exact hm.lt t ht
  have hinj : ∀ t ∈ T, ∀ s ∈ T, t.2 = s.2 → t = s := inj_of_nodup _ T hm.born
  have hkinj : ∀ t ∈ T, ∀ s ∈ T, t.1.1 = s.1.1 → t = s := by
    have h := hm.keys
    unfold KeysA at h
    rw [List.map_map] at h
    exact inj_of_nodup _ T h
  have hsc : ∀ t ∈ T, (seen.contains t.2 = true ↔ t ∈ S) := by
    intro t ht
    rw [← Array.contains_toList, hse, List.contains_iff_mem]
    constructor
    · intro h
      obtain ⟨s, hs, he⟩ := List.mem_map.1 h
      rw [← hinj s (hST hs) t ht he]
      exact hs
    · exact fun h => List.mem_map.2 ⟨t, h, rfl⟩
  have hb : w.heap[b]? = some (.map es clock) := H2.rot.blk
  have hr := H2.blk
  rcases run_next_at (P := P) w ty r b clock clock seen es clock hr hb hborn (Nat.le_refl _) with ⟨h0, hrun⟩ | ⟨en, hen, w1, hw1, hrun⟩
  · left
    have hall : ∀ t ∈ T, t ∈ S := by
      intro t ht
      by_cases h : t ∈ S
      · exact h
      · exfalso
        have hme : mkE t ∈ leftOf es seen := by
          unfold leftOf
          rw [Array.mem_filter]
          refine ⟨?_, ?_⟩
          · rw [← Array.mem_toList_iff, hm.eq]
            exact List.mem_map.2 ⟨t, ht, rfl⟩
          · have : seen.contains t.2 = false := by
              rw [← Bool.not_eq_true]
              exact fun hc => h ((hsc t ht).1 hc)
            simp only [mkE, this]
            rfl
        rw [Array.eq_empty_of_size_eq_zero h0] at hme
        simp at hme
    refine ⟨?_, ?_, hrun⟩
    · have hTn : T.Nodup := List.Pairwise.of_map (·.2) (fun a b h e => h (by rw [e])) hm.born
      have := len_of_subset T S hTn hall
      simpa using this
    · intro p hp
      obtain ⟨t, ht, rfl⟩ := List.mem_map.1 hp
      exact List.mem_map.2 ⟨t, hall t ht, rfl⟩
  · right
    have hen' : en ∈ es.toList ∧ seen.contains en.born = false := by
      unfold leftOf at hen
      simpa using hen
    obtain ⟨hmem, hns⟩ := hen'
    have hmem2 := hmem
    rw [hm.eq] at hmem
    obtain ⟨t, ht, rfl⟩ := List.mem_map.1 hmem
    have htS : t ∉ S := fun h => by
      have := (hsc t ht).2 h
      rw [show (mkE t).born = t.2 from rfl, this] at hns
      cases hns
    have hH1 : Own W0 w1 (R * Blk b (.map es clock) * Blk r (.mapIter (some b) clock seen clock)) := by
      rcases hw1 with rfl | rfl
      · exact H2
      · exact H2.drew
    have hz1 : w1.heap.size = w.heap.size := by rcases hw1 with rfl | rfl <;> rfl
    have hH3 := hH1.setB (o' := .mapIter (some b) clock (seen.push (mkE t).born) clock)
    refine ⟨t.1.1, t.1.2, _, List.mem_map.2 ⟨t, ht, rfl⟩, ?_, hrun, ?_, by simp [setBlock, hz1], ?_⟩
    · intro hc
      obtain ⟨s, hs, he⟩ := List.mem_map.1 hc
      have := hkinj s (hST hs) t ht (congrArg Prod.fst he)
      subst this
      exact htS hs
    · refine hH3.mono ?_
      intro h hh
      rw [star_assoc] at hh
      obtain ⟨a, c, hd, he, ha, hb⟩ := hh
      refine ⟨a, c, hd, he, ha, ⟨es, clock, T, S ++ [t], seen.push (mkE t).born, hm, rfl, by rw [List.map_append]; rfl, ?_, ?_, ?_, hb⟩⟩
      · intro x hx
        rcases List.mem_append.1 hx with h | h
        · exact hST h
        · rw [List.mem_singleton.1 h]; exact ht
      · rw [List.map_append, List.nodup_append]
        refine ⟨hS, List.pairwise_singleton _ _, ?_⟩
        intro a ha b hb
        rw [List.map_singleton, List.mem_singleton] at hb
        subst hb
        rintro rfl
        obtain ⟨s, hs, he⟩ := List.mem_map.1 ha
        have := hinj s (hST hs) t ht he
        subst this
        exact htS hs
      · rw [Array.toList_push, hse, List.map_append]; rfl
    · refine run_entry_at _ r b clock seen es clock (mkE t) hH3.blk hH3.rot.blk hmem2 ?_
      rw [hm.eq, List.map_map]
      exact hm.born
end
/-! ### At the operations -/
section
variable {W0 w : World} {R Y : HP} {b r : Nat} {L D : AL} {P : Program} {ops : Array Oper} {rest : List Oper} {o : Oper} {a : Act} {Q : Exit → Act → World → Prop}
theorem own_mapSet (hg : o.guard = none) (m x u : Operand) (t : TypeId) (hop : o.op = Op.mapUpdate t m x u) (k e : TypeId) (ht : P.underlying t = some (.map k e)) (hk : P.underlying k = some (.int .i64))
    (hm : a.eval m = .map (some b)) (xs : Int) (hx : a.eval x = .int .i64 xs) (v : Value) (hv : a.eval u = v) (H : Own W0 w (R * MapH b L))
    (hK : ∀ w', Own W0 w' (R * MapH b (setA L xs v)) → w'.heap.size = w.heap.size → wpList P ops Q rest (a.put o.dst undef) w') : wpList P ops Q (o :: rest) a w := by
  refine wpList_plain hg fun K' hK' => ?_
  obtain ⟨w', hr, h1, h2⟩ := H.mapSet ht hk xs v
  unfold Oper.wp
  simp [execOp, hop, hm, hx, hv, hr, Result.andThen]
  exact hK' _ _ (hK w' h1 h2)
theorem step_mapSet {K : Act → World → Prop} {E : Prop} (hw : Region.wanted o (yielded ops a.tmps) = true) (m x u : Operand) (t : TypeId) (hop : o.op = Op.mapUpdate t m x u) (k e : TypeId) (ht : P.underlying t = some (.map k e)) (hk : P.underlying k = some (.int .i64))
    (hm : a.eval m = .map (some b)) (xs : Int) (hx : a.eval x = .int .i64 xs) (v : Value) (hv : a.eval u = v) (H : Own W0 w (R * MapH b L))
    (hK : ∀ w', Own W0 w' (R * MapH b (setA L xs v)) → w'.heap.size = w.heap.size → K (a.put o.dst undef) w') : if Region.wanted o (yielded ops a.tmps) = true then Oper.wp P o a w K Q else E := by
  rw [if_pos hw]
  obtain ⟨w', hr, h1, h2⟩ := H.mapSet ht hk xs v
  unfold Oper.wp
  simp [execOp, hop, hm, hx, hv, hr, Result.andThen]
  exact hK w' h1 h2
theorem own_mapDel (hg : o.guard = none) (m x : Operand) (t k : TypeId) (hop : o.op = Op.call { callee := Callee.builtin Builtin.delete, args := #[m, x], argTypes := #[t, k] }) (e : TypeId) (ht : P.underlying t = some (.map k e)) (hk : P.underlying k = some (.int .i64))
    (hm : a.eval m = .map (some b)) (xs : Int) (hx : a.eval x = .int .i64 xs) (H : Own W0 w (R * MapH b L))
    (hK : ∀ w', Own W0 w' (R * MapH b (delA L xs)) → w'.heap.size = w.heap.size → wpList P ops Q rest (a.put o.dst (.tuple #[])) w') : wpList P ops Q (o :: rest) a w := by
  refine wpList_plain hg fun K' hK' => ?_
  obtain ⟨w', hr, h1, h2⟩ := H.mapDel (ty := o.type) ht hk xs
  unfold Oper.wp
  simp [execOp, hop, resolve, invoke, builtin, hm, hx, hr, Result.andThen]
  exact hK' _ _ (hK w' h1 h2)
theorem own_mapRange (hg : o.guard = none) (m : Operand) (t : TypeId) (hop : o.op = Op.range t m) (k e : TypeId) (ht : P.underlying t = some (.map k e)) (hm : a.eval m = .map (some b)) (H : Own W0 w (R * MapH b L))
    (hK : ∀ w', Own W0 w' (R * RngH b w.heap.size L []) → w'.heap.size = w.heap.size + 1 → wpList P ops Q rest (a.put o.dst (.pointer (some ⟨w.heap.size, 0, none⟩))) w') : wpList P ops Q (o :: rest) a w := by
  refine wpList_plain hg fun K' hK' => ?_
  obtain ⟨w', hr, h1, h2⟩ := H.mapRange ht
  unfold Oper.wp
  simp [execOp, hop, hm, hr, Result.andThen]
  exact hK' _ _ (hK w' h1 h2)
theorem own_mapNext (hg : o.guard = none) (it : Operand) (hop : o.op = Op.next it false) (hit : a.eval it = .pointer (some ⟨r, 0, none⟩)) (H : Own W0 w (R * RngH b r L D))
    (hDone : L.length ≤ D.length → (∀ p ∈ L, p ∈ D) → wpList P ops Q rest (a.put o.dst (.tuple #[.bool false])) w)
    (hMore : ∀ x v w', (x, v) ∈ L → (x, v) ∉ D → Own W0 w' (R * RngH b r L (D ++ [(x, v)])) → w'.heap.size = w.heap.size → (Instr.entry (.pointer (some ⟨r, 0, none⟩))).run P w' = .ok (.tuple #[.int .i64 x, v]) w' → wpList P ops Q rest (a.put o.dst (.tuple #[.bool true, .int .i64 x, v])) w') : wpList P ops Q (o :: rest) a w := by
  refine wpList_plain hg fun K' hK' => ?_
  unfold Oper.wp
  rcases H.mapNext (P := P) o.type with ⟨h0, hl, hrun⟩ | ⟨x, v, w', hl, hd, hrun, hO, hz, hen⟩
  · simp [execOp, hop, hit, hrun, Result.andThen]
    exact hK' _ _ (hDone h0 hl)
  · simp [execOp, hop, hit, hrun, Result.andThen]
    exact hK' _ _ (hMore x v w' hl hd hO hz hen)
end
end Go.Proofs.YtllapldkcfhklaaDoorSep
