/- Own work: the operations on memory as laws over what is owned (XSep): append of a slice, of a text, of new elements; a cut; a conversion to a text. No program in it. -/
import Derived.Test.YtbijlkbfndkdcaaDoorSep
import Derived.Laws.AppendOwnNone
import Derived.ArgAppend
namespace Go.Proofs.YtbijlkbfndkdcaaDoorSep
open Go.RowKit Go.Lib

section
variable {P : Program} {W0 w : World} {R X : HP} {e e' sz n m : Nat} {v vx : Value} {cs news : List Value}
/-- 'append(v, vx...)': v is owned; vx is read. -/
theorem run_append_sl (t ty : TypeId) (z : Value) (bytes : Nat) (ht : P.underlying t = some (.slice e)) (hinfo : (P.info? e).map (fun i => (i.zero, i.size, i.bytes)) = some (some z, sz, bytes)) (hzs : z.cells.size = sz) (hsz : 0 < sz)
    (H : Own W0 w (R * Row e sz v n cs)) (hx : Sl w vx sz m news) (h1 : ∀ u ∈ news, u.oneCell' = true) (h63 : n + m ≤ maxLen) (hb : (n + m) * bytes ≤ 140737488355328) :
    ∃ v' w', (Builtin.append_ #[t, t] ty #[v, vx]).run P w = .ok v' w' ∧ Own W0 w' (R * Row e sz v' (n + m) (cs ++ news)) ∧ w.heap.size ≤ w'.heap.size ∧ w.grownBy w' v.ownBlock := by
  obtain ⟨i, hi, hzz⟩ := Option.map_eq_some_iff.1 hinfo
  simp only [Prod.mk.injEq] at hzz
  obtain ⟨hz0, hz1, hz2⟩ := hzz
  obtain ⟨hl, A, c, rfl, h2, h3, h4, hc⟩ := hx
  rcases H.split with HB | ⟨⟨rfl, rfl, g, off, rfl⟩, HZ⟩
  rotate_left
  · rw [Nat.zero_add] at h63 hb ⊢
    rw [List.nil_append]
    have hkeep : w.grownBy w (Value.slice (some ⟨g, off, none⟩) 0 0).ownBlock := ⟨rfl, rfl, rfl, Nat.le_refl _, fun _ _ _ => rfl⟩
    rcases Nat.eq_zero_or_pos m with h0 | h0
    · subst h0
      have hn : news = [] := List.eq_nil_of_length_eq_zero (by simpa using hl)
      subst hn
      refine ⟨.slice (some ⟨g, off, none⟩) 0 0, w, ?_, HZ.zero _ _ _ _, Nat.le_refl _, hkeep⟩
      cases A with
      | none => simp [Builtin.append_, run_underlying ht, sizeOf, typeInfo, hi, Builtin.lenOf, Builtin.firstCells, loadCells, storeCells]
      | some ad =>
        have := run_append_room_cells (P := P) w t ty e i ht hi g off 0 0 ad 0 c [] (by simp) (fun j u hj => by simp at hj) (fun u hu => by simp at hu) (Nat.le_refl _) (fun j hj => by simp at hj) (fun j hj => by simp at hj)
        simpa [World.setCells] using this
    · obtain ⟨ad, rfl, hcell⟩ := hc h0
      obtain ⟨v', w', hrun, hw', hg⟩ := run_append_arg_grows (P := P) w t ty e i z sz bytes ht hi hz0 hz1 hz2 hzs hsz ⟨g, off, none⟩ 0 0 [] (by simp) (fun j u hj => by simp at hj) ad m c news hl hcell (by omega) (by omega) (by rw [Nat.zero_add]; exact hb)
      rw [Nat.zero_add, List.nil_append] at hw'
      refine ⟨v', w', hrun, (HZ.nilB e sz).row_step hg hw' (fun k hk => .inr (hw'.lt k hk).1), hg.size, hg.os, hg.tape, hg.output, hg.size, fun k hk _ => hg.block k hk (by simp)⟩
  have hr := HB.row
  have fin : ∀ v' w', w'.ownsRow 0 e sz v' (n + m) (cs ++ news) → w.grownBy w' v.ownBlock → (v'.ownBlock = v.ownBlock ∨ v'.ownBlock = some w.heap.size) → Own W0 w' (R * Row e sz v' (n + m) (cs ++ news)) := fun v' w' hw' hg hat =>
    HB.row_step hg hw' (fun k hk => hat.elim (fun h => .inl (h ▸ hk)) (fun h => .inr (by rw [h] at hk; injection hk with hk; omega)))
  cases A with
  | some ad =>
    have hcell : ∀ j u, news[j]? = some u → w.cell? (ad.add j) = some u := by
      rcases Nat.eq_zero_or_pos m with h0 | h0
      · subst h0
        have : news = [] := List.eq_nil_of_length_eq_zero (by simpa using hl)
        subst this
        exact fun j u hj => by simp at hj
      · obtain ⟨ad', hA, hcell⟩ := hc h0
        injection hA with hA
        subst hA
        exact hcell
    obtain ⟨v', w', hrun, hw', hg, _, hat⟩ := run_append_own_at (P := P) w 0 t ty e i z sz bytes ht hi hz0 hz1 hz2 hzs hsz v n cs hr ad m c news hl hcell h1 h63 hb (Nat.zero_le _)
    exact ⟨v', w', hrun, fin v' w' hw' hg hat, hg.size, hg⟩
  | none =>
    have h0 : m = 0 := by
      rcases Nat.eq_zero_or_pos m with h0 | h0
      · exact h0
      · obtain ⟨_, hA, _⟩ := hc h0
        cases hA
    subst h0
    obtain rfl : c = 0 := h4 rfl
    have hn : news = [] := List.eq_nil_of_length_eq_zero (by simpa using hl)
    subst hn
    refine ⟨v, w, run_append_owned_none (P := P) (w := w) 0 t ty e i sz ht hi v n cs hr, ?_, Nat.le_refl _, ⟨rfl, rfl, rfl, Nat.le_refl _, fun _ _ _ => rfl⟩⟩
    rw [List.append_nil, Nat.add_zero]
    exact HB.ofB
/-- 'append(v, s...)', s a text. -/
theorem run_append_str (t u ty : TypeId) (ht : P.underlying t = some (.slice e)) (hu : P.underlying u = some .string) (hinfo : (P.info? e).map (fun i => (i.zero, i.size, i.bytes)) = some (some (.int .u8 0), 1, 1))
    (H : Own W0 w (R * Row e 1 v n cs)) (s : ByteArray) (hb : n + s.size ≤ 140737488355328) :
    ∃ v' w', (Builtin.append_ #[t, u] ty #[v, .string s]).run P w = .ok v' w' ∧ Own W0 w' (R * Row e 1 v' (n + s.size) (cs ++ strCells s)) ∧ w.heap.size ≤ w'.heap.size ∧ w.grownBy w' v.ownBlock := by
  obtain ⟨i, hi, hzz⟩ := Option.map_eq_some_iff.1 hinfo
  simp only [Prod.mk.injEq] at hzz
  obtain ⟨hz0, hz1, hz2⟩ := hzz
  have h63 : n + s.size ≤ maxLen := by simp only [maxLen]; omega
  have hxl : cs.length = n := by
    rcases H.split with h | ⟨⟨rfl, rfl, _⟩, _⟩
    · simpa using h.row.1
    · rfl
  have hlen : (cs ++ strCells s).length = (n + s.size) * 1 := by rw [List.length_append, hxl, strCells_length, Nat.mul_one]
  have grown : ∀ (old : Nat), old < n + s.size → ∃ W1, W1 = (w.drew.alloc (.cells (cs.toArray ++ (strCells s).toArray ++ Builtin.zeroCells (Value.int .u8 0).cells (grownCap w (n + s.size) old e - (n + s.size))) e)) ∧
      Own W0 W1 (R * Row e 1 (.slice (some ⟨w.heap.size, 0, none⟩) (n + s.size) (grownCap w (n + s.size) old e)) (n + s.size) (cs ++ strCells s)) ∧ w.heap.size ≤ W1.heap.size ∧ w.grownBy W1 v.ownBlock := by
    intro old ho
    have hge := grownCap_ge w (n + s.size) old e
    have hcm : grownCap w (n + s.size) old e ≤ maxLen := grownCap_le_maxLen w (n + s.size) old e h63
    refine ⟨_, rfl, ?_, by simp, rfl, rfl, rfl, by simp, fun k hk _ => heap_alloc_old w.drew _ hk⟩
    have h1 := (H.drop.drew.alloc (.cells (cs.toArray ++ (strCells s).toArray ++ Builtin.zeroCells (Value.int .u8 0).cells (grownCap w (n + s.size) old e - (n + s.size))) e)).made (sz := 1) (n + s.size) hge hcm (by
      have hz1 : (Value.int IntKind.u8 0).cells.size = 1 := rfl
      simp only [Array.size_append, List.size_toArray, size_zeroCells, hz1, hxl, strCells_length]
      omega)
    have e1 : List.take ((n + s.size) * 1) (cs.toArray ++ (strCells s).toArray ++ Builtin.zeroCells (Value.int .u8 0).cells (grownCap w (n + s.size) old e - (n + s.size))).toList = cs ++ strCells s := by
      simp only [Array.toList_append, List.append_assoc]
      rw [← List.append_assoc, ← hlen]
      exact List.take_left
    rw [e1] at h1
    exact h1
  rcases H.split with HB | ⟨⟨rfl, rfl, g, off, rfl⟩, HZ⟩
  rotate_left
  · by_cases hm : s.size = 0
    · have hn : strCells s = [] := List.eq_nil_of_length_eq_zero (by rw [strCells_length]; exact hm)
      refine ⟨.slice (some ⟨g, off, none⟩) 0 0, w, ?_, by rw [hm, hn]; exact HZ.zero _ _ _ _, Nat.le_refl _, ⟨rfl, rfl, rfl, Nat.le_refl _, fun _ _ _ => rfl⟩⟩
      have hf := run_firstCells_string (P := P) w 1 s
      rw [hm, hn] at hf
      simp [Builtin.append_, run_underlying ht, run_underlying hu, sizeOf, typeInfo, hi, hz1, Builtin.lenOf, hm, hf, storeCells]
    · have hr := run_append_grow_string (P := P) w t u ty e i (.int .u8 0) ht hu hi hz0 ⟨g, off, none⟩ 0 0 [] (by simp) (fun j u hj => by simp at hj) s (by omega) (by simp only [maxLen] at h63; omega) (by rw [hz2]; exact growslice_fits (by omega) (by omega))
      obtain ⟨W1, rfl, h2, h3, h4⟩ := grown 0 (by omega)
      exact ⟨_, _, hr, h2, h3, h4⟩
  have hr := HB.row
  rcases hr.2 with ⟨rfl, rfl⟩ | ⟨g, cap, cur, rfl, _, hg, hnc, hcm, hcs, htake⟩
  · have hx : cs = [] := List.eq_nil_of_length_eq_zero hxl
    subst hx
    by_cases hm : s.size = 0
    · have hn : strCells s = [] := List.eq_nil_of_length_eq_zero (by rw [strCells_length]; exact hm)
      refine ⟨.slice none 0 0, w, ?_, by rw [hm, hn]; exact HB.ofB, Nat.le_refl _, ⟨rfl, rfl, rfl, Nat.le_refl _, fun _ _ _ => rfl⟩⟩
      have hf := run_firstCells_string (P := P) w 1 s
      rw [hm] at hf
      simp [Builtin.append_, run_underlying ht, run_underlying hu, sizeOf, typeInfo, hi, hz1, Builtin.lenOf, hm, hf]
    · have hr := run_append_nil_string (P := P) w t u ty e i (.int .u8 0) ht hu hi hz0 s (by omega) (by simp only [maxLen] at h63; omega) (by rw [hz2]; omega)
      obtain ⟨W1, rfl, h2, h3, h4⟩ := grown 0 (by omega)
      simp only [Nat.zero_add, List.nil_append, Array.empty_append] at h2 h3 h4 ⊢
      have e1 : (s.data.map fun b => Value.int .u8 b.toNat) = (strCells s).toArray := by
        apply Array.ext'
        simp [strCells]
      rw [e1] at hr
      exact ⟨_, _, hr, h2, h3, h4⟩
  · by_cases hroom : n + s.size ≤ cap
    · have hcs' : cur.size = cap := by simpa using hcs
      have hr2 := run_append_room_string (P := P) w t u ty e i ht hu hi hz1 g n cap cur hg s hroom (by omega)
      obtain ⟨v', w', hrun, hw', hg2, _⟩ := run_append_own_string (P := P) w 0 t u ty e i ht hu hi hz0 hz1 hz2 (.slice (some ⟨g, 0, none⟩) n cap) n cs hr s h63 hb (Nat.zero_le _)
      rw [hr2] at hrun
      injection hrun with e1 e2
      subst e1 e2
      exact ⟨_, _, hr2, HB.row_step hg2 hw' (fun k hk => .inl (by simpa [Value.ownBlock] using hk)), hg2.size, hg2⟩
    · have holds : ∀ j u, cs[j]? = some u → w.cell? ((⟨g, 0, none⟩ : Addr).add j) = some u := hr.cells (g := g) rfl
      have hr := run_append_grow_string (P := P) w t u ty e i (.int .u8 0) ht hu hi hz0 ⟨g, 0, none⟩ n cap cs (by rw [hz1]; simpa using hxl) holds s (by omega) (by simp only [maxLen] at h63; omega) (by rw [hz2]; exact growslice_fits (by omega) (by omega))
      obtain ⟨W1, rfl, h2, h3, h4⟩ := grown cap (by omega)
      exact ⟨_, _, hr, h2, h3, h4⟩
section
variable {ops : Array Oper} {rest : List Oper} {o : Oper} {a : Act} {Q : Exit → Act → World → Prop}
theorem own_append (H0 : Own W0 w X) [hF : FocRow X v e sz n cs R] (hgd : o.guard = none) (s x : Operand) (t : TypeId) (z : Value) (bytes : Nat) (m : Nat) (news : List Value)
    (ho : o.op = .call { callee := .builtin .append, args := #[s, x], argTypes := #[t, t] }) (ht : P.underlying t = some (.slice e))
    (hinfo : (P.info? e).map (fun i => (i.zero, i.size, i.bytes)) = some (some z, sz, bytes)) (hzs : z.cells.size = sz) (hsz : 0 < sz)
    (hs : a.eval s = v) (hx0 : a.eval x = vx) (hx : Sl w vx sz m news) (h1 : ∀ u ∈ news, u.oneCell' = true) (h63 : n + m ≤ maxLen) (hb : (n + m) * bytes ≤ 140737488355328)
    (h : ∀ v' w', Own W0 w' (R * Row e sz v' (n + m) (cs ++ news)) → w.heap.size ≤ w'.heap.size → w.grownBy w' v.ownBlock → wpList P ops Q rest (a.put o.dst v') w') : wpList P ops Q (o :: rest) a w := by
  refine wpList_plain hgd fun K hK => ?_
  obtain ⟨v', w', hr, h2, h3, h4⟩ := run_append_sl t o.type z bytes ht hinfo hzs hsz (H0.focR v) hx h1 h63 hb
  unfold Oper.wp execOp
  simp only [ho, resolve, invoke, builtin, Sem.run_bind, Sem.run_pure, Result.andThen_ok, List.map_toArray, List.map_cons, List.map_nil, hs, hx0, hr]
  exact hK _ _ (h v' w' h2 h3 h4)
theorem own_append_str (H0 : Own W0 w X) [hF : FocRow X v e 1 n cs R] (hgd : o.guard = none) (sl x : Operand) (t u : TypeId) (s : ByteArray)
    (ho : o.op = .call { callee := .builtin .append, args := #[sl, x], argTypes := #[t, u] }) (ht : P.underlying t = some (.slice e)) (hu : P.underlying u = some .string)
    (hinfo : (P.info? e).map (fun i => (i.zero, i.size, i.bytes)) = some (some (.int .u8 0), 1, 1))
    (hs : a.eval sl = v) (hx0 : a.eval x = .string s) (hb : n + s.size ≤ 140737488355328)
    (h : ∀ v' w', Own W0 w' (R * Row e 1 v' (n + s.size) (cs ++ strCells s)) → w.heap.size ≤ w'.heap.size → w.grownBy w' v.ownBlock → wpList P ops Q rest (a.put o.dst v') w') : wpList P ops Q (o :: rest) a w := by
  refine wpList_plain hgd fun K hK => ?_
  obtain ⟨v', w', hr, h2, h3, h4⟩ := run_append_str t u o.type ht hu hinfo (H0.focR v) s hb
  unfold Oper.wp execOp
  simp only [ho, resolve, invoke, builtin, Sem.run_bind, Sem.run_pure, Result.andThen_ok, List.map_toArray, List.map_cons, List.map_nil, hs, hx0, hr]
  exact hK _ _ (h v' w' h2 h3 h4)
end
/-! The same as one step of a region that draws its order. -/
section
variable {ops : Array Oper} {o : Oper} {a : Act} {K : Act → World → Prop} {Q : Exit → Act → World → Prop} {E : Prop}
theorem step_own_append (H0 : Own W0 w X) [hF : FocRow X v e sz n cs R] (hw : Region.wanted o (yielded ops a.tmps) = true) (s x : Operand) (t : TypeId) (z : Value) (bytes : Nat) (m : Nat) (news : List Value)
    (ho : o.op = .call { callee := .builtin .append, args := #[s, x], argTypes := #[t, t] }) (ht : P.underlying t = some (.slice e))
    (hinfo : (P.info? e).map (fun i => (i.zero, i.size, i.bytes)) = some (some z, sz, bytes)) (hzs : z.cells.size = sz) (hsz : 0 < sz)
    (hs : a.eval s = v) (hx0 : a.eval x = vx) (hx : Sl w vx sz m news) (h1 : ∀ u ∈ news, u.oneCell' = true) (h63 : n + m ≤ maxLen) (hb : (n + m) * bytes ≤ 140737488355328)
    (h : ∀ v' w', Own W0 w' (R * Row e sz v' (n + m) (cs ++ news)) → w.heap.size ≤ w'.heap.size → w.grownBy w' v.ownBlock → K (a.put o.dst v') w') :
    if Region.wanted o (yielded ops a.tmps) = true then Oper.wp P o a w K Q else E := by
  rw [if_pos hw]
  obtain ⟨v', w', hr, h2, h3, h4⟩ := run_append_sl t o.type z bytes ht hinfo hzs hsz (H0.focR v) hx h1 h63 hb
  unfold Oper.wp execOp
  simp only [ho, resolve, invoke, builtin, Sem.run_bind, Sem.run_pure, Result.andThen_ok, List.map_toArray, List.map_cons, List.map_nil, hs, hx0, hr]
  exact h v' w' h2 h3 h4
theorem step_own_append_zero (H0 : Own W0 w R) (hw : Region.wanted o (yielded ops a.tmps) = true) (s x : Operand) (t : TypeId) (z : Value) (bytes : Nat) (g off m : Nat) (news : List Value)
    (ho : o.op = .call { callee := .builtin .append, args := #[s, x], argTypes := #[t, t] }) (ht : P.underlying t = some (.slice e))
    (hinfo : (P.info? e).map (fun i => (i.zero, i.size, i.bytes)) = some (some z, sz, bytes)) (hzs : z.cells.size = sz) (hsz : 0 < sz)
    (hs : a.eval s = .slice (some ⟨g, off, none⟩) 0 0) (hx0 : a.eval x = vx) (hx : Sl w vx sz m news) (h1 : ∀ u ∈ news, u.oneCell' = true) (h63 : m ≤ maxLen) (hb : m * bytes ≤ 140737488355328)
    (h : ∀ v' w', Own W0 w' (R * Row e sz v' m news) → w.heap.size ≤ w'.heap.size → K (a.put o.dst v') w') :
    if Region.wanted o (yielded ops a.tmps) = true then Oper.wp P o a w K Q else E :=
  step_own_append (H0.zero e sz g off) hw s x t z bytes m news ho ht hinfo hzs hsz hs hx0 hx h1 (by omega) (by rw [Nat.zero_add]; exact hb) (fun v' w' h2 h3 _ => h v' w' (by rw [Nat.zero_add, List.nil_append] at h2; exact h2) h3)
end
/-- The box of what a variadic call hands over, as a slice. -/
theorem sl_box (w : World) (cells : Array Value) (e sz m : Nat) (hc : cells.size = m * sz) (hm : m ≤ maxLen) : Sl (w.alloc (.cells cells e)) (.slice (some ⟨w.heap.size, 0, none⟩) m m) sz m cells.toList :=
  ⟨by simpa using hc, _, m, rfl, Nat.le_refl _, hm, (fun h => by cases h), fun _ => ⟨_, rfl, fun j u hu => by
    have hadd : (⟨w.heap.size, 0, none⟩ : Addr).add j = ⟨w.heap.size, j, none⟩ := by unfold Addr.add; split <;> simp_all
    rw [hadd, cell_of_row (w.alloc (.cells cells e)) w.heap.size j cells e (0, 0) (heap_alloc_new w _)]
    simpa using hu⟩⟩
theorem Own.box (H : Own W0 w X) (o : Obj) : Own W0 (w.alloc o) X := (H.alloc o).drop
end
end Go.Proofs.YtbijlkbfndkdcaaDoorSep
