/- Own work: 'copy' over what is owned; a row opened as a block; two blocks are not one. No program in it. -/
import Derived.Test.YtbijlkbfndkdcaaDoorBig
import Derived.Laws.IdiomCopy
import Derived.Lib.AppendZerosOnto
import Derived.Lib.Overlaps
import Derived.Laws.Externs
namespace Go.Proofs.YtbijlkbfndkdcaaDoorSep
open Go.RowKit Go.Lib

/-- A row of cells, some of them turned. -/
def setR (cur : Array Value) : Nat → List Value → Array Value
  | _, [] => cur
  | o, v :: r => setR (cur.setIfInBounds o v) (o + 1) r
theorem setR_size : ∀ (vs : List Value) (cur : Array Value) (o : Nat), (setR cur o vs).size = cur.size
  | [], _, _ => rfl
  | v :: r, cur, o => by rw [setR, setR_size r]; simp
theorem setR_list : ∀ (vs : List Value) (cur : Array Value) (o : Nat), o + vs.length ≤ cur.size → (setR cur o vs).toList = cur.toList.take o ++ vs ++ cur.toList.drop (o + vs.length)
  | [], cur, o, _ => by simp [setR]
  | v :: r, cur, o, h => by
    rw [List.length_cons] at h
    rw [setR, setR_list r _ _ (by simp; omega)]
    have h1 : o < cur.toList.length := by rw [Array.length_toList]; omega
    have e1 : (cur.setIfInBounds o v).toList.take (o + 1) = cur.toList.take o ++ [v] := by
      rw [Array.toList_setIfInBounds, List.take_add_one, List.take_set_of_le (Nat.le_refl _), List.getElem?_set_self h1]
      rfl
    have e2 : (cur.setIfInBounds o v).toList.drop (o + 1 + r.length) = cur.toList.drop (o + (v :: r).length) := by
      rw [Array.toList_setIfInBounds, List.drop_set_of_lt (by omega), List.length_cons]
      congr 1
      omega
    rw [e1, e2]
    simp
section
variable {W0 w : World} {P R X : HP} {e n : Nat} {v : Value} {cs : List Value}
theorem Own.setCells {g : Nat} {t : TypeId} : ∀ (vs : List Value) (o : Nat) (w : World) (cur : Array Value), Own W0 w (P * Blk g (.cells cur t)) → Own W0 (w.setCells g o vs) (P * Blk g (.cells (setR cur o vs) t))
  | [], _, _, _, H => H
  | v :: r, o, w, cur, H => by rw [World.setCells, setR]; exact Own.setCells r (o + 1) _ _ (H.set o v)
/-- Two blocks that are owned are not one. -/
theorem Own.ne {g b : Nat} {o o' : Obj} (H : Own W0 w (P * Blk g o * Blk b o')) : g ≠ b := by
  obtain ⟨_, _, _, h, ⟨p, q, hd, rfl, ⟨p1, q1, hd1, rfl, _, hq1⟩, hq⟩, _⟩ := H
  rintro rfl
  have e1 : q = one g o' := hq
  have e2 : q1 = one g o := hq1
  rcases hd g with h | h
  · unfold PH.join at h
    have h0 : p1 g = none := by
      rcases hd1 g with h1 | h1
      · exact h1
      · rw [e2] at h1; simp [one] at h1
    rw [h0, e2] at h
    simp [one] at h
  · rw [e1] at h
    simp [one] at h
/-- A row that has elements, as its block. -/
theorem Own.open1 (H : Own W0 w (P * Row e 1 v n cs)) (hn : 0 < n) : ∃ g cap cur, v = .slice (some ⟨g, 0, none⟩) n cap ∧ Own W0 w (P * Blk g (.cells cur e)) ∧ n ≤ cap ∧ cap ≤ maxLen ∧ cur.size = cap ∧ cur.toList.take n = cs ∧ cs.length = n := by
  rcases H.split with ⟨h1, h2, h3, h, ⟨p, a, hd, rfl, hp, ⟨hl, ha⟩⟩, hs⟩ | ⟨⟨h0, _, _⟩, _⟩
  · rcases ha with ⟨_, h0, _⟩ | ⟨g, cap, cur, hv, ha, h5, h6, h7, h8⟩
    · omega
    · exact ⟨g, cap, cur, hv, ⟨h1, h2, h3, _, ⟨p, a, hd, rfl, hp, ha⟩, hs⟩, h5, h6, by omega, by rw [← h8, Nat.mul_one], by omega⟩
  · omega
/-- A block, as a row. -/
theorem Own.close1 {g cap : Nat} {cur : Array Value} (H : Own W0 w (P * Blk g (.cells cur e))) (n : Nat) (h1 : n ≤ cap) (h2 : cap ≤ maxLen) (h3 : cur.size = cap) (cs : List Value) (h4 : cur.toList.take n = cs) :
    Own W0 w (P * Row e 1 (.slice (some ⟨g, 0, none⟩) n cap) n cs) := by
  have := Own.made (sz := 1) H n h1 h2 (by omega)
  rw [Nat.mul_one, h4] at this
  exact this
end
section
variable {P : Program} {W0 w : World} {R X : HP} {g : Nat} {e : TypeId} {cur : Array Value}
theorem run_copy_own (H0 : Own W0 w X) [hF : FocBlk X g (.cells cur e) R] (dT sT ty elem : TypeId) (o dLen dCap : Nat) (a : Addr) (sLen sCap : Nat) (cs : List Value)
    (hu : P.underlying dT = some (.slice elem)) (hs : (P.info? elem).map (·.size) = some 1) (hn : cs.length = Nat.min sLen dLen)
    (hsrc : ∀ j v, cs[j]? = some v → w.cell? (a.add j) = some v) (hfit : o + cs.length ≤ cur.size) (h1 : ∀ v ∈ cs, v.oneCell' = true) :
    (Builtin.copy_ #[dT, sT] ty #[.slice (some ⟨g, o, none⟩) dLen dCap, .slice (some a) sLen sCap]).run P w = .ok (goInt cs.length) (w.setCells g o cs) ∧ Own W0 (w.setCells g o cs) (R * Blk g (.cells (setR cur o cs) e)) := by
  have H := H0.focB g
  refine ⟨run_copy_cells w dT sT ty elem g o dLen dCap a sLen sCap cs hu hs hn hsrc (fun j hj => ?_) (fun j _ => frz_blk H.blk) h1, Own.setCells cs o w cur H⟩
  rw [cell_of_row w g (o + j) cur e (0, 0) H.blk, Array.getElem?_eq_getElem (by omega)]
  rfl
end
section
variable {P : Program} {ops : Array Oper} {rest : List Oper} {o : Oper} {a : Act} {w : World} {K : Act → World → Prop} {Q : Exit → Act → World → Prop} {E : Prop}
theorem own_copy_eq (hgd : o.guard = none) (d x : Operand) (t t' : TypeId) (ho : o.op = .call { callee := .builtin .copy, args := #[d, x], argTypes := #[t, t'] }) (v u : Value) (hd : a.eval d = v) (hx : a.eval x = u) {v' : Value} {w' : World}
    (hr : (Builtin.copy_ #[t, t'] o.type #[v, u]).run P w = .ok v' w') (h : wpList P ops Q rest (a.put o.dst v') w') : wpList P ops Q (o :: rest) a w := by
  refine wpList_plain hgd fun K hK => ?_
  unfold Oper.wp execOp
  simp only [ho, resolve, invoke, builtin, Sem.run_bind, Sem.run_pure, Result.andThen_ok, List.map_toArray, List.map_cons, List.map_nil, hd, hx, hr]
  exact hK _ _ h
theorem step_copy_eq (hw : Region.wanted o (yielded ops a.tmps) = true) (d x : Operand) (t t' : TypeId) (ho : o.op = .call { callee := .builtin .copy, args := #[d, x], argTypes := #[t, t'] }) (v u : Value) (hd : a.eval d = v) (hx : a.eval x = u) {v' : Value} {w' : World}
    (hr : (Builtin.copy_ #[t, t'] o.type #[v, u]).run P w = .ok v' w') (h : K (a.put o.dst v') w') : if Region.wanted o (yielded ops a.tmps) = true then Oper.wp P o a w K Q else E := by
  rw [if_pos hw]
  unfold Oper.wp execOp
  simp only [ho, resolve, invoke, builtin, Sem.run_bind, Sem.run_pure, Result.andThen_ok, List.map_toArray, List.map_cons, List.map_nil, hd, hx, hr]
  exact h
theorem own_append_at {v vx v' : Value} {w' : World} (hgd : o.guard = none) (s x : Operand) (t u : TypeId)
    (ho : o.op = .call { callee := .builtin .append, args := #[s, x], argTypes := #[t, u] }) (hs : a.eval s = v) (hx : a.eval x = vx) (hr : (Builtin.append_ #[t, u] o.type #[v, vx]).run P w = .ok v' w')
    (h : wpList P ops Q rest (a.put o.dst v') w') : wpList P ops Q (o :: rest) a w := by
  refine wpList_plain hgd fun K hK => ?_
  unfold Oper.wp execOp
  simp only [ho, resolve, invoke, builtin, Sem.run_bind, Sem.run_pure, Result.andThen_ok, List.map_toArray, List.map_cons, List.map_nil, hs, hx, hr]
  exact hK _ _ h
end
def InsEnd (W0 : World) (R : HP) (e n i : Nat) (cs : List Value) (x : Value) (en : Ending) (w' : World) : Prop := ∃ v', en = .returned v' ∧ Own W0 w' (R * Row e 1 v' (n + 1) (cs.take i ++ x :: cs.drop i))
end Go.Proofs.YtbijlkbfndkdcaaDoorSep
