/- Own work: files by their names, as lists: what changes make of them. No program in it. -/
import Derived.Test.YtgakacingdlgpaaMapB
namespace Go.Proofs.YtgakacingdlgpaaSep
open Go.RowKit Go.Lib Go.Proofs

abbrev FL := List (List UInt8 × List UInt8)
structure Chg where
  kind : Nat
  name : List UInt8
  dst : List UInt8
  b : List UInt8
def Chg.act (c : Chg) (F : FL) : FL :=
  if c.kind = 0 then setA F c.name ((getA F c.name).getD [] ++ c.b)
  else if c.kind = 1 then delA (setA F c.dst ((getA F c.name).getD [])) c.name
  else delA F c.name
def nowF (F : FL) (ws : List Chg) : FL := ws.foldl (fun F c => c.act F) F
def tot (F : FL) : Nat := (F.map fun p => p.2.length).sum
theorem tot_cons (p : List UInt8 × List UInt8) (F : FL) : tot (p :: F) = p.2.length + tot F := by simp [tot]
theorem get_tot : ∀ (F : FL) (x c : List UInt8), getA F x = some c → c.length ≤ tot F
  | [], _, _, h => by cases h
  | p :: F, x, c, h => by
    rw [getA] at h
    rw [tot_cons]
    split at h
    · injection h with h; subst h; omega
    · have := get_tot F x c h; omega
theorem set_tot : ∀ (F : FL) (x c : List UInt8), tot (setA F x c) + ((getA F x).getD []).length = tot F + c.length
  | [], x, c => by simp [setA, getA, tot]
  | p :: F, x, c => by
    rw [setA, getA]
    split
    · simp only [tot_cons, Option.getD_some]; omega
    · have := set_tot F x c
      simp only [tot_cons]; omega
theorem del_tot : ∀ (F : FL) (x : List UInt8), tot (delA F x) ≤ tot F
  | [], _ => Nat.le_refl _
  | p :: F, x => by
    rw [delA]
    split
    · simp only [tot_cons]; omega
    · have := del_tot F x; simp only [tot_cons]; omega
theorem nowF_snoc (F : FL) (ws : List Chg) (c : Chg) : nowF F (ws ++ [c]) = c.act (nowF F ws) := by simp [nowF]
theorem act_keys {c : Chg} {F : FL} (h : KeysA F) : KeysA (c.act F) := by
  unfold Chg.act
  split
  · exact keysA_set h _ _
  · split
    · exact keysA_del (keysA_set h _ _) _
    · exact keysA_del h _
theorem nowF_keys : ∀ (ws : List Chg) (F : FL), KeysA F → KeysA (nowF F ws)
  | [], _, h => h
  | c :: ws, F, h => nowF_keys ws (c.act F) (act_keys h)
theorem act_len (c : Chg) (F : FL) : (c.act F).length ≤ F.length + 1 := by
  unfold Chg.act
  split
  · exact set_len ..
  · split
    · exact Nat.le_trans (del_len ..) (set_len ..)
    · exact Nat.le_trans (del_len ..) (Nat.le_succ _)
theorem nowF_len : ∀ (ws : List Chg) (F : FL), (nowF F ws).length ≤ F.length + ws.length
  | [], _ => Nat.le_refl _
  | c :: ws, F => by
    have h1 := nowF_len ws (c.act F)
    have h2 := act_len c F
    rw [List.length_cons]
    exact Nat.le_trans h1 (by omega)
/-! ### Values that hold bytes -/
/-- In G a slice's bytes are these. -/
def Cont (G : HP) (v : Value) (c : List UInt8) : Prop := ∀ W0 R, Held W0 (R * G) v 1 c.length (U c)
theorem Cont.more {G X : HP} {v : Value} {c : List UInt8} (h : Cont G v c) : Cont (G * X) v c := by
  intro W0 R w H
  rw [← star_assoc] at H
  exact h W0 R w H.drop
theorem Cont.lift {G X : HP} {v : Value} {c : List UInt8} (h : Cont G v c) : Cont (X * G) v c := by
  intro W0 R w H
  rw [← star_assoc] at H
  exact h W0 (R * X) w H
theorem cont_row {G : HP} {v : Value} {e : Nat} {c : List UInt8} : Cont (G * Row e 1 v c.length (U c)) v c := by
  intro W0 R w H
  rw [← star_assoc] at H
  exact H.sl (by decide)
theorem cont_nil {G : HP} : Cont G (.slice none 0 0) [] := fun _ _ w _ => Sl.nil w 1
def FRel (G : HP) : AL → FL → Prop
  | [], [] => True
  | p :: L, q :: F => p.1 = q.1 ∧ Cont G p.2 q.2 ∧ FRel G L F
  | _, _ => False
theorem FRel.more {G X : HP} : ∀ {L : AL} {F : FL}, FRel G L F → FRel (G * X) L F
  | [], [], _ => trivial
  | _ :: _, _ :: _, ⟨h1, h2, h3⟩ => ⟨h1, h2.more, h3.more⟩
  | [], _ :: _, h => h.elim
  | _ :: _, [], h => h.elim
theorem FRel.len {G : HP} : ∀ {L : AL} {F : FL}, FRel G L F → L.length = F.length
  | [], [], _ => rfl
  | _ :: _, _ :: _, ⟨_, _, h3⟩ => congrArg (· + 1) h3.len
  | [], _ :: _, h => h.elim
  | _ :: _, [], h => h.elim
theorem FRel.get {G : HP} (x : List UInt8) : ∀ {L : AL} {F : FL}, FRel G L F → (getA L x = none ∧ getA F x = none) ∨ ∃ v c, getA L x = some v ∧ getA F x = some c ∧ Cont G v c
  | [], [], _ => .inl ⟨rfl, rfl⟩
  | p :: L, q :: F, ⟨h1, h2, h3⟩ => by
    rw [getA, getA, ← h1]
    by_cases h : p.1 = x
    · rw [if_pos h, if_pos h]
      exact .inr ⟨_, _, rfl, rfl, h2⟩
    · rw [if_neg h, if_neg h]
      exact FRel.get x h3
  | [], _ :: _, h => h.elim
  | _ :: _, [], h => h.elim
theorem FRel.getD {G : HP} {x : List UInt8} {L : AL} {F : FL} (h : FRel G L F) : Cont G ((getA L x).getD (.slice none 0 0)) ((getA F x).getD []) := by
  rcases h.get x with ⟨h1, h2⟩ | ⟨v, c, h1, h2, h3⟩
  · rw [h1, h2]; exact cont_nil
  · rw [h1, h2]; exact h3
theorem FRel.set {G : HP} (x : List UInt8) {v : Value} {c : List UInt8} (hv : Cont G v c) : ∀ {L : AL} {F : FL}, FRel G L F → FRel G (setA L x v) (setA F x c)
  | [], [], _ => ⟨rfl, hv, trivial⟩
  | p :: L, q :: F, ⟨h1, h2, h3⟩ => by
    rw [setA, setA, ← h1]
    by_cases h : p.1 = x
    · rw [if_pos h, if_pos h]
      exact ⟨rfl, hv, h3⟩
    · rw [if_neg h, if_neg h]
      exact ⟨h1, h2, FRel.set x hv h3⟩
  | [], _ :: _, h => h.elim
  | _ :: _, [], h => h.elim
theorem FRel.del {G : HP} (x : List UInt8) : ∀ {L : AL} {F : FL}, FRel G L F → FRel G (delA L x) (delA F x)
  | [], [], _ => trivial
  | p :: L, q :: F, ⟨h1, h2, h3⟩ => by
    rw [delA, delA, ← h1]
    by_cases h : p.1 = x
    · rw [if_pos h, if_pos h]
      exact h3
    · rw [if_neg h, if_neg h]
      exact ⟨h1, h2, FRel.del x h3⟩
  | [], _ :: _, h => h.elim
  | _ :: _, [], h => h.elim
end Go.Proofs.YtgakacingdlgpaaSep
