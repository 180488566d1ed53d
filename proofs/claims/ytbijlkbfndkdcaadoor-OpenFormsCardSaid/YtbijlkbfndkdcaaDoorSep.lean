/- Own work: a small logic of separate blocks over the kit's worlds: what a call owns, block by block, and what stays as it was. No program in it. -/
import Derived.WalkKit
import Derived.WalkSpells
import Derived.WalkLawsBesides
import Derived.Handy
import Derived.Maps.AppendAt
import Derived.Laws.BytesArg
import Derived.Laws.BitsAllLaws
import Derived.Lib.ConvBytes
import Derived.Lib.AppendStr
import Derived.Laws.CopyOwn
import Derived.Outline
import Derived.BigQuiet
import Derived.Deep.QuietTactic
import Derived.Deep.LoopGhost
import Derived.Deep.RegionWith
import Derived.Deep.DeepCutAuto
namespace Go.Proofs.YtbijlkbfndkdcaaDoorSep
open Go.RowKit

/-- A fact that the walk's simp doesn't look into. -/
structure Kp (p : Prop) : Prop where mk :: (out : p)
/-- A part of a heap. -/
def PH := Nat → Option Obj
def PH.join (a b : PH) : PH := fun k => match a k with | some o => some o | none => b k
def PH.Apart (a b : PH) : Prop := ∀ k, a k = none ∨ b k = none
/-- What is said of a part of a heap. -/
def HP := PH → Prop
def star (A B : HP) : HP := fun h => ∃ a b : PH, a.Apart b ∧ h = a.join b ∧ A a ∧ B b
instance : Mul HP := ⟨star⟩
theorem star_def (A B : HP) (h : PH) : (A * B) h ↔ ∃ a b : PH, a.Apart b ∧ h = a.join b ∧ A a ∧ B b := Iff.rfl
theorem PH.join_comm {a b : PH} (h : a.Apart b) : a.join b = b.join a := by
  funext k
  unfold PH.join
  rcases h k with h | h <;> rw [h]
  · cases b k <;> rfl
  · cases a k <;> rfl
theorem star_comm (A B : HP) : A * B = B * A := by
  have key : ∀ (A B : HP) h, (A * B) h → (B * A) h := by
    rintro A B h ⟨a, b, hd, rfl, ha, hb⟩
    exact ⟨b, a, fun k => (hd k).symm, PH.join_comm hd, hb, ha⟩
  funext h
  exact propext ⟨key _ _ _, key _ _ _⟩
theorem star_assoc (A B C : HP) : A * B * C = A * (B * C) := by
  have join_assoc : ∀ a b c : PH, (a.join b).join c = a.join (b.join c) := by
    intro a b c
    funext k
    unfold PH.join
    cases a k <;> rfl
  funext h
  refine propext ⟨?_, ?_⟩
  · rintro ⟨x, c, hd, rfl, ⟨a, b, hd2, rfl, ha, hb⟩, hc⟩
    refine ⟨a, b.join c, fun k => ?_, join_assoc a b c, ha, b, c, fun k => ?_, rfl, hb, hc⟩
    · have h1 := hd k
      have h2 := hd2 k
      unfold PH.join at h1 ⊢
      cases ea : a k <;> simp_all
    · have h1 := hd k
      have h2 := hd2 k
      unfold PH.join at h1
      cases ea : a k <;> simp_all
  · rintro ⟨a, x, hd, rfl, ha, b, c, hd2, rfl, hb, hc⟩
    refine ⟨a.join b, c, fun k => ?_, (join_assoc a b c).symm, ⟨a, b, fun k => ?_, rfl, ha, hb⟩, hc⟩
    · have h1 := hd k
      have h2 := hd2 k
      unfold PH.join at h1 ⊢
      cases ea : a k <;> cases eb : b k <;> simp_all
    · have h1 := hd k
      unfold PH.join at h1
      cases ea : a k <;> cases eb : b k <;> simp_all
theorem star_right_comm (A B C : HP) : A * B * C = A * C * B := by rw [star_assoc, star_comm B C, ← star_assoc]

def emp : HP := fun h => ∀ k, h k = none
theorem star_emp (A : HP) : A * emp = A := by
  funext h
  refine propext ⟨?_, fun ha => ⟨h, fun _ => none, fun k => .inr rfl, ?_, ha, fun _ => rfl⟩⟩
  · rintro ⟨a, b, _, rfl, ha, hb⟩
    have : a.join b = a := by
      funext k
      unfold PH.join
      cases e : a k
      · exact hb k
      · rfl
    rw [this]
    exact ha
  · funext k
    unfold PH.join
    cases h k <;> rfl
theorem emp_star (A : HP) : emp * A = A := by rw [star_comm, star_emp]
def one (g : Nat) (o : Obj) : PH := fun k => if k = g then some o else none
/-- Block g is just o. -/
def Blk (g : Nat) (o : Obj) : HP := fun h => h = one g o
/-- All that lay in W lies there. -/
def Old (W : World) : HP := fun h => ∀ k, h k = W.heap[k]?

/-- In w, which goes on from W0, P's blocks are owned. -/
structure Own (W0 w : World) (P : HP) : Prop where
  os : w.os = W0.os
  tape : w.tape = W0.tape
  output : w.output = W0.output
  heap : ∃ h, P h ∧ ∀ k o, h k = some o → w.heap[k]? = some o

theorem own_start (W : World) : Own W W (Old W) := ⟨rfl, rfl, rfl, fun k => W.heap[k]?, fun _ => rfl, fun _ _ h => h⟩
section
variable {W0 w w' : World} {P Q A B X : HP}
theorem Own.mono (H : Own W0 w P) (h : ∀ h, P h → Q h) : Own W0 w Q := ⟨H.os, H.tape, H.output, let ⟨x, hx, hs⟩ := H.heap; ⟨x, h x hx, hs⟩⟩
theorem Own.eq (H : Own W0 w P) (h : P = Q) : Own W0 w Q := h ▸ H
theorem Own.rot (H : Own W0 w (P * A * B)) : Own W0 w (P * B * A) := H.eq (star_right_comm _ _ _)
/-- The frame: A's blocks turn into B's, which are those or new ones; all else stays. -/
theorem Own.frame (H : Own W0 w (P * A)) : ∃ ha : PH, A ha ∧ (∀ k o, ha k = some o → w.heap[k]? = some o) ∧
    ∀ (w' : World) (hb : PH) (B : HP), B hb → (∀ k o, hb k = some o → w'.heap[k]? = some o) → (∀ k o, w.heap[k]? = some o → ha k = none → w'.heap[k]? = some o) →
      (∀ k, hb k ≠ none → ha k ≠ none ∨ w.heap.size ≤ k) → w'.os = w.os → w'.tape = w.tape → w'.output = w.output → Own W0 w' (P * B) := by
  obtain ⟨h1, h2, h3, h, ⟨p, a, hd, rfl, hp, ha⟩, hs⟩ := H
  have hsa : ∀ k o, a k = some o → w.heap[k]? = some o := fun k o hk => hs k o (by
    unfold PH.join
    rcases hd k with e | e
    · rw [e]; exact hk
    · rw [e] at hk; cases hk)
  have hsp : ∀ k o, p k = some o → w.heap[k]? = some o := fun k o hk => hs k o (by unfold PH.join; rw [hk])
  refine ⟨a, ha, hsa, fun w' b B hB hb hk hn e1 e2 e3 => ⟨e1.trans h1, e2.trans h2, e3.trans h3, p.join b, ⟨p, b, fun k => ?_, rfl, hp, hB⟩, fun k o hko => ?_⟩⟩
  · cases ep : p k with
    | none => exact .inl rfl
    | some o =>
      refine .inr ?_
      cases eb : b k with
      | none => rfl
      | some o' =>
        exfalso
        rcases hn k (by rw [eb]; simp) with h | h
        · rcases hd k with e | e
          · rw [ep] at e; cases e
          · exact h e
        · have := (Array.getElem?_eq_some_iff.1 (hsp k o ep)).1
          omega
  · unfold PH.join at hko
    cases ep : p k with
    | none => rw [ep] at hko; exact hb k o hko
    | some o' =>
      rw [ep] at hko
      injection hko with hko
      subst hko
      refine hk k o' (hsp k o' ep) ?_
      rcases hd k with e | e
      · rw [ep] at e; cases e
      · exact e
theorem Own.drop (H : Own W0 w (P * A)) : Own W0 w P := by
  obtain ⟨h1, h2, h3, h, ⟨p, a, hd, rfl, hp, ha⟩, hs⟩ := H
  exact ⟨h1, h2, h3, p, hp, fun k o hk => hs k o (by unfold PH.join; rw [hk])⟩
theorem Own.turn (H : Own W0 w (P * A)) (h : ∀ h, A h → B h) : Own W0 w (P * B) :=
  H.mono fun _ ⟨a, b, hd, he, ha, hb⟩ => ⟨a, b, hd, he, ha, h b hb⟩
theorem Own.below (H : Own W0 w P) (hb : Below w.heap.size w w') : Own W0 w' P := by
  obtain ⟨h1, h2, h3, h, hp, hs⟩ := H
  exact ⟨hb.os.trans h1, hb.tape.trans h2, hb.output.trans h3, h, hp, fun k o hk => (hb.block k (Array.getElem?_eq_some_iff.1 (hs k o hk)).1).trans (hs k o hk)⟩
theorem Own.drewN (H : Own W0 w P) (n : Nat) : Own W0 (w.drewN n) P := ⟨H.os, H.tape, H.output, H.heap⟩
theorem Own.drew (H : Own W0 w P) : Own W0 w.drew P := ⟨H.os, H.tape, H.output, H.heap⟩
theorem Own.drawn (H : Own W0 w P) (h : ∃ n, w' = w.drewN n) : Own W0 w' P := by
  obtain ⟨n, rfl⟩ := h
  exact H.drewN n
theorem Own.emp (H : Own W0 w P) : Own W0 w (P * emp) := H.eq (star_emp P).symm
theorem Own.alloc (H : Own W0 w P) (o : Obj) : Own W0 (w.alloc o) (P * Blk w.heap.size o) := by
  obtain ⟨ha, hA, _, hf⟩ := H.emp.frame
  refine hf _ (one w.heap.size o) _ rfl (fun k o' hk => ?_) (fun k o' hk _ => ?_) (fun k hk => ?_) rfl rfl rfl
  · unfold one at hk
    split at hk
    · rename_i e; subst e; rw [heap_alloc_new]; exact hk
    · cases hk
  · rw [(World.grownBy_alloc w o none).block k (Array.getElem?_eq_some_iff.1 hk).1 (by simp)]; exact hk
  · unfold one at hk
    split at hk
    · rename_i e; subst e; exact .inr (Nat.le_refl _)
    · exact absurd rfl hk
theorem Own.blk {g : Nat} {o : Obj} (H : Own W0 w (P * Blk g o)) : w.heap[g]? = some o := by
  obtain ⟨ha, hA, hs, _⟩ := H.frame
  exact hs g o (by rw [show ha = one g o from hA]; simp [one])
/-- One block turns. -/
theorem Own.put {g : Nat} {o o' : Obj} (H : Own W0 w (P * Blk g o)) (hg : w'.heap[g]? = some o') (hk : ∀ k, k ≠ g → k < w.heap.size → w'.heap[k]? = w.heap[k]?) (e1 : w'.os = w.os) (e2 : w'.tape = w.tape) (e3 : w'.output = w.output) :
    Own W0 w' (P * Blk g o') := by
  obtain ⟨ha, hA, hs, hf⟩ := H.frame
  have hA : ha = one g o := hA
  subst hA
  refine hf _ (one g o') _ rfl (fun k o2 h => ?_) (fun k o2 h1 h2 => ?_) (fun k h => ?_) e1 e2 e3
  · unfold one at h
    split at h
    · rename_i e; subst e; rw [hg]; exact h
    · cases h
  · have hne : k ≠ g := by rintro rfl; simp [one] at h2
    rw [hk k hne (Array.getElem?_eq_some_iff.1 h1).1]; exact h1
  · unfold one at h ⊢
    split at h
    · rename_i e; simp [e]
    · exact absurd rfl h
theorem heap_setCell_at {w : World} {g j : Nat} {cs : Array Value} {t : TypeId} {fr : Nat × Nat} (h : w.heap[g]? = some (.cells cs t fr)) (v : Value) : (w.setCell ⟨g, j, none⟩ v).heap[g]? = some (.cells (cs.setIfInBounds j v) t fr) := by
  have hlt := (Array.getElem?_eq_some_iff.1 h).1
  have he := (Array.getElem?_eq_some_iff.1 h).2
  simp [World.setCell, hlt, Array.getElem_modify, he]
theorem Own.set {g : Nat} {cs : Array Value} {t : TypeId} {fr : Nat × Nat} (H : Own W0 w (P * Blk g (.cells cs t fr))) (j : Nat) (v : Value) : Own W0 (w.setCell ⟨g, j, none⟩ v) (P * Blk g (.cells (cs.setIfInBounds j v) t fr)) :=
  H.put (heap_setCell_at H.blk v) (fun k hk _ => Below.heap_setCell w ⟨g, j, none⟩ v k hk) rfl rfl rfl
/-- The end of a law: all that lay there lies there. -/
theorem Own.done (H : Own w w' (Old w * P)) : Below w.heap.size w w' := by
  have H2 := H.drop
  obtain ⟨h1, h2, h3, h, hp, hs⟩ := H2
  have hb : ∀ k, k < w.heap.size → w'.heap[k]? = w.heap[k]? := fun k hk => by
    obtain ⟨o, ho⟩ : ∃ o, w.heap[k]? = some o := ⟨_, Array.getElem?_eq_getElem hk⟩
    rw [ho]
    exact hs k o ((hp k).trans ho)
  refine ⟨h1, h2, h3, ?_, hb⟩
  rcases Nat.eq_zero_or_pos w.heap.size with h0 | h0
  · omega
  · have h4 := hb (w.heap.size - 1) (by omega)
    rw [Array.getElem?_eq_getElem (show w.heap.size - 1 < w.heap.size by omega)] at h4
    have := (Array.getElem?_eq_some_iff.1 h4).1
    omega
theorem Own.old (H : Own W0 w (Old W0)) : Below W0.heap.size W0 w := Own.done H.emp
theorem Own.lt {g : Nat} {o : Obj} (H : Own W0 w (P * Blk g o)) : g < w.heap.size := (Array.getElem?_eq_some_iff.1 H.blk).1
end

/-! ### Finding a part -/
class Foc (P A : HP) (X : outParam HP) : Prop where eq : P = X * A
instance {X A : HP} : Foc (X * A) A X := ⟨rfl⟩
instance {P A B X : HP} [h : Foc P A X] : Foc (P * B) A (X * B) := ⟨by rw [h.eq, star_right_comm]⟩
instance {A : HP} : Foc A A emp := ⟨(emp_star A).symm⟩
class FocBlk (P : HP) (g : Nat) (o : outParam Obj) (X : outParam HP) : Prop where eq : P = X * Blk g o
instance {X : HP} {g : Nat} {o : Obj} : FocBlk (X * Blk g o) g o X := ⟨rfl⟩
instance {P B X : HP} {g : Nat} {o : Obj} [h : FocBlk P g o X] : FocBlk (P * B) g o (X * B) := ⟨by rw [h.eq, star_right_comm]⟩
theorem Own.foc {W0 w : World} {P X : HP} (A : HP) [h : Foc P A X] (H : Own W0 w P) : Own W0 w (X * A) := H.eq h.eq
theorem Own.focB {W0 w : World} {P X : HP} (g : Nat) {o : Obj} [h : FocBlk P g o X] (H : Own W0 w P) : Own W0 w (X * Blk g o) := H.eq h.eq

/-! ### A slice that is owned: it begins at the head of its block -/
def RowB (e : TypeId) (sz : Nat) (v : Value) (n : Nat) (cs : List Value) : HP := fun h =>
  cs.length = n * sz ∧ ((v = .slice none 0 0 ∧ n = 0 ∧ emp h) ∨
    ∃ g cap cur, v = .slice (some ⟨g, 0, none⟩) n cap ∧ h = one g (.cells cur e (0, 0)) ∧ n ≤ cap ∧ cap ≤ maxLen ∧ cur.size = cap * sz ∧ cur.toList.take (n * sz) = cs)
/-- .. or it has no room at all, and no block of its own. -/
def Row (e : TypeId) (sz : Nat) (v : Value) (n : Nat) (cs : List Value) : HP := fun h => RowB e sz v n cs h ∨ (n = 0 ∧ cs = [] ∧ (∃ g off, v = .slice (some ⟨g, off, none⟩) 0 0) ∧ emp h)
class FocRow (P : HP) (v : Value) (e sz n : outParam Nat) (cs : outParam (List Value)) (X : outParam HP) : Prop where eq : P = X * Row e sz v n cs
instance {X : HP} {e sz n : Nat} {v : Value} {cs : List Value} : FocRow (X * Row e sz v n cs) v e sz n cs X := ⟨rfl⟩
instance {P B X : HP} {e sz n : Nat} {v : Value} {cs : List Value} [h : FocRow P v e sz n cs X] : FocRow (P * B) v e sz n cs (X * B) := ⟨by rw [h.eq, star_right_comm]⟩
section
variable {W0 w w' : World} {P X : HP} {e sz n : Nat} {v : Value} {cs : List Value}
theorem Own.focR (v : Value) [h : FocRow P v e sz n cs X] (H : Own W0 w P) : Own W0 w (X * Row e sz v n cs) := H.eq h.eq
theorem Own.split (H : Own W0 w (P * Row e sz v n cs)) : Own W0 w (P * RowB e sz v n cs) ∨ (n = 0 ∧ cs = [] ∧ (∃ g off, v = .slice (some ⟨g, off, none⟩) 0 0)) ∧ Own W0 w P := by
  obtain ⟨h1, h2, h3, h, ⟨p, a, hd, rfl, hp, ha⟩, hs⟩ := H
  rcases ha with ha | ⟨e1, e2, e3, _⟩
  · exact .inl ⟨h1, h2, h3, _, ⟨p, a, hd, rfl, hp, ha⟩, hs⟩
  · exact .inr ⟨⟨e1, e2, e3⟩, h1, h2, h3, p, hp, fun k o hk => hs k o (by unfold PH.join; rw [hk])⟩
theorem Own.ofB (H : Own W0 w (P * RowB e sz v n cs)) : Own W0 w (P * Row e sz v n cs) := H.turn fun _ h => .inl h
theorem Own.row (H : Own W0 w (P * RowB e sz v n cs)) : w.ownsRow 0 e sz v n cs := by
  obtain ⟨ha, ⟨hl, hA⟩, hs, _⟩ := H.frame
  refine ⟨hl, ?_⟩
  rcases hA with ⟨h1, h2, _⟩ | ⟨g, cap, cur, rfl, rfl, h1, h2, h3, h4⟩
  · exact .inl ⟨h1, h2⟩
  · exact .inr ⟨g, cap, cur, rfl, Nat.zero_le _, hs g _ (by simp [one]), h1, h2, h3, h4⟩
/-- A row turns into another one, by a law of the kit's. -/
theorem Own.row_step {b n' sz' : Nat} {v' : Value} {cs' : List Value} (H : Own W0 w (P * RowB e sz v n cs)) (hg : w.grownBy w' v.ownBlock) (hr : w'.ownsRow b e sz' v' n' cs') (hat : ∀ k, v'.ownBlock = some k → v.ownBlock = some k ∨ w.heap.size ≤ k) :
    Own W0 w' (P * Row e sz' v' n' cs') := by
  refine Own.ofB ?_
  obtain ⟨ha, ⟨hl, hA⟩, hs, hf⟩ := H.frame
  have hone : ∀ k, ha k ≠ none ↔ v.ownBlock = some k := by
    intro k
    rcases hA with ⟨rfl, _, h2⟩ | ⟨g, cap, cur, rfl, rfl, _⟩
    · simp [Value.ownBlock, h2 k]
    · simp [Value.ownBlock, one, eq_comm]
  have hkeep : ∀ k o, w.heap[k]? = some o → ha k = none → w'.heap[k]? = some o := fun k o h1 h2 => by
    rw [hg.block k (Array.getElem?_eq_some_iff.1 h1).1 (fun e => (hone k).2 e.symm h2)]
    exact h1
  obtain ⟨h5, hr⟩ := hr
  rcases hr with ⟨rfl, h0⟩ | ⟨g, cap, cur, rfl, _, h1, h2, h3, h4, h6⟩
  · exact hf w' (fun _ => none) _ ⟨h5, .inl ⟨rfl, h0, fun _ => rfl⟩⟩ (fun k o h => by cases h) hkeep (fun k h => absurd rfl h) hg.os hg.tape hg.output
  · refine hf w' (one g (.cells cur e (0, 0))) _ ⟨h5, .inr ⟨g, cap, cur, rfl, rfl, h2, h3, h4, h6⟩⟩ (fun k o h => ?_) hkeep (fun k h => ?_) hg.os hg.tape hg.output
    · unfold one at h
      split at h
      · rename_i e; subst e; rw [h1]; exact h
      · cases h
    · unfold one at h
      split at h
      · rename_i e; subst e
        rcases hat k rfl with h | h
        · exact .inl ((hone k).2 h)
        · exact .inr h
      · exact absurd rfl h
theorem Own.nil (H : Own W0 w P) (e sz : Nat) : Own W0 w (P * Row e sz (.slice none 0 0) 0 []) :=
  H.emp.turn fun _ h => .inl ⟨by simp, .inl ⟨rfl, rfl, h⟩⟩
theorem Own.nilB (H : Own W0 w P) (e sz : Nat) : Own W0 w (P * RowB e sz (.slice none 0 0) 0 []) :=
  H.emp.turn fun _ h => ⟨by simp, .inl ⟨rfl, rfl, h⟩⟩
theorem Own.zero (H : Own W0 w P) (e sz g off : Nat) : Own W0 w (P * Row e sz (.slice (some ⟨g, off, none⟩) 0 0) 0 []) :=
  H.emp.turn fun _ h => .inr ⟨rfl, rfl, ⟨g, off, rfl⟩, h⟩
/-- What was made as a block is a row. -/
theorem Own.made {g cap : Nat} {cur : Array Value} (H : Own W0 w (P * Blk g (.cells cur e))) (n : Nat) (h1 : n ≤ cap) (h2 : cap ≤ maxLen) (h3 : cur.size = cap * sz) :
    Own W0 w (P * Row e sz (.slice (some ⟨g, 0, none⟩) n cap) n (cur.toList.take (n * sz))) :=
  Own.ofB <| H.turn fun h hh => ⟨by rw [List.length_take, Array.length_toList, h3]; exact Nat.min_eq_left (Nat.mul_le_mul_right _ h1), .inr ⟨g, cap, cur, rfl, hh, h1, h2, h3, rfl⟩⟩
end

/-! ### A slice that is read: nil, cut, owned or come in alike -/
def Sl (w : World) (v : Value) (sz n : Nat) (cs : List Value) : Prop :=
  cs.length = n * sz ∧ ∃ A c, v = .slice A n c ∧ n ≤ c ∧ c ≤ maxLen ∧ (A = none → c = 0) ∧ (0 < n → ∃ ad, A = some ad ∧ ∀ j u, cs[j]? = some u → w.cell? (ad.add j) = some u)
section
variable {W0 w w' : World} {P X : HP} {e sz n : Nat} {v : Value} {cs : List Value}
theorem Sl.below (h : Sl w v sz n cs) (hb : Below w.heap.size w w') : Sl w' v sz n cs := by
  obtain ⟨hl, A, c, rfl, h1, h2, h4, h3⟩ := h
  refine ⟨hl, A, c, rfl, h1, h2, h4, fun h0 => ?_⟩
  obtain ⟨ad, rfl, hc⟩ := h3 h0
  exact ⟨ad, rfl, fun j u hj => (hb.cell (World.block_lt_of_cell? w _ (hc j u hj))).trans (hc j u hj)⟩
theorem Sl.drawn (h : Sl w v sz n cs) (hb : ∃ n, w' = w.drewN n) : Sl w' v sz n cs := by
  obtain ⟨m, rfl⟩ := hb
  exact h
theorem Sl.nil (w : World) (sz : Nat) : Sl w (.slice none 0 0) sz 0 [] := ⟨by simp, none, 0, rfl, Nat.le_refl _, Nat.zero_le _, fun _ => rfl, fun h => by omega⟩
theorem ownsRow_sl (h : w.ownsRow 0 e sz v n cs) (_hsz : 0 < sz) : Sl w v sz n cs := by
  refine ⟨h.1, ?_⟩
  rcases h.2 with ⟨rfl, rfl⟩ | ⟨g, cap, cur, rfl, _, _, h1, h2, _⟩
  · exact ⟨none, 0, rfl, Nat.le_refl _, Nat.zero_le _, fun _ => rfl, fun h => by omega⟩
  · exact ⟨some ⟨g, 0, none⟩, cap, rfl, h1, h2, (fun h => by cases h), fun h0 => ⟨_, rfl, h.cells rfl⟩⟩
theorem Own.sl (H : Own W0 w (P * Row e sz v n cs)) (hsz : 0 < sz) : Sl w v sz n cs := by
  rcases H.split with h | ⟨⟨rfl, rfl, g, off, rfl⟩, h⟩
  · exact ownsRow_sl h.row hsz
  · exact ⟨by simp, _, 0, rfl, Nat.le_refl _, Nat.zero_le _, fun _ => rfl, fun h => by omega⟩
theorem Own.slR (v : Value) [h : FocRow P v e sz n cs X] (H : Own W0 w P) (hsz : 0 < sz) : Sl w v sz n cs := (H.focR v).sl hsz
/-- An element of one cell. -/
theorem Sl.at_ (h : Sl w v 1 n cs) (j : Nat) (hj : j < n) : ∃ A c, v = .slice (some A) n c ∧ w.cell? (A.add j) = some (cs.getD j undef) := by
  obtain ⟨hl, A, c, rfl, h1, h2, _, h3⟩ := h
  obtain ⟨ad, rfl, hc⟩ := h3 (by omega)
  refine ⟨ad, c, rfl, hc j _ ?_⟩
  rw [List.getD_eq_getElem?_getD, List.getElem?_eq_getElem (by omega)]
  rfl
theorem Sl.take {A : Option Addr} {c m : Nat} (h : Sl w (.slice A n c) sz n cs) (hm : m ≤ n) : Sl w (.slice A m c) sz m (cs.take (m * sz)) := by
  obtain ⟨hl, A', c', he, h1, h2, h4, h3⟩ := h
  injection he with e1 e2 e3
  subst e1 e3
  have hle := Nat.mul_le_mul_right sz hm
  refine ⟨by rw [List.length_take, hl]; omega, A, c, rfl, by omega, h2, h4, fun h0 => ?_⟩
  obtain ⟨ad, rfl, hc⟩ := h3 (by omega)
  exact ⟨ad, rfl, fun j u hj => hc j u (by rw [List.getElem?_take] at hj; split at hj <;> simp_all)⟩
/-- The old slices stay as they were read. -/
theorem Sl.old (h : Sl W0 v sz n cs) (H : Own W0 w (Old W0 * X)) : Sl w v sz n cs := h.below H.done
/-- A slice whose cells the frame owns, whatever else turns. -/
def Held (W0 : World) (R : HP) (v : Value) (sz n : Nat) (cs : List Value) : Prop := ∀ w, Own W0 w R → Sl w v sz n cs
theorem Held.more {R Y : HP} (h : Held W0 R v sz n cs) : Held W0 (R * Y) v sz n cs := fun w H => h w H.drop
theorem Held.sl {R : HP} (h : Held W0 R v sz n cs) (H : Own W0 w R) : Sl w v sz n cs := h w H
theorem Sl.held (h : Sl W0 v sz n cs) : Held W0 (Old W0) v sz n cs := fun _ H => h.below H.old
theorem Sl.heldF {R Y : HP} [hF : Foc R (Old W0) Y] (h : Sl W0 v sz n cs) : Held W0 R v sz n cs := fun _ H => by
  have h2 := H.foc (Old W0)
  rw [star_comm] at h2
  exact h.below h2.done
theorem Own.oldF {Y : HP} [hF : Foc P (Old W0) Y] (H : Own W0 w P) : Below W0.heap.size W0 w := by
  have h2 := H.foc (Old W0)
  rw [star_comm] at h2
  exact h2.done
theorem Sl.now {Y : HP} (h : Sl W0 v sz n cs) (H : Own W0 w P) (hF : Foc P (Old W0) Y) : Sl w v sz n cs := h.heldF.sl H
theorem held_row {R : HP} (hsz : 0 < sz) : Held W0 (R * Row e sz v n cs) v sz n cs := fun _ H => H.sl hsz
theorem held_nil {R : HP} : Held W0 R (.slice none 0 0) sz 0 [] := fun w _ => Sl.nil w sz
end
end Go.Proofs.YtbijlkbfndkdcaaDoorSep
