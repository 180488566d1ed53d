/- Own work: within a round, a region that draws its order, whose operations only read but for the last one, which comes last in every order. -/
import Derived.TacticsIn
import Derived.Test.YtgakacingdlgpaaRound
namespace Go.Proofs.YtgakacingdlgpaaSep
open Go

def nopOf (o : Oper) : Oper := { o with op := .assign (.const undef), dst := none }
def lastB (md : Region.Mode) (ops : Array Oper) (m : Nat) : Nat → Array Bool → Bool
  | 0, _ => false
  | fuel + 1, listed => !(Region.ready md ops listed).isEmpty && (Region.ready md ops listed).all fun i =>
      if i = m then fuel == 0 && (Region.ready md ops (listed.setIfInBounds m true)).isEmpty else lastB md ops m fuel (listed.setIfInBounds i true)
def noGuard (os : List Oper) : Bool := os.all fun o => o.guard.isNone
section
variable {F : Fence} {n l : Nat} {P : Program} {Q : Exit → Act → World → Prop} {os : List Oper} {oL : Oper} {C : World → Prop} {md : Region.Mode}
theorem at_ne {i : Nat} (h : i ≠ os.length) : (os ++ [oL]).toArray[i]? = (os ++ [nopOf oL]).toArray[i]? := by
  simp only [List.getElem?_toArray]
  rcases Nat.lt_or_ge i os.length with h1 | h1
  · rw [List.getElem?_append_left h1, List.getElem?_append_left h1]
  · rw [List.getElem?_eq_none (by simp; omega), List.getElem?_eq_none (by simp; omega)]
theorem at_eq : (os ++ [oL]).toArray[os.length]? = some oL := by simp
theorem ready_nop (listed : Array Bool) : Region.ready md (os ++ [oL]).toArray listed = Region.ready md (os ++ [nopOf oL]).toArray listed := by
  unfold Region.ready
  have hs : (os ++ [oL]).toArray.size = (os ++ [nopOf oL]).toArray.size := by simp
  rw [hs]
  congr 1
  funext i
  by_cases h : i = os.length
  · subst h; rw [at_eq, at_eq]; rfl
  · rw [at_ne h]
theorem wanted_none {o : Oper} (h : o.guard = none) (f : Nat → Option Bool) : Region.wanted o f = true := by simp [Region.wanted, h]
theorem noGuard_at {os : List Oper} (h : noGuard os = true) {i : Nat} {o : Oper} (ho : os.toArray[i]? = some o) : o.guard = none := by
  have hm : o ∈ os := by
    have := Array.mem_of_getElem? ho
    simpa using this
  have := List.all_eq_true.1 h o hm
  simpa using this
theorem any_last (hro : F.round = none) (hnd : noDefer os = true) (hgd : noGuard (os ++ [oL]) = true) : ∀ (fuel : Nat) (listed : Array Bool) (a : Act) (w : World), C w →
    lastB md (os ++ [nopOf oL]).toArray os.length fuel listed = true →
    wpAnyQIn F n P md (os ++ [nopOf oL]).toArray C (fun a' => ∀ w', C w' → wpListIn (F.inRound l) n P (os ++ [oL]).toArray Q [oL] a' w') fuel listed a →
    wpAnyIn (F.inRound l) n P md (os ++ [oL]).toArray Q fuel listed a w
  | 0, _, _, _, _, h, _ => by simp [lastB] at h
  | fuel + 1, listed, a, w, hw, hB, h => by
    rw [lastB] at hB
    simp only [Bool.and_eq_true, List.all_eq_true] at hB
    refine ⟨fun h0 => ?_, fun i hi => ?_⟩
    · rw [ready_nop] at h0
      rw [h0] at hB
      simp at hB
    · rw [ready_nop] at hi
      have h1 := hB.2 i hi
      have h2 := h.2 i hi
      by_cases hm : i = os.length
      · subst hm
        rw [if_pos rfl] at h1
        simp only [Bool.and_eq_true, beq_iff_eq, List.isEmpty_iff] at h1
        obtain ⟨rfl, h1⟩ := h1
        unfold qOpIn at h2
        rw [at_eq] at h2
        have hg : oL.guard = none := noGuard_at hgd at_eq
        simp only at h2
        rw [if_pos (wanted_none (o := nopOf oL) hg _)] at h2
        obtain ⟨_, v, _, h3⟩ := h2
        have h4 := h3.2 w hw
        rw [wpListIn, if_pos (wanted_none hg _)] at h4
        unfold wpOpIn
        rw [at_eq]
        simp only
        rw [if_pos (wanted_none hg _)]
        refine Oper.wpIn_mono ?_ h4
        intro a2 w2 h5
        exact ⟨by rw [ready_nop]; exact h1, h5⟩
      · rw [if_neg hm] at h1
        have h3 : wpOpIn F n P (os ++ [nopOf oL]).toArray Q i (wpAnyIn (F.inRound l) n P md (os ++ [oL]).toArray Q fuel (listed.setIfInBounds i true)) a w :=
          wpOpIn_of_qOpIn hro hw (fun a' w' hw' hk => any_last hro hnd hgd fuel _ a' w' hw' h1 hk) h2
        unfold wpOpIn at h3 ⊢
        rw [at_ne hm]
        cases ho : (os ++ [nopOf oL]).toArray[i]? with
        | none => rw [ho] at h3; exact h3
        | some o =>
          rw [ho] at h3
          have ho2 : (os ++ [oL]).toArray[i]? = some o := by rw [at_ne hm, ho]
          have hg : o.guard = none := noGuard_at hgd ho2
          simp only at h3 ⊢
          rw [if_pos (wanted_none hg _)] at h3 ⊢
          refine oper_round (fun c => ?_) (fun _ _ h => h) h3
          have hlt : i < os.length := by
            rcases Nat.lt_or_ge i os.length with h5 | h5
            · exact h5
            · simp only [List.getElem?_toArray] at ho2
              rw [List.getElem?_eq_none (by simp; omega)] at ho2
              cases ho2
          have ho3 : os.toArray[i]? = some o := by
            simp only [List.getElem?_toArray] at ho2 ⊢
            rwa [List.getElem?_append_left hlt] at ho2
          exact noDefer_at hnd ho3 c
theorem quiet_nop {ops : Array Oper} {a : Act} {A : Act → Prop} {o : Oper} (hg : o.guard = none) (h : A a) : wpQuietIn F n P ops C A [nopOf o] a := by
  refine ⟨fun w _ f hf => by simp [Oper.about, nopOf] at hf, ?_⟩
  rw [if_pos (wanted_none (o := nopOf o) hg _)]
  refine ⟨undef, fun w _ => ?_, h⟩
  unfold Oper.quietAtIn
  simp [nopOf, execOp, Sem.run_pure, Act.eval, Oper.quietUponIn, go_sem]
theorem wp_last_round {id : Nat} {a : Act} {w : World} {ll : List Oper} (hl : ll = os ++ [oL]) (hro : F.round = none) (hm : P.follows .mixedOrders = true) (hB : Region.lexB .any (os ++ [nopOf oL]).toArray = true)
    (hL : lastB .any (os ++ [nopOf oL]).toArray os.length (os.length + 1) (Array.replicate (os.length + 1) false) = true) (hnd : noDefer os = true) (hgd : noGuard (os ++ [oL]) = true) (hC : C w.drew)
    (h : wpQuietIn F n P (os ++ [nopOf oL]).toArray C (fun a' => ∀ w', C w' → wpListIn (F.inRound l) n P (os ++ [oL]).toArray Q [oL] a' w') (os ++ [nopOf oL]) a) : (Code.region id ll.toArray true).wpIn (F.inRound l) n P Q a w := by
  subst hl
  simp only [Region.lexB, Bool.and_eq_true] at hB
  have hs : (os ++ [oL]).toArray.size = os.length + 1 := by simp
  have hsN : (os ++ [nopOf oL]).toArray.size = os.length + 1 := by simp
  refine wpIn_region_any hm ?_
  rw [hs]
  refine any_last hro hnd hgd _ _ a _ hC hL ?_
  have := wpAnyQIn_lex (F := F) (n := n) (C := C) (md := .any) hB.1 (os ++ [nopOf oL]) 0 (Array.replicate (os.length + 1) false) a (by simp) (by rw [← hsN]; simpa using hB.2) h
  simpa using this
end
end Go.Proofs.YtgakacingdlgpaaSep
