/- Own work: a range over a function, in the words of what is owned: what a round is handed is owned by the round. -/
import Derived.RangeFuncNested
import Derived.RangeFuncBound
import Derived.RangeFuncCalls
import Derived.RangeFuncLeaves
import Derived.Shelf.Abstract
import Derived.Shelf.RegionOpen
import Derived.WalkKit
import Derived.OwnWalkIn
import Derived.TacticsInMore
import Derived.LoopNIn
import Derived.LoopIn
import Derived.Test.YtllapldkcfhklaaDoorLaw
namespace Go.Proofs.YtllapldkcfhklaaDoorSep
open Go.RowKit Go.Lib Go.Proofs

instance hp_assoc : Std.Associative (α := HP) (· * ·) := ⟨star_assoc⟩
instance hp_comm : Std.Commutative (α := HP) (· * ·) := ⟨star_comm⟩
variable {W0 w : World} {P : HP} {α : Type}
theorem Own.obj {g : Nat} {o : Obj} (H : Own W0 w (P * Blk g o)) (o' : Obj) : Own W0 (w.putObj g o') (P * Blk g o') :=
  H.put (World.putObj_heap_same H.lt) (fun _ hk _ => World.putObj_heap_other (fun e => hk e)) rfl rfl rfl
/-- An iterator's word: it hands its rounds x with what x owns, each as 'Ok' says; all come, or a round says 'no more'. -/
def Seqs (W0 : World) (F : Fence) (n : Nat) (Q : Program) (g : Nat) (lb : Array Value) (encs : α → Array Value) (X : α → HP) (Ok : List α → α → Prop) (S : List α → Prop) (Need : World → Prop) : Prop :=
  ∀ (l : Nat) (J Jx : List α → HP) (W : World), (∀ pre W, Own W0 W (J pre) → Need W) →
    (∀ pre x W1, Own W0 W1 (J pre * X x) → Ok pre x → YieldAt F (n - 1) Q l (encs x) W1 fun e W' =>
      (e = .returned (.bool true) ∧ Own W0 W' (J (pre ++ [x]))) ∨ (e = .returned (.bool false) ∧ Own W0 W' (Jx (pre ++ [x])))) →
    Own W0 W (J []) →
    CallsIn F n Q g (#[.func (.yield l) #[] #[]] ++ lb) W fun e W' => (∃ v, e = .returned v) ∧ ((∃ xs, S xs ∧ Own W0 W' (J xs)) ∨ ∃ pre, Own W0 W' (Jx pre))
/-- How a round's body may be left. -/
def Out (W0 : World) (I : List α → HP) (Ix : Code → List α → HP) (G : HP) (xs : List α) : Exit → Act → World → Prop
  | .normal, _, W' => Own W0 W' (I xs * G)
  | .ret, _, W' => Own W0 W' (Ix .ret xs * G)
  | .exit id, _, W' => Own W0 W' (Ix (.exit id) xs * G)
  | .goto t, _, W' => Own W0 W' (Ix (.goto t) xs * G)
  | .panic _, _, _ => False
  | .outgrown, _, _ => False
theorem wp_range {F : Fence} {n : Nat} {Q : Program} {g : Operand} {ps : Array Tmp} {assign body : Code} {K : Exit → Act → World → Prop} {a : Act}
    (hro : F.round = none) (h1 : 1 ≤ n) {gf : Nat} {lb : Array Value} (hg : a.eval g = .func (.func gf) #[] lb) (hFg : F.fn gf) (eg : ∀ args w, (callFunc gf args).run Q w = .ok (.enter gf args) w)
    {encs : α → Array Value} (hps : ∀ x, (encs x).size = ps.size) {X : α → HP} {Ok : List α → α → Prop} {S : List α → Prop} {Need : World → Prop} (hseq : Seqs W0 F (n - 1) Q gf lb encs X Ok S Need)
    (I : List α → HP) (Ix : Code → List α → HP) (h0 : Own W0 w (I [])) (hneed : ∀ G pre W, Own W0 W (I pre * G) → Need W) (a₁ : α → Act)
    (hassign : ∀ (l : Nat) (x : α) (W : World) (K : Act → World → Prop), K (a₁ x) W →
      assign.wpIn (F.inRound l) (n - 1 - 1) Q (Exit.then K (fun _ _ _ => False)) { tmps := (ps.zip (encs x)).foldl (fun t (p, v) => t.setIfInBounds p v) a.tmps, defers := [] } W)
    (hbody : ∀ (G : HP) (l : Nat) (pre : List α) (x : α) (W : World), Own W0 W (I pre * G * X x) → Ok pre x → body.wpIn (F.inRound l) (n - 1 - 1) Q (Out W0 I Ix G (pre ++ [x])) (a₁ x) W)
    (hdone : ∀ (D : Nat) (xs : List α) (W : World), S xs → Own W0 W (I xs * Blk D (.deferred (some []))) → K .normal { a with defers := { target := .collected D, args := #[] } :: a.defers } W)
    (hstop : ∀ (D : Nat) (c : Code) (pre : List α) (W : World), Own W0 W (Ix c pre * Blk D (.deferred (some []))) → c.wpIn F n Q K { a with defers := { target := .collected D, args := #[] } :: a.defers } W) :
    (Code.rangeFunc g ps assign body).wpIn F n Q K a w := by
  refine wpIn_rangeFunc fun fn hfn => ?_
  rw [hro]
  obtain ⟨D, hD⟩ : ∃ D, D = w.heap.size := ⟨_, rfl⟩
  obtain ⟨R, hR⟩ : ∃ R : LoopState → Option Code → Loop, R = fun st pe => { state := st, pending := pe, fn, tmps := a.tmps, params := ps, assign, body, defers := D } := ⟨_, rfl⟩
  have H1 := (h0.alloc (.deferred (some []))).alloc (.loop (R .ready none))
  rw [World.size_alloc, ← hD] at H1
  obtain ⟨W1, hW1⟩ : ∃ W1, W1 = (w.alloc (.deferred (some []))).alloc (.loop (R .ready none)) := ⟨_, rfl⟩
  rw [← hW1] at H1
  refine ⟨D + 1, [{ target := .collected D, args := #[] }], W1, { target := .fn (.func gf) lb, args := #[.func (.yield (D + 1)) #[] #[]] }, W1, gf, #[.func (.yield (D + 1)) #[] #[]] ++ lb, W1, ?_, ?_, ?_, ?_, fun _ => h1, ?_⟩
  · rw [hW1, hR, hD]; exact run_enterLoop_outer _ _ _ _ _
  · simp only [resolve, hg]
    simp [go_sem]
  · intro f' hf'; simp [Target.leads] at hf'; subst hf'; exact hFg
  · simp [invoke, go_sem, eg]
  · refine (hseq (D + 1) (fun pre => I pre * Blk D (.deferred (some [])) * Blk (D + 1) (.loop (R .ready none)))
      (fun pre h => ∃ c, (Ix c pre * Blk D (.deferred (some [])) * Blk (D + 1) (.loop (R .done (some c)))) h) _ (fun pre W H => hneed _ pre W H.drop) ?_ H1).mono ?_
    · intro pre x W H hok
      have hy := run_yield (P := Q) (args := encs x) H.rot.blk (by rw [hR]; exact hps x)
      rw [hR] at hy
      refine ⟨fn, _, assign, body, hy, roundIn_of_wpIn hfn (hassign _ x W _ ⟨_, run_beginRound H.rot.blk (by rw [hR]), ?_⟩)⟩
      have H2 := H.rot.obj (.loop { R .ready none with state := .busy })
      have H3 : Own W0 (W.putObj (D + 1) (.loop { R .ready none with state := .busy })) (I pre * (Blk D (.deferred (some [])) * Blk (D + 1) (.loop { R .ready none with state := .busy })) * X x) := by
        have := H2.rot
        rwa [star_assoc (I pre)] at this
      refine wpIn_mono (hbody _ _ pre x _ H3 hok) ?_
      have fin : ∀ (jump : Option Code) (W3 : World) (Z : HP), Own W0 W3 (Z * (Blk D (.deferred (some [])) * Blk (D + 1) (.loop { R .ready none with state := .busy }))) →
          (Instr.endRound (D + 1) jump).run Q W3 = .ok (.bool jump.isNone) (W3.putObj (D + 1) (.loop (R (if jump.isNone then .ready else .done) jump))) ∧
          Own W0 (W3.putObj (D + 1) (.loop (R (if jump.isNone then .ready else .done) jump))) (Z * Blk D (.deferred (some [])) * Blk (D + 1) (.loop (R (if jump.isNone then .ready else .done) jump))) := by
        intro jump W3 Z HZ
        rw [← star_assoc] at HZ
        have := run_endRound (P := Q) jump HZ.blk
        exact ⟨by rw [this, hR], HZ.obj _⟩
      rintro e a3 W3 hp
      cases e with
      | normal =>
        obtain ⟨hr, ho⟩ := fin none W3 _ hp
        exact ⟨_, _, hr, .inl ⟨rfl, ho⟩⟩
      | ret =>
        obtain ⟨hr, ho⟩ := fin (some .ret) W3 _ hp
        exact ⟨_, _, hr, .inr ⟨rfl, ho.mono fun h hh => ⟨.ret, hh⟩⟩⟩
      | exit id =>
        obtain ⟨hr, ho⟩ := fin (some (.exit id)) W3 _ hp
        exact ⟨_, _, hr, .inr ⟨rfl, ho.mono fun h hh => ⟨.exit id, hh⟩⟩⟩
      | goto t =>
        obtain ⟨hr, ho⟩ := fin (some (.goto t)) W3 _ hp
        exact ⟨_, _, hr, .inr ⟨rfl, ho.mono fun h hh => ⟨.goto t, hh⟩⟩⟩
      | panic ch => exact hp.elim
      | outgrown => exact hp.elim
    · rintro e W2 ⟨⟨v, rfl⟩, (⟨xs, hS, HO⟩ | ⟨pre, HO⟩)⟩
      · have he := run_endLoop (P := Q) HO.blk (by rw [hR]; simp)
        have hp : (R .ready none).pending = none := by rw [hR]
        rw [hp] at he
        exact ⟨none, _, he, hdone D xs _ hS (HO.obj _).drop⟩
      · obtain ⟨q1, q2, q3, x, ⟨c, hx⟩, hs⟩ := HO
        have HO : Own W0 W2 (Ix c pre * Blk D (.deferred (some [])) * Blk (D + 1) (.loop (R .done (some c)))) := ⟨q1, q2, q3, x, hx, hs⟩
        have he := run_endLoop (P := Q) HO.blk (by rw [hR]; simp)
        have hp : (R .done (some c)).pending = some c := by rw [hR]
        rw [hp] at he
        exact ⟨some c, _, he, hstop D c pre _ (HO.obj _).drop⟩
def exH {β : Type} (A : β → HP) : HP := fun h => ∃ x, A x h
theorem Own.exL {β : Type} {A : β → HP} {G : HP} (H : Own W0 w (exH A * G)) : ∃ x, Own W0 w (A x * G) := by
  obtain ⟨q1, q2, q3, h, ⟨a, b, hd, rfl, ⟨x, hx⟩, hb⟩, hs⟩ := H
  exact ⟨x, q1, q2, q3, _, ⟨a, b, hd, rfl, hx, hb⟩, hs⟩
theorem Own.ex {β : Type} {A : β → HP} {x : β} (H : Own W0 w (A x)) : Own W0 w (exH A) := H.mono fun _ hh => ⟨x, hh⟩
theorem Own.toExL {β : Type} {A : β → HP} {G : HP} {x : β} (H : Own W0 w (A x * G)) : Own W0 w (exH A * G) :=
  H.mono fun _ ⟨a, b, hd, he, hx, hb⟩ => ⟨a, b, hd, he, ⟨x, hx⟩, hb⟩
section
variable {F : Fence} {d : Nat} {Q : Program} {ops : Array Oper} {rest : List Oper} {o : Oper} {a : Act} {K : Exit → Act → World → Prop} {e sz n : Nat} {v vx : Value} {cs : List Value} {R Y : HP}
theorem own_append_in (H0 : Own W0 w Y) [hF : FocRow Y v e sz n cs R] (hgd : o.guard = none) (s x : Operand) (t : TypeId) (z : Value) (bytes : Nat) (m : Nat) (news : List Value)
    (ho : o.op = .call { callee := .builtin .append, args := #[s, x], argTypes := #[t, t] }) (ht : Q.underlying t = some (.slice e))
    (hinfo : (Q.info? e).map (fun i => (i.zero, i.size, i.bytes)) = some (some z, sz, bytes)) (hzs : z.cells.size = sz) (hsz : 0 < sz)
    (hs : a.eval s = v) (hx0 : a.eval x = vx) (hx : Sl w vx sz m news) (h1 : ∀ u ∈ news, u.oneCell' = true) (h63 : n + m ≤ maxLen) (hb : (n + m) * bytes ≤ 140737488355328)
    (h : ∀ v' w', Own W0 w' (R * Row e sz v' (n + m) (cs ++ news)) → w.heap.size ≤ w'.heap.size → w.grownBy w' v.ownBlock → wpListIn F d Q ops K rest (a.put o.dst v') w') : wpListIn F d Q ops K (o :: rest) a w := by
  refine wpListIn_plain hgd fun K' hK => ?_
  obtain ⟨v', w', hr, h2, h3, h4⟩ := run_append_sl t o.type z bytes ht hinfo hzs hsz (H0.focR v) hx h1 h63 hb
  unfold Oper.wpIn
  refine ⟨?_, ?_⟩
  · simp [Oper.about, ho, resolve, Target.leads, Sem.run_pure]
  · rw [Oper.semAt_plain F _ _ (by rw [ho]; intro c hc'; cases hc')]
    unfold execOp
    simp only [ho, resolve, invoke, builtin, Sem.run_bind, Sem.run_pure, Result.andThen_ok, List.map_toArray, List.map_cons, List.map_nil, hs, hx0, hr]
    exact hK _ _ (h v' w' h2 h3 h4)
end
end Go.Proofs.YtllapldkcfhklaaDoorSep
