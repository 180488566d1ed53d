/- Own work: dep.Fresh, by a walk. -/
import Derived.Test.YtfhfinnjlihghaaDepN
namespace Go.Proofs.YtfhfinnjlihghaaSep
open Go.RowKit Go.Lib Go.Proofs Go.Shelf
attribute [local go_sem] Oper.semAt_some

theorem results_cell1 {fn : Func} {p : Tmp} {ty : TypeId} (h : fn.results = #[.cell p ty]) (tmps : Array Value) (P : Program) (w : World) :
    (results fn tmps).run P w = ((asAddr (tmps.getD p undef)).run P w).andThen fun a w₁ => (loadVar ty a).run P w₁ := by
  simp only [results, h]
  simp [Sem.run_bind, Result.andThen]
/-- All sources are as they were. -/
def FreshP (K : List (List UInt8)) (V : List Value) (xs : List KV) : Prop := ∀ x ∈ xs, ofV K V x.1 = x.2
def FB (Y : HP) (g gr B b : Nat) (r : Bool) : HP :=
  Y * Blk b (.cells #[.pointer (some ⟨g, 0, none⟩)] 23) * Blk (b + 1) (.cells #[.bool r] 4) * Blk B (.cells #[.pointer (some ⟨gr, 0, none⟩)] 73)
def FI (K : List (List UInt8)) (V : List Value) (Z : HP) (xs : List KV) : HP := exH fun _ : PLift (FreshP K V xs) => Z
def FX (K : List (List UInt8)) (V : List Value) (Z : HP) (zs : List KV) : Code → List KV → HP
  | .ret, _ => exH fun _ : PLift (¬ FreshP K V zs) => Z
  | _, _ => fun _ => False
set_option maxHeartbeats 4000000 in
theorem dep_Fresh {W0 w : World} {R : HP} {g gr : Nat} {K K2 : List (List UInt8)} {V V2 : List Value} {last : Int}
    (H : Own W0 w (R * TabH g 29 [.int .i64 last] 3 K V * TabH gr 65 [] 3 K2 V2)) (hK : sortedK K) (hb : K.length ≤ 1000000) (hV : V.length = K.length) (hV1 : ∀ u ∈ V, ∃ i : Int, u = .int .i64 i)
    (hb2 : K2.length ≤ 1000000) (hV2 : V2.length = K2.length) (hV21 : ∀ u ∈ V2, ∃ i : Int, u = .int .i64 i) :
    Calls Try.prog 11 #[.pointer (some ⟨g, 0, none⟩), .pointer (some ⟨gr, 0, none⟩)] w fun e w' => ∃ r, e = .returned (.bool r) ∧ (r = true ↔ FreshP K V (K2.zip V2)) ∧
      Own W0 w' (R * TabH g 29 [.int .i64 last] 3 K V * TabH gr 65 [] 3 K2 V2) := by
  obtain ⟨vk, vv, HT⟩ := H.tab
  have HH := Kp.mk HT
  clear H HT
  refine (callsIn_wide (n := 9)).1 ?_
  refine callsIn_of_wp_marks Try.func11 rfl trivial ?_ rfl
  simp only [Try.ntmps11, List.size_toArray, List.length_cons, List.length_nil, Nat.reduceAdd, Nat.reduceSub, Array.replicate_succ, Array.replicate_zero, List.push_toArray, List.append_toArray, List.nil_append, List.cons_append]
  gi_wp2
  have H2 := (HH.out.alloc (.cells #[.pointer (some ⟨g, 0, none⟩)] 23)).alloc (.cells #[.bool false] 4)
  rw [World.size_alloc] at H2
  have HQ := Kp.mk (tab_All_int (g := gr) H2)
  clear H2
  refine ⟨trivial, (callsIn_wide.2 HQ.out).mono ?_⟩
  rintro e w1 ⟨B, rfl, H3⟩
  clear HQ HH
  obtain ⟨b, hbb⟩ : ∃ b, Kp (w.heap.size = b) := ⟨_, ⟨rfl⟩⟩
  rw [hbb.out] at H3 ⊢
  replace H3 := Kp.mk H3
  clear hbb
  obtain ⟨Y, hY⟩ : ∃ Y, Kp (Y = R * TabH g 29 [.int .i64 last] 3 K V * Row 9 1 vk K2.length (SV K2) * Row 3 1 vv K2.length V2 * Blk gr (.cells #[vk, vv] 65)) := ⟨_, ⟨rfl⟩⟩
  have hfin : Kp (∀ (W : World) (D : Nat) (r : Bool), Own W0 W (FB Y g gr B b r * Blk D (.deferred none)) → Own W0 W (R * TabH g 29 [.int .i64 last] 3 K V * TabH gr 65 [] 3 K2 V2)) := ⟨by
    intro W D r h
    unfold FB at h
    rw [hY.out] at h
    have h8 := h.drop.drop.drop.drop
    have h2 : TabO W0 _ _ gr 65 [] 3 K2 V2 := ⟨vk, vv, h8⟩
    exact h2.own⟩
  gi_wp2
  refine wp_range rfl (by omega) (gf := 37) (lb := #[.pointer (some ⟨B, 0, none⟩)]) rfl trivial (enters_of Try.func37 (by kernel_rfl) rfl) (fun _ => rfl) (all1_int W0 _ (by omega) B gr vk vv K2 V2 hV2 hb2)
    (fun pre => FI K V (FB Y g gr B b false) pre) (FX K V (FB Y g gr B b false) (K2.zip V2)) ?start ?need
    (fun x => { tmps := #[.pointer (some ⟨g, 0, none⟩), .pointer (some ⟨gr, 0, none⟩), .pointer (some ⟨b, 0, none⟩), undef, .pointer (some ⟨b + 1, 0, none⟩), .string (str x.1), x.2, .pointer (some ⟨gr, 0, none⟩), .bool false, .pointer (some ⟨gr, 0, none⟩), .pointer (some ⟨gr, 0, none⟩), .pointer (some ⟨gr, 0, none⟩), .func (.func 37) #[] #[.pointer (some ⟨B, 0, none⟩)], .string (str x.1), x.2, undef, undef, undef, undef, undef], defers := [] }) ?assign ?body ?done ?stop
  case start =>
    have h := H3.out
    rw [← hY.out] at h
    exact Own.ex (x := PLift.up (by intro x hx; cases hx)) h
  case need =>
    intro G pre W H
    obtain ⟨_, H⟩ := H.exL
    unfold FB at H
    rw [hY.out] at H
    exact ⟨cell_blk (H.focB B).blk rfl, cell_blk (H.focB gr).blk rfl, cell_blk (H.focB gr).blk rfl, (H.slR vk (by decide)), (H.slR vv (by decide))⟩
  case assign =>
    rintro lp ⟨kx, vx⟩ W Kc hKc
    dsimp only [encKV]
    gi_wp2
    exact hKc
  case body =>
    rintro G lp pre ⟨kx, vx⟩ W H hok
    have hmem : (kx, vx) ∈ K2.zip V2 := by
      obtain ⟨rest, hok⟩ := hok
      rw [hok]
      simp
    clear hok
    obtain ⟨i, rfl⟩ := hV21 vx (List.of_mem_zip hmem).2
    replace H := H.drop
    obtain ⟨⟨hpre⟩, H⟩ := H.exL
    obtain ⟨z, hz⟩ := ofV_int (K := K) (V := V) kx hV1 hV
    have hmem := Kp.mk hmem
    unfold FB at H
    have c2 : W.cell? ⟨b, 0, none⟩ = some (.pointer (some ⟨g, 0, none⟩)) := cell_blk (H.focB b).blk rfl
    have c4 : W.cell? ⟨b + 1, 0, none⟩ = some (.bool false) := cell_blk (H.focB (b + 1)).blk rfl
    have f4 : W.frozen? ⟨b + 1, 0, none⟩ = false := frz_blk (H.focB (b + 1)).blk
    have HV : Kp (Calls Try.prog 13 #[.pointer (some ⟨g, 0, none⟩), .string (str kx)] W fun e w' => e = .returned (.int .i64 z) ∧ w' = W) := ⟨by
      have h := H
      rw [hY.out] at h
      have h2 := dep_Of (last := last) (h.foc (TabH g 29 [.int .i64 last] 3 K V)).tab kx hK hb hV
      rwa [hz] at h2⟩
    have HS : Kp (Own W0 (W.setCell ⟨b + 1, 0, none⟩ (.bool false)) (FB Y g gr B b false * G)) := ⟨by
      have := (H.focB (b + 1)).set 0 (.bool false)
      refine this.eq ?_
      unfold FB
      ac_rfl⟩
    have HH := Kp.mk H
    have hpre := Kp.mk hpre
    have hzk := Kp.mk hz
    clear H hz
    rcases hzi : decide (z = i) with _ | _
    · have hzi := of_decide_eq_false hzi
      gi_wp2_with fail
      refine ⟨trivial, CallsIn.inRound lp ((callsIn_wide.2 HV.out).mono ?_)⟩
      rintro e w2 ⟨rfl, rfl⟩
      clear HV
      gi_wp2
      exact Own.toExL (x := PLift.up (fun hf => hzi (by
        have h1 := hf _ hmem.out
        rw [hzk.out] at h1
        injection h1))) HS.out
    · have hzi := of_decide_eq_true hzi
      subst hzi
      gi_wp2_with fail
      refine ⟨trivial, CallsIn.inRound lp ((callsIn_wide.2 HV.out).mono ?_)⟩
      rintro e w2 ⟨rfl, rfl⟩
      clear HV
      gi_wp2
      exact Own.toExL (x := PLift.up (by
        intro x hx
        rcases List.mem_append.1 hx with hx | hx
        · exact hpre.out x hx
        · rw [List.mem_singleton.1 hx]
          exact hzk.out)) HH.out
  case done =>
    intro D xs W hS H
    subst hS
    obtain ⟨⟨hfr⟩, H⟩ := H.exL
    have hfr := Kp.mk hfr
    unfold FB at H
    have f4 : W.frozen? ⟨b + 1, 0, none⟩ = false := frz_blk (H.focB (b + 1)).blk
    have HS : Kp (Own W0 (W.setCell ⟨b + 1, 0, none⟩ (.bool true)) (FB Y g gr B b true * Blk D (.deferred (some [])))) := ⟨by
      have := (H.focB (b + 1)).set 0 (.bool true)
      refine this.eq ?_
      unfold FB
      show _ * Blk (b + 1) (.cells #[.bool true] 4) = _
      ac_rfl⟩
    have c4 : W.cell? ⟨b + 1, 0, none⟩ = some (.bool false) := cell_blk (H.focB (b + 1)).blk rfl
    clear H
    gi_wp2
    have h := HS.out.obj (.deferred none)
    refine ⟨by simp, .inl ⟨_, _, rfl, run_takeDeferred HS.out.blk, ?_⟩⟩
    have k5 : ((W.setCell ⟨b + 1, 0, none⟩ (.bool true)).putObj D (.deferred none)).cell? ⟨b + 1, 0, none⟩ = some (.bool true) := by
      have h := h
      unfold FB at h
      exact cell_blk (h.focB (b + 1)).blk rfl
    refine ⟨.bool true, ?_, ⟨true, rfl, ⟨fun _ => hfr.out, fun _ => rfl⟩, hfin.out _ _ _ h⟩⟩
    rw [results_cell1 rfl]
    go_simp
  case stop =>
    intro D c pre W H
    cases c
    case ret =>
      change Own W0 W ((exH fun _ : PLift (¬ FreshP K V (K2.zip V2)) => FB Y g gr B b false) * Blk D (.deferred (some []))) at H
      obtain ⟨⟨hfr⟩, H⟩ := H.exL
      have hfr := Kp.mk hfr
      have H := Kp.mk H
      gi_wp2
      have k4 : W.cell? ⟨b + 1, 0, none⟩ = some (.bool false) := by
        have h := H.out
        unfold FB at h
        exact cell_blk (h.focB (b + 1)).blk rfl
      refine ⟨by simp, .inl ⟨_, _, rfl, run_takeDeferred H.out.blk, ?_⟩⟩
      have h := H.out.obj (.deferred none)
      have k5 : (W.putObj D (.deferred none)).cell? ⟨b + 1, 0, none⟩ = some (.bool false) := by
        have h := h
        unfold FB at h
        exact cell_blk (h.focB (b + 1)).blk rfl
      refine ⟨.bool false, ?_, ⟨false, rfl, ⟨by simp, fun hf => (hfr.out hf).elim⟩, hfin.out _ _ _ h⟩⟩
      rw [results_cell1 rfl]
      go_simp
    all_goals
      obtain ⟨_, _, _, h, ⟨_, _, _, _, hf, _⟩, _⟩ := H
      exact hf.elim
end Go.Proofs.YtfhfinnjlihghaaSep
