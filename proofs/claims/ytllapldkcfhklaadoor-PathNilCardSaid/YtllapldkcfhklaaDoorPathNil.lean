/- Own work: PathNil: the walk. -/
import Derived.Test.YtllapldkcfhklaaDoorPathN
import Derived.Test.YtllapldkcfhklaaDoorPathRights
namespace Go.Proofs.YtllapldkcfhklaaDoorSep
open Go.RowKit Go.Lib Go.Proofs Go.Shelf
attribute [local go_sem] Oper.semAt_some
set_option maxHeartbeats 4000000 in
theorem pathNil_core (l : ByteArray) (n : Int) (w : World) (m : Int) (hm : MaxL w (Old w) m) :
    Calls Tryd.prog 7 #[.string l, .int .i64 n] w fun e w' => e = .returned (.bool true) ∧ Below w.heap.size w w' := by
  have HH := Kp.mk (path_head hm (own_start w))
  clear hm
  refine (callsIn_wide (n := 9)).1 ?_
  refine callsIn_of_wp_marks Tryd.func7 rfl trivial ?_ rfl
  simp only [Tryd.ntmps7, List.size_toArray, List.length_cons, List.length_nil, Nat.reduceAdd, Nat.reduceSub, Array.replicate_succ, Array.replicate_zero, List.push_toArray, List.append_toArray, List.nil_append, List.cons_append]
  gi_wp2_with fail
  refine ⟨trivial, (callsIn_wide.2 HH.out).mono ?_⟩
  rintro e w1 ⟨rfl, H1⟩
  replace H1 := Kp.mk H1
  clear HH
  have HG := Kp.mk (tnil_Get w1 (.string l))
  gi_wp2_with fail
  refine ⟨trivial, (callsIn_wide.2 HG.out).mono ?_⟩
  rintro e w2 ⟨rfl, rfl⟩
  clear HG
  have HQ := Kp.mk (allnil_int (H1.out.alloc (.cells #[.int .i64 0] 3)))
  obtain ⟨b, hbb⟩ : ∃ b, Kp (w2.heap.size = b) := ⟨_, ⟨rfl⟩⟩
  clear H1
  rw [hbb.out] at HQ
  gi_wp2_with fail
  rw [hbb.out]
  refine ⟨trivial, (callsIn_wide.2 HQ.out).mono ?_⟩
  rintro e w3 ⟨B, rfl, H3⟩
  clear HQ hbb
  have H3 := Kp.mk H3
  gi_wp2
  refine wp_range rfl (by omega) (gf := 40) (lb := #[.pointer (some ⟨B, 0, none⟩)]) rfl trivial (enters_of Tryd.func40 (by kernel_rfl) rfl) (fun _ => rfl) (all1_nil_int w _ B)
    (fun _ => Old w * Blk b (.cells #[.int .i64 0] 3) * Blk B (.cells #[.pointer none] 39)) (fun _ _ _ => False) ?start ?need ?a1 ?assign ?body ?done ?stop
  case start => exact H3.out
  case need =>
    intro G pre W H
    exact cell_blk (H.focB B).blk rfl
  case assign =>
    intro lp x W Kc hKc
    gi_wp2
    exact hKc
  case body =>
    rintro G lp pre ⟨kx, vx⟩ W H hok
    exact hok.elim
  case done =>
    intro D xs W hS H
    subst hS
    have c5 : W.cell? ⟨b, 0, none⟩ = some (.int .i64 0) := cell_blk (H.focB b).blk rfl
    have H := Kp.mk H
    clear H3
    have h1 := Kp.mk (tnil_Put W (.string l) (.int .i64 n))
    have h2 := Kp.mk (tnil_Drop W (.string l))
    have h3 := Kp.mk (tnil_Len W)
    have h4 := Kp.mk (tnil_Clone W)
    have h5 := Kp.mk (tnil_Keys W)
    gi_wp2_with fail
    refine ⟨trivial, (callsIn_wide.2 h1.out).mono ?_⟩
    rintro e w4 ⟨rfl, rfl⟩
    gi_wp2_with fail
    refine ⟨trivial, (callsIn_wide.2 h2.out).mono ?_⟩
    rintro e w4 ⟨rfl, rfl⟩
    gi_wp2_with fail
    refine ⟨trivial, (callsIn_wide.2 h3.out).mono ?_⟩
    rintro e w4 ⟨rfl, rfl⟩
    gi_wp2_with fail
    refine ⟨trivial, (callsIn_wide.2 h4.out).mono ?_⟩
    rintro e w4 ⟨rfl, rfl⟩
    gi_wp2_with fail
    refine ⟨trivial, (callsIn_wide.2 h5.out).mono ?_⟩
    rintro e w4 ⟨rfl, rfl⟩
    clear h1 h2 h3 h4 h5
    gi_wp2
    refine ⟨by simp, .inl ⟨_, _, rfl, run_takeDeferred H.out.blk, ?_⟩⟩
    refine ⟨_, results_tmp rfl _ _ _, ?_⟩
    exact ⟨rfl, (H.out.obj (.deferred none)).drop.drop.drop.old⟩
  case stop =>
    rintro D k pre W ⟨_, _, _, h, ⟨_, _, _, _, hf, _⟩, _⟩
    exact hf.elim
theorem pathNil_walk (a : ByteArray) (_ : a.size ≤ 140737488351232) (n : Int) (_ : (Lit.int .i64 n).wf = true) (w : World) (hm : ∃ m, w.cell? ⟨0, 0, none⟩ = some (.int .i64 m)) :
    Calls Tryd.prog 7 #[.string a, .int .i64 n] w fun e w' => e = .returned (.bool true) ∧ Below w.heap.size w w' := by
  obtain ⟨m, hm⟩ := hm
  exact pathNil_core a n w m (maxL_of hm)
end Go.Proofs.YtllapldkcfhklaaDoorSep
