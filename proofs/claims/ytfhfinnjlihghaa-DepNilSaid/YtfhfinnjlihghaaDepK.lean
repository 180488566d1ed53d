/- Own work: nil receivers of dep, what a nil table hands, put_rec. -/
import Derived.Test.YtfhfinnjlihghaaDepS
import Derived.Test.YtfhfinnjlihghaaDepU
import Derived.Test.YtfhfinnjlihghaaTabrec
namespace Go.Proofs.YtfhfinnjlihghaaSep
open Go.RowKit Go.Lib Go.Proofs Go.Shelf
attribute [local go_sem] Oper.semAt_some

theorem put_rec {W0 w : World} {R : HP} {g T : Nat} {rest : List Value} {K : List (List UInt8)} {V : List Value} (H : TabO W0 w R g T rest 36 K V) (x : List UInt8) (z : Option Addr) (hK : sortedK K) (hb : K.length ≤ 1000000) (hV : V.length = K.length) (hV1 : ∀ u ∈ V, u.oneCell' = true) :
    Calls Try.prog 14 #[.pointer (some ⟨g, 0, none⟩), .string (str x), .pointer z] w fun e w' => e = .returned (.bool (!hasK K x)) ∧ TabO W0 w' R g T rest 36 (putK K x) (putV K V x (.pointer z)) := by
  rw [putK, putV]
  rcases hx : hasK K x with _ | _
  · exact put_rec_new H x z hK hb hV hV1 hx
  · exact put_rec_there H x z hK hb hV hx
theorem put_rec1 {W0 w : World} {R : HP} {g : Nat} (H : Own W0 w (R * TabH g 47 [] 36 [] [])) (x : List UInt8) (z : Option Addr) :
    Calls Try.prog 14 #[.pointer (some ⟨g, 0, none⟩), .string (str x), .pointer z] w fun e w' => e = .returned (.bool true) ∧ Own W0 w' (R * TabH g 47 [] 36 [x] [.pointer z]) :=
  (put_rec H.tab x z List.Pairwise.nil (by simp) rfl (fun _ hu => absurd hu (List.not_mem_nil))).mono fun _ _ ⟨he, h⟩ => ⟨he, h.own⟩
theorem nil_Turn (w : World) (s : Value) : Calls Try.prog 8 #[.pointer none, s] w fun e w' => e = .returned (.tuple #[]) ∧ w' = w := by
  go_enter Try.func8, Try.ntmps8
  go_wp2
  go_end0
  exact ⟨rfl, rfl⟩
theorem nil_Drop (w : World) (s : Value) : Calls Try.prog 12 #[.pointer none, s] w fun e w' => e = .returned (.tuple #[]) ∧ w' = w := by
  go_enter Try.func12, Try.ntmps12
  go_wp2
  go_end0
  exact ⟨rfl, rfl⟩
theorem nil_Of (w : World) (s : Value) : Calls Try.prog 13 #[.pointer none, s] w fun e w' => e = .returned (.int .i64 0) ∧ w' = w := by
  go_enter Try.func13, Try.ntmps13
  go_wp2
  go_ret
  exact ⟨rfl, rfl⟩
set_option maxHeartbeats 1000000 in
theorem fresh_nil {W0 w : World} {R : HP} {pv : Option Addr} (H : Own W0 w R) : Calls Try.prog 11 #[.pointer pv, .pointer none] w fun e w' => e = .returned (.bool false) ∧ Own W0 w' R := by
  have H2 := (H.alloc (.cells #[.pointer pv] 23)).alloc (.cells #[.bool false] 4)
  rw [World.size_alloc] at H2
  have H3 := Kp.mk H2.drop.drop
  clear H2
  go_enter Try.func11, Try.ntmps11
  go_wp2
  refine bodyPost_ret (v := .bool false) ?_ rfl ⟨rfl, H3.out⟩
  rw [results_cell1 rfl]
  go_simp
theorem allnil_bool {W0 w : World} {R : HP} (H : Own W0 w R) : Calls Try.prog 22 #[.pointer none] w fun e w' => ∃ B, e = .returned (.func (.func 36) #[] #[.pointer (some ⟨B, 0, none⟩)]) ∧ Own W0 w' (R * Blk B (.cells #[.pointer none] 31)) := by
  go_enter Try.func22, Try.ntmps22
  go_wp2
  go_ret
  exact ⟨_, rfl, H.alloc _⟩
/-- The iterator of a nil table hands nothing. -/
theorem all1_nil_bool (W0 : World) (n : Nat) (B : Nat) :
    Seqs W0 Fence.wide n Try.prog 36 #[.pointer (some ⟨B, 0, none⟩)] encKV (fun _ => emp) (fun _ _ => False) (fun xs => xs = []) (fun W => W.cell? ⟨B, 0, none⟩ = some (.pointer none)) := by
  intro lp J Jx W hneed hY h0
  have b0 := hneed _ _ h0
  have h0 := Kp.mk h0
  clear hneed hY
  refine callsIn_of_wp Try.func36 rfl trivial ?_ rfl
  simp only [Try.ntmps36, List.size_toArray, List.length_cons, List.length_nil, Nat.reduceAdd, Nat.reduceSub, Array.replicate_succ, Array.replicate_zero, List.push_toArray, List.append_toArray, List.nil_append, List.cons_append]
  gi_wp2
  refine bodyPost_ret (results_none rfl _ _ _) rfl ?_
  exact ⟨⟨_, rfl⟩, .inl h0.out⟩
set_option maxHeartbeats 4000000 in
theorem note_nil {W0 w : World} {R : HP} (H : Own W0 w R) :
    Calls Try.prog 10 #[.pointer none, .pointer none] w fun e w' => ∃ go, e = .returned (.pointer (some ⟨go, 0, none⟩)) ∧ Own W0 w' (R * TabH go 65 [] 3 [] []) := by
  have HH := Kp.mk H
  clear H
  refine (callsIn_wide (n := 9)).1 ?_
  refine callsIn_of_wp_marks Try.func10 rfl trivial ?_ rfl
  simp only [Try.ntmps10, List.size_toArray, List.length_cons, List.length_nil, Nat.reduceAdd, Nat.reduceSub, Array.replicate_succ, Array.replicate_zero, List.push_toArray, List.append_toArray, List.nil_append, List.cons_append]
  gi_wp2
  have hsz : ((w.alloc (.cells #[.pointer none] 23)).alloc (.cells #[.slice none 0 0, .slice none 0 0] 65)).heap.size = w.heap.size + 1 + 1 := by rw [World.size_alloc, World.size_alloc]
  have H2 := ((HH.out.alloc (.cells #[.pointer none] 23)).alloc (.cells #[.slice none 0 0, .slice none 0 0] 65)).alloc (.cells #[.pointer (some ⟨w.heap.size + 1, 0, none⟩)] 36)
  rw [hsz, World.size_alloc] at H2
  have HQ := Kp.mk (allnil_bool H2)
  clear H2 hsz
  refine ⟨trivial, (callsIn_wide.2 HQ.out).mono ?_⟩
  rintro e w1 ⟨B, rfl, H3⟩
  clear HQ HH
  obtain ⟨b, hbb⟩ : ∃ b, Kp (w.heap.size = b) := ⟨_, ⟨rfl⟩⟩
  rw [hbb.out] at H3 ⊢
  have H3 := Kp.mk H3
  clear hbb
  gi_wp2
  refine wp_range rfl (by omega) (gf := 36) (lb := #[.pointer (some ⟨B, 0, none⟩)]) rfl trivial (enters_of Try.func36 (by kernel_rfl) rfl) (fun _ => rfl) (all1_nil_bool W0 _ B)
    (fun _ => R * Blk b (.cells #[.pointer none] 23) * Blk (b + 1) (.cells #[.slice none 0 0, .slice none 0 0] 65) * Blk (b + 1 + 1) (.cells #[.pointer (some ⟨b + 1, 0, none⟩)] 36) * Blk B (.cells #[.pointer none] 31)) (fun _ _ _ => False) ?start ?need
    (fun x => { tmps := #[.pointer none, .pointer none, .pointer (some ⟨b, 0, none⟩), undef, .pointer none, .pointer (some ⟨b + 1 + 1, 0, none⟩), .string (str x.1), .agg #[.slice none 0 0, .slice none 0 0], .pointer (some ⟨b + 1, 0, none⟩), .pointer none, .func (.func 36) #[] #[.pointer (some ⟨B, 0, none⟩)], .string (str x.1), x.2, undef, undef, undef, undef, undef, undef, undef, undef, undef], defers := [] }) ?assign ?body ?done ?stop
  case start => exact H3.out
  case need =>
    intro G pre W H
    exact cell_blk (H.focB B).blk rfl
  case assign =>
    rintro lp ⟨kx, vx⟩ W Kc hKc
    dsimp only [encKV]
    gi_wp2
    exact hKc
  case body =>
    rintro G lp pre ⟨kx, vx⟩ W H hok
    exact hok.elim
  case done =>
    intro D xs W hS H
    subst hS
    have c5 : W.cell? ⟨b + 1 + 1, 0, none⟩ = some (.pointer (some ⟨b + 1, 0, none⟩)) := cell_blk (H.focB (b + 1 + 1)).blk rfl
    have H := Kp.mk H
    gi_wp2
    refine ⟨by simp, .inl ⟨_, _, rfl, run_takeDeferred H.out.blk, ?_⟩⟩
    refine ⟨_, results_tmp rfl _ _ _, ?_⟩
    refine ⟨b + 1, rfl, ?_⟩
    exact (((H.out.obj (.deferred none)).drop.drop.drop).rot.drop).tabNil 3
  case stop =>
    rintro D k pre W ⟨_, _, _, h, ⟨_, _, _, _, hf, _⟩, _⟩
    exact hf.elim
set_option maxHeartbeats 4000000 in
theorem fresh_empty {W0 w : World} {R : HP} {gr : Nat} (H : Own W0 w (R * TabH gr 65 [] 3 [] [])) :
    Calls Try.prog 11 #[.pointer none, .pointer (some ⟨gr, 0, none⟩)] w fun e w' => e = .returned (.bool true) ∧ Own W0 w' R := by
  obtain ⟨vk, vv, HT⟩ := H.tab
  have HH := Kp.mk HT
  clear H HT
  refine (callsIn_wide (n := 9)).1 ?_
  refine callsIn_of_wp_marks Try.func11 rfl trivial ?_ rfl
  simp only [Try.ntmps11, List.size_toArray, List.length_cons, List.length_nil, Nat.reduceAdd, Nat.reduceSub, Array.replicate_succ, Array.replicate_zero, List.push_toArray, List.append_toArray, List.nil_append, List.cons_append]
  gi_wp2
  have H2 := (HH.out.alloc (.cells #[.pointer none] 23)).alloc (.cells #[.bool false] 4)
  rw [World.size_alloc] at H2
  have HQ := Kp.mk (tab_All_int (g := gr) H2)
  clear H2
  refine ⟨trivial, (callsIn_wide.2 HQ.out).mono ?_⟩
  rintro e w1 ⟨B, rfl, H3⟩
  clear HQ HH
  obtain ⟨b, hbb⟩ : ∃ b, Kp (w.heap.size = b) := ⟨_, ⟨rfl⟩⟩
  rw [hbb.out] at H3 ⊢
  replace H3 := Kp.mk H3
  clear hbb
  obtain ⟨Y, hY⟩ : ∃ Y, Kp (Y = R * Row 9 1 vk ([] : List (List UInt8)).length (SV []) * Row 3 1 vv ([] : List (List UInt8)).length [] * Blk gr (.cells #[vk, vv] 65)) := ⟨_, ⟨rfl⟩⟩
  gi_wp2
  refine wp_range rfl (by omega) (gf := 37) (lb := #[.pointer (some ⟨B, 0, none⟩)]) rfl trivial (enters_of Try.func37 (by kernel_rfl) rfl) (fun _ => rfl) (all1_int W0 _ (by omega) B gr vk vv [] [] rfl (by simp))
    (fun _ => Y * Blk b (.cells #[.pointer none] 23) * Blk (b + 1) (.cells #[.bool false] 4) * Blk B (.cells #[.pointer (some ⟨gr, 0, none⟩)] 73)) (fun _ _ _ => False) ?start ?need
    (fun x => { tmps := #[.pointer none, .pointer (some ⟨gr, 0, none⟩), .pointer (some ⟨b, 0, none⟩), undef, .pointer (some ⟨b + 1, 0, none⟩), .string (str x.1), x.2, .pointer (some ⟨gr, 0, none⟩), .bool false, .pointer (some ⟨gr, 0, none⟩), .pointer (some ⟨gr, 0, none⟩), .pointer (some ⟨gr, 0, none⟩), .func (.func 37) #[] #[.pointer (some ⟨B, 0, none⟩)], .string (str x.1), x.2, undef, undef, undef, undef, undef], defers := [] }) ?assign ?body ?done ?stop
  case start =>
    have h := H3.out
    rw [← hY.out] at h
    exact h
  case need =>
    intro G pre W H
    rw [hY.out] at H
    exact ⟨cell_blk (H.focB B).blk rfl, cell_blk (H.focB gr).blk rfl, cell_blk (H.focB gr).blk rfl, (H.slR vk (by decide)), (H.slR vv (by decide))⟩
  case assign =>
    rintro lp ⟨kx, vx⟩ W Kc hKc
    dsimp only [encKV]
    gi_wp2
    exact hKc
  case body =>
    rintro G lp pre ⟨kx, vx⟩ W H ⟨r, hok⟩
    have := congrArg List.length hok
    simp at this
  case done =>
    intro D xs W hS H
    subst hS
    have f4 : W.frozen? ⟨b + 1, 0, none⟩ = false := frz_blk (H.focB (b + 1)).blk
    have HS := (H.focB (b + 1)).set 0 (.bool true)
    have HS : Kp (Own W0 (W.setCell ⟨b + 1, 0, none⟩ (.bool true)) (Y * Blk b (.cells #[.pointer none] 23) * Blk (b + 1) (.cells #[.bool true] 4) * Blk B (.cells #[.pointer (some ⟨gr, 0, none⟩)] 73) * Blk D (.deferred (some [])))) := ⟨by
      refine HS.eq ?_
      show _ * Blk (b + 1) (.cells #[.bool true] 4) = _
      ac_rfl⟩
    have c4 : W.cell? ⟨b + 1, 0, none⟩ = some (.bool false) := cell_blk (H.focB (b + 1)).blk rfl
    clear H
    gi_wp2
    have h := HS.out.obj (.deferred none)
    refine ⟨by simp, .inl ⟨_, _, rfl, run_takeDeferred HS.out.blk, ?_⟩⟩
    have k5 : ((W.setCell ⟨b + 1, 0, none⟩ (.bool true)).putObj D (.deferred none)).cell? ⟨b + 1, 0, none⟩ = some (.bool true) := cell_blk (h.focB (b + 1)).blk rfl
    refine ⟨.bool true, ?_, ⟨rfl, ?_⟩⟩
    · rw [results_cell1 rfl]
      go_simp
    · have h8 := h.drop.drop.drop.drop
      rw [hY.out] at h8
      exact h8.drop.drop.drop
  case stop =>
    rintro D k pre W ⟨_, _, _, h, ⟨_, _, _, _, hf, _⟩, _⟩
    exact hf.elim
end Go.Proofs.YtfhfinnjlihghaaSep
