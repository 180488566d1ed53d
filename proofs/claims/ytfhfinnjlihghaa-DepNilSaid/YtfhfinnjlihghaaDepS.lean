/- Own work: dep.Stale, by a walk: whatever Fresh tells. -/
import Derived.Test.YtfhfinnjlihghaaDepV
import Derived.Test.YtfhfinnjlihghaaAllrec
namespace Go.Proofs.YtfhfinnjlihghaaSep
open Go.RowKit Go.Lib Go.Proofs Go.Shelf
attribute [local go_sem] Oper.semAt_some

theorem info_st : (Try.prog.info? 9).map (fun i => (i.zero, i.size, i.bytes)) = some (some (.string ByteArray.empty), 1, 16) := by kernel_rfl
def staleN (f : Value → Bool) (pre : List KV) : List (List UInt8) := (pre.filter fun x => !f x.2).map (·.1)
theorem staleN_snoc (f : Value → Bool) (pre : List KV) (x : KV) : staleN f (pre ++ [x]) = if f x.2 then staleN f pre else staleN f pre ++ [x.1] := by
  rw [staleN, staleN, List.filter_append, List.map_append]
  by_cases h : f x.2 <;> simp [h]
theorem staleN_len (f : Value → Bool) (pre : List KV) : (staleN f pre).length ≤ pre.length := by
  rw [staleN, List.length_map]
  exact List.length_filter_le _ _
def SI (Y : HP) (pv : Option Addr) (gr B b : Nat) (N : List (List UInt8)) (vo : Value) : HP :=
  Y * Blk b (.cells #[.pointer pv] 23) * Blk (b + 1) (.cells #[vo] 24) * Blk B (.cells #[.pointer (some ⟨gr, 0, none⟩)] 44) * Row 9 1 vo N.length (SV N)
set_option maxHeartbeats 4000000 in
theorem dep_Stale {W0 w : World} {R : HP} {pv : Option Addr} {gr : Nat} {K2 : List (List UInt8)} {V2 : List Value} (f : Value → Bool)
    (H : Own W0 w (R * TabH gr 47 [] 36 K2 V2)) (hb2 : K2.length ≤ 1000000) (hV2 : V2.length = K2.length)
    (HF : ∀ G z w, z ∈ V2 → Own W0 w (R * G) → Calls Try.prog 11 #[.pointer pv, z] w fun e w' => e = .returned (.bool (f z)) ∧ Own W0 w' (R * G)) :
    Calls Try.prog 16 #[.pointer pv, .pointer (some ⟨gr, 0, none⟩)] w fun e w' => ∃ v, e = .returned v ∧
      Own W0 w' (R * TabH gr 47 [] 36 K2 V2 * Row 9 1 v (staleN f (K2.zip V2)).length (SV (staleN f (K2.zip V2)))) := by
  obtain ⟨vk, vv, HT⟩ := H.tab
  have HH := Kp.mk HT
  clear H HT
  have HF := Kp.mk HF
  refine (callsIn_wide (n := 9)).1 ?_
  refine callsIn_of_wp_marks Try.func16 rfl trivial ?_ rfl
  simp only [Try.ntmps16, List.size_toArray, List.length_cons, List.length_nil, Nat.reduceAdd, Nat.reduceSub, Array.replicate_succ, Array.replicate_zero, List.push_toArray, List.append_toArray, List.nil_append, List.cons_append]
  gi_wp2
  have H2 := (HH.out.alloc (.cells #[.pointer pv] 23)).alloc (.cells #[.slice none 0 0] 24)
  rw [World.size_alloc] at H2
  have HQ := Kp.mk (tab_All_rec (g := gr) H2)
  clear H2
  refine ⟨trivial, (callsIn_wide.2 HQ.out).mono ?_⟩
  rintro e w1 ⟨B, rfl, H3⟩
  clear HQ HH
  obtain ⟨b, hbb⟩ : ∃ b, Kp (w.heap.size = b) := ⟨_, ⟨rfl⟩⟩
  rw [hbb.out] at H3 ⊢
  replace H3 := Kp.mk H3
  clear hbb
  obtain ⟨Y, hY⟩ : ∃ Y, Kp (Y = R * Row 9 1 vk K2.length (SV K2) * Row 36 1 vv K2.length V2 * Blk gr (.cells #[vk, vv] 47)) := ⟨_, ⟨rfl⟩⟩
  gi_wp2
  refine wp_range rfl (by omega) (gf := 28) (lb := #[.pointer (some ⟨B, 0, none⟩)]) rfl trivial (enters_of Try.func28 (by kernel_rfl) rfl) (fun _ => rfl) (all1_rec W0 _ (by omega) B gr vk vv K2 V2 hV2 hb2)
    (fun pre => exH (SI Y pv gr B b (staleN f pre))) (fun _ _ _ => False) ?start ?need
    (fun x => { tmps := #[.pointer pv, .pointer (some ⟨gr, 0, none⟩), .pointer (some ⟨b, 0, none⟩), undef, .slice none 0 0, .pointer (some ⟨b + 1, 0, none⟩), .string (str x.1), x.2, .pointer (some ⟨gr, 0, none⟩), .func (.func 28) #[] #[.pointer (some ⟨B, 0, none⟩)], .string (str x.1), x.2, undef, undef, undef, undef, undef, undef, undef, undef, undef], defers := [] }) ?assign ?body ?done ?stop
  case start =>
    have h := H3.out.nil 9 1
    rw [← hY.out] at h
    exact Own.ex (x := .slice none 0 0) h
  case need =>
    intro G pre W H
    obtain ⟨vo, H⟩ := H.exL
    unfold SI at H
    rw [hY.out] at H
    exact ⟨cell_blk (H.focB B).blk rfl, cell_blk (H.focB gr).blk rfl, cell_blk (H.focB gr).blk rfl, (H.slR vk (by decide)), (H.slR vv (by decide))⟩
  case assign =>
    rintro lp ⟨kx, vx⟩ W Kc hKc
    dsimp only [encKV]
    gi_wp2
    exact hKc
  case body =>
    rintro G lp pre ⟨kx, vx⟩ W H hok
    have hmem : vx ∈ V2 := by
      obtain ⟨rest, hok⟩ := hok
      exact (List.of_mem_zip (show (kx, vx) ∈ K2.zip V2 by rw [hok]; simp)).2
    have hlen : (staleN f pre).length + 1 ≤ 1000000 := by
      have h1 := staleN_len f pre
      obtain ⟨r, hr⟩ := keys_of hV2 hok
      have h2 := congrArg List.length hr
      rw [List.length_append, List.length_map, List.length_cons] at h2
      omega
    clear hok
    replace H := H.drop
    obtain ⟨vo, H⟩ := H.exL
    have hsn := Kp.mk (staleN_snoc f pre (kx, vx))
    obtain ⟨n, hn⟩ : ∃ n, Kp ((staleN f pre).length = n) := ⟨_, ⟨rfl⟩⟩
    unfold SI at H
    rw [hn.out] at H hlen
    obtain ⟨A', c', hvo, _⟩ := (H.slR vo (by decide)).2
    subst hvo
    have c2 : W.cell? ⟨b, 0, none⟩ = some (.pointer pv) := cell_blk (H.focB b).blk rfl
    have HC : Kp (Calls Try.prog 11 #[.pointer pv, vx] W fun e w' => e = .returned (.bool (f vx)) ∧ Own W0 w' (SI Y pv gr B b (staleN f pre) (.slice A' n c') * G)) := ⟨by
      have h := H
      rw [hY.out] at h
      simp only [star_assoc] at h
      refine (HF.out _ _ _ hmem h).mono fun e w' ⟨he, hw⟩ => ⟨he, ?_⟩
      unfold SI
      rw [hY.out, hn.out]
      simp only [star_assoc]
      exact hw⟩
    clear H
    rcases hf : f vx with _ | _
    · rw [hf] at HC
      gi_wp2_with fail
      refine ⟨trivial, CallsIn.inRound lp ((callsIn_wide.2 HC.out).mono ?_)⟩
      rintro e w2 ⟨rfl, H⟩
      unfold SI at H
      rw [hn.out] at H
      have c5 : w2.cell? ⟨b + 1, 0, none⟩ = some (.slice A' n c') := cell_blk (H.focB (b + 1)).blk rfl
      have H5 := Kp.mk H
      clear HC H
      gi_wp2_with (gi_at_builtin; go_must (refine own_append_in (v := .slice A' n c') (vx := .slice (some ⟨w2.heap.size, 0, none⟩) 1 1) (H5.out.box (.cells #[.string (str kx)] 9)) rfl (.tmp 16) (.tmp 18) 24 (.string ByteArray.empty) 16 1 [.string (str kx)] rfl Try.underlying24 info_st rfl (by decide) rfl rfl ?c1 ?c2 ?c3 ?c4 ?_))
      case c1 =>
        have h := sl_box w2 #[.string (str kx)] 9 1 1 rfl (by decide)
        simpa using h
      case c2 => simp [Value.oneCell']
      case c3 => unfold maxLen; omega
      case c4 => omega
      intro v4 w4 H6 hz6 _
      have f6 : w4.frozen? ⟨b + 1, 0, none⟩ = false := frz_blk (H6.focB (b + 1)).blk
      have c6 : w4.cell? ⟨b + 1, 0, none⟩ = some (.slice A' n c') := cell_blk (H6.focB (b + 1)).blk rfl
      have H7 : Own W0 (w4.setCell ⟨b + 1, 0, none⟩ v4) (_ * Blk (b + 1) (.cells #[v4] 24)) := (H6.focB (b + 1)).set 0 v4
      obtain ⟨A4, c44, hv4, _⟩ := (H6.sl (by decide)).2
      subst hv4
      have H7 := Kp.mk H7
      clear H6 H5
      gi_wp2
      rw [hf] at hsn
      have hsn2 : staleN f (pre ++ [(kx, vx)]) = staleN f pre ++ [kx] := hsn.out
      show Own W0 _ (exH (SI Y pv gr B b (staleN f (pre ++ [(kx, vx)]))) * G)
      rw [hsn2]
      refine Own.toExL (x := .slice A4 (n + 1) c44) (H7.out.eq ?_)
      unfold SI
      rw [List.length_append, hn.out, SV_append]
      show _ = Y * Blk b _ * Blk (b + 1) _ * Blk B _ * Row 9 1 (.slice A4 (n + 1) c44) (n + 1) (SV (staleN f pre) ++ [.string (str kx)]) * G
      ac_rfl
    · rw [hf] at HC
      gi_wp2_with fail
      refine ⟨trivial, CallsIn.inRound lp ((callsIn_wide.2 HC.out).mono ?_)⟩
      rintro e w2 ⟨rfl, H⟩
      have H := Kp.mk H
      clear HC
      gi_wp2
      rw [hf] at hsn
      have hsn2 : staleN f (pre ++ [(kx, vx)]) = staleN f pre := hsn.out
      show Own W0 _ (exH (SI Y pv gr B b (staleN f (pre ++ [(kx, vx)]))) * G)
      rw [hsn2]
      exact Own.toExL (x := .slice A' n c') H.out
  case done =>
    intro D xs W hS H
    subst hS
    obtain ⟨vo, H⟩ := H.exL
    unfold SI at H
    obtain ⟨A', c', hvo, _⟩ := (H.slR vo (by decide)).2
    subst hvo
    have c5 := cell_blk (w := W) (j := 0) (H.focB (b + 1)).blk rfl
    have H := Kp.mk H
    gi_wp2
    refine ⟨by simp, .inl ⟨_, _, rfl, run_takeDeferred H.out.blk, ?_⟩⟩
    refine ⟨_, results_tmp rfl _ _ _, ?_⟩
    refine ⟨_, rfl, ?_⟩
    have h := (H.out.obj (.deferred none)).drop
    rw [hY.out] at h
    have h7 := (((h.focB B).drop.focB (b + 1)).drop.focB b).drop
    have h2 : TabO W0 _ (R * Row 9 1 (.slice A' (staleN f (K2.zip V2)).length c') (staleN f (K2.zip V2)).length (SV (staleN f (K2.zip V2)))) gr 47 [] 36 K2 V2 := ⟨vk, vv, h7.eq (by rw [star_right_comm _ (Blk gr _), star_right_comm _ (Row 36 1 vv _ _), star_right_comm _ (Row 9 1 vk _ _)])⟩
    exact h2.own.rot
  case stop =>
    rintro D k pre W ⟨_, _, _, h, ⟨_, _, _, _, hf, _⟩, _⟩
    exact hf.elim
end Go.Proofs.YtfhfinnjlihghaaSep
