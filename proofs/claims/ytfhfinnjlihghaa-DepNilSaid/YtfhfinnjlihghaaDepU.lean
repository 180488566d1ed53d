/- Own work: dep.Users, by a walk. -/
import Derived.Test.YtfhfinnjlihghaaDepS
import Derived.Test.YtfhfinnjlihghaaLast
namespace Go.Proofs.YtfhfinnjlihghaaSep
open Go.RowKit Go.Lib Go.Proofs Go.Shelf
attribute [local go_sem] Oper.semAt_some

def UI (Y : HP) (src : List UInt8) (gr B b : Nat) (N : List (List UInt8)) (vo : Value) : HP :=
  Y * Blk b (.cells #[.string (str src)] 9) * Blk (b + 1) (.cells #[vo] 24) * Blk B (.cells #[.pointer (some ⟨gr, 0, none⟩)] 44) * Row 9 1 vo N.length (SV N)
set_option maxHeartbeats 4000000 in
theorem dep_Users {W0 w : World} {R : HP} {gr : Nat} {K2 : List (List UInt8)} {V2 : List Value} (f : Value → Bool) (src : List UInt8)
    (H : Own W0 w (R * TabH gr 47 [] 36 K2 V2)) (hb2 : K2.length ≤ 1000000) (hV2 : V2.length = K2.length)
    (HF : ∀ z ∈ V2, (z = .pointer none ∧ f z = false) ∨ ∃ gz u, z = .pointer (some ⟨gz, 0, none⟩) ∧ ∀ G w, Own W0 w (R * G) → Calls Try.prog 25 #[.pointer (some ⟨gz, 0, none⟩), .string (str src)] w fun e w' => e = .returned (.tuple #[u, .bool (f z)]) ∧ w' = w) :
    Calls Try.prog 17 #[.pointer (some ⟨gr, 0, none⟩), .string (str src)] w fun e w' => ∃ v, e = .returned v ∧
      Own W0 w' (R * TabH gr 47 [] 36 K2 V2 * Row 9 1 v (staleN (fun v => !f v) (K2.zip V2)).length (SV (staleN (fun v => !f v) (K2.zip V2)))) := by
  obtain ⟨vk, vv, HT⟩ := H.tab
  have HH := Kp.mk HT
  clear H HT
  replace HF := Kp.mk HF
  refine (callsIn_wide (n := 9)).1 ?_
  refine callsIn_of_wp_marks Try.func17 rfl trivial ?_ rfl
  simp only [Try.ntmps17, List.size_toArray, List.length_cons, List.length_nil, Nat.reduceAdd, Nat.reduceSub, Array.replicate_succ, Array.replicate_zero, List.push_toArray, List.append_toArray, List.nil_append, List.cons_append]
  gi_wp2
  have H2 := (HH.out.alloc (.cells #[.string (str src)] 9)).alloc (.cells #[.slice none 0 0] 24)
  rw [World.size_alloc] at H2
  have HQ := Kp.mk (tab_All_rec (g := gr) H2)
  clear H2
  refine ⟨trivial, (callsIn_wide.2 HQ.out).mono ?_⟩
  rintro e w1 ⟨B, rfl, H3⟩
  clear HQ HH
  obtain ⟨b, hbb⟩ : ∃ b, Kp (w.heap.size = b) := ⟨_, ⟨rfl⟩⟩
  rw [hbb.out] at H3 ⊢
  replace H3 := Kp.mk H3
  clear hbb
  obtain ⟨Y, hY⟩ : ∃ Y, Kp (Y = R * Row 9 1 vk K2.length (SV K2) * Row 36 1 vv K2.length V2 * Blk gr (.cells #[vk, vv] 47)) := ⟨_, ⟨rfl⟩⟩
  gi_wp2
  refine wp_range rfl (by omega) (gf := 28) (lb := #[.pointer (some ⟨B, 0, none⟩)]) rfl trivial (enters_of Try.func28 (by kernel_rfl) rfl) (fun _ => rfl) (all1_rec W0 _ (by omega) B gr vk vv K2 V2 hV2 hb2)
    (fun pre => exH (UI Y src gr B b (staleN (fun v => !f v) pre))) (fun _ _ _ => False) ?start ?need
    (fun x => { tmps := #[.pointer (some ⟨gr, 0, none⟩), .string (str src), undef, .pointer (some ⟨b, 0, none⟩), .slice none 0 0, .pointer (some ⟨b + 1, 0, none⟩), .string (str x.1), x.2, undef, undef, .pointer (some ⟨gr, 0, none⟩), .func (.func 28) #[] #[.pointer (some ⟨B, 0, none⟩)], .string (str x.1), x.2, undef, undef, undef, undef, undef, undef, undef, undef, undef, undef, undef, undef, undef, undef, undef, undef], defers := [] }) ?assign ?body ?done ?stop
  case start =>
    have h := H3.out.nil 9 1
    rw [← hY.out] at h
    exact Own.ex (x := .slice none 0 0) h
  case need =>
    intro G pre W H
    obtain ⟨vo, H⟩ := H.exL
    unfold UI at H
    rw [hY.out] at H
    exact ⟨cell_blk (H.focB B).blk rfl, cell_blk (H.focB gr).blk rfl, cell_blk (H.focB gr).blk rfl, (H.slR vk (by decide)), (H.slR vv (by decide))⟩
  case assign =>
    rintro lp ⟨kx, vx⟩ W Kc hKc
    dsimp only [encKV]
    gi_wp2
    exact hKc
  case body =>
    rintro G lp pre ⟨kx, vx⟩ W H hok
    have hmem : vx ∈ V2 := by
      obtain ⟨rest, hok⟩ := hok
      exact (List.of_mem_zip (show (kx, vx) ∈ K2.zip V2 by rw [hok]; simp)).2
    have hlen : (staleN (fun v => !f v) pre).length + 1 ≤ 1000000 := by
      have h1 := staleN_len (fun v => !f v) pre
      obtain ⟨r, hr⟩ := keys_of hV2 hok
      have h2 := congrArg List.length hr
      rw [List.length_append, List.length_map, List.length_cons] at h2
      omega
    clear hok
    replace H := H.drop
    obtain ⟨vo, H⟩ := H.exL
    have hsn := Kp.mk (staleN_snoc (fun v => !f v) pre (kx, vx))
    obtain ⟨n, hn⟩ : ∃ n, Kp ((staleN (fun v => !f v) pre).length = n) := ⟨_, ⟨rfl⟩⟩
    unfold UI at H
    rw [hn.out] at H hlen
    obtain ⟨A', c', hvo, _⟩ := (H.slR vo (by decide)).2
    subst hvo
    have c2 : W.cell? ⟨b, 0, none⟩ = some (.string (str src)) := cell_blk (H.focB b).blk rfl
    have HH := Kp.mk H
    rcases HF.out vx hmem with ⟨rfl, hf⟩ | ⟨gz, u, rfl, HG⟩
    · clear H
      gi_wp2
      rw [hf] at hsn
      have hsn2 : staleN (fun v => !f v) (pre ++ [(kx, .pointer none)]) = staleN (fun v => !f v) pre := hsn.out
      show Own W0 _ (exH (UI Y src gr B b (staleN (fun v => !f v) (pre ++ [(kx, .pointer none)]))) * G)
      rw [hsn2]
      refine Own.toExL (x := .slice A' n c') ?_
      unfold UI
      rw [hn.out]
      exact HH.out
    · have HC : Kp (∀ nq, Calls Try.prog 25 #[.pointer (some ⟨gz, 0, none⟩), .string (str src)] (W.drewN nq) fun e w' => e = .returned (.tuple #[u, .bool (f (.pointer (some ⟨gz, 0, none⟩)))]) ∧ w' = W.drewN nq) := ⟨fun nq => by
        have h := H.drewN nq
        rw [hY.out] at h
        simp only [star_assoc] at h
        exact HG _ _ h⟩
      clear HG H hmem
      obtain ⟨r, hf⟩ : ∃ r, f (.pointer (some ⟨gz, 0, none⟩)) = r := ⟨_, rfl⟩
      rw [hf] at HC hsn
      gi_wp2
      refine wp_quiet_round (F := Fence.wide) rfl (by kernel_rfl) (by kernel_rfl) (by kernel_rfl) ?_
      repeat (gi_big_quiet_step (fail))
      refine wpQuietIn_step (fun _ _ _ _ => trivial) fun KK hKK => ?_
      rw [if_pos (wanted_none rfl _)]
      gi_big_quiet_op
      refine ⟨.tuple #[u, .bool r], fun _ => ?_, ?_⟩
      · gi_at_call 25
        exact (callsIn_wide.2 (HC.out _)).mono fun e w'' hh => ⟨hh.1, _, hh.2⟩
      refine hKK _ ?_
      clear hKK KK
      repeat (gi_big_quiet_step (fail))
      refine wpQuietIn_nil ?_
      intro _ hw'
      obtain ⟨nq, hw''⟩ := hw'
      subst hw''
      rcases r with _ | _
      · gi_wp2
        have hsn2 : staleN (fun v => !f v) (pre ++ [(kx, .pointer (some ⟨gz, 0, none⟩))]) = staleN (fun v => !f v) pre := hsn.out
        show Own W0 _ (exH (UI Y src gr B b (staleN (fun v => !f v) (pre ++ [(kx, .pointer (some ⟨gz, 0, none⟩))]))) * G)
        rw [hsn2]
        refine Own.toExL (x := .slice A' n c') ?_
        unfold UI
        rw [hn.out]
        exact HH.out.drewN nq
      · have H5 := Kp.mk (HH.out.drewN nq)
        have c5 : (W.drewN nq).cell? ⟨b + 1, 0, none⟩ = some (.slice A' n c') := cell_blk (H5.out.focB (b + 1)).blk rfl
        obtain ⟨w2, hw2⟩ : ∃ w2, W.drewN nq = w2 := ⟨_, rfl⟩
        rw [hw2] at H5 c5 ⊢
        clear hw2 HC HH c2
        gi_wp2_with (gi_at_builtin; go_must (refine own_append_in (v := .slice A' n c') (vx := .slice (some ⟨w2.heap.size, 0, none⟩) 1 1) (H5.out.box (.cells #[.string (str kx)] 9)) rfl (.tmp 25) (.tmp 27) 24 (.string ByteArray.empty) 16 1 [.string (str kx)] rfl Try.underlying24 info_st rfl (by decide) rfl rfl ?c1 ?c2 ?c3 ?c4 ?_))
        case c1 =>
          have h := sl_box w2 #[.string (str kx)] 9 1 1 rfl (by decide)
          simpa using h
        case c2 => simp [Value.oneCell']
        case c3 => unfold maxLen; omega
        case c4 => omega
        intro v4 w4 H6 hz6 _
        have f6 : w4.frozen? ⟨b + 1, 0, none⟩ = false := frz_blk (H6.focB (b + 1)).blk
        have c6 : w4.cell? ⟨b + 1, 0, none⟩ = some (.slice A' n c') := cell_blk (H6.focB (b + 1)).blk rfl
        have H7 : Own W0 (w4.setCell ⟨b + 1, 0, none⟩ v4) (_ * Blk (b + 1) (.cells #[v4] 24)) := (H6.focB (b + 1)).set 0 v4
        obtain ⟨A4, c44, hv4, _⟩ := (H6.sl (by decide)).2
        subst hv4
        have H7 := Kp.mk H7
        clear H6 H5
        gi_wp2
        have hsn2 : staleN (fun v => !f v) (pre ++ [(kx, .pointer (some ⟨gz, 0, none⟩))]) = staleN (fun v => !f v) pre ++ [kx] := hsn.out
        show Own W0 _ (exH (UI Y src gr B b (staleN (fun v => !f v) (pre ++ [(kx, .pointer (some ⟨gz, 0, none⟩))]))) * G)
        rw [hsn2]
        refine Own.toExL (x := .slice A4 (n + 1) c44) (H7.out.eq ?_)
        unfold UI
        rw [List.length_append, hn.out, SV_append]
        show _ = Y * Blk b _ * Blk (b + 1) _ * Blk B _ * Row 9 1 (.slice A4 (n + 1) c44) (n + 1) (SV (staleN (fun v => !f v) pre) ++ [.string (str kx)]) * G
        ac_rfl
  case done =>
    intro D xs W hS H
    subst hS
    obtain ⟨vo, H⟩ := H.exL
    unfold UI at H
    obtain ⟨A', c', hvo, _⟩ := (H.slR vo (by decide)).2
    subst hvo
    have c5 := cell_blk (w := W) (j := 0) (H.focB (b + 1)).blk rfl
    have H := Kp.mk H
    gi_wp2
    refine ⟨by simp, .inl ⟨_, _, rfl, run_takeDeferred H.out.blk, ?_⟩⟩
    refine ⟨_, results_tmp rfl _ _ _, ?_⟩
    refine ⟨_, rfl, ?_⟩
    have h := (H.out.obj (.deferred none)).drop
    rw [hY.out] at h
    have h7 := (((h.focB B).drop.focB (b + 1)).drop.focB b).drop
    have h2 : TabO W0 _ (R * Row 9 1 (.slice A' (staleN (fun v => !f v) (K2.zip V2)).length c') (staleN (fun v => !f v) (K2.zip V2)).length (SV (staleN (fun v => !f v) (K2.zip V2)))) gr 47 [] 36 K2 V2 := ⟨vk, vv, h7.eq (by rw [star_right_comm _ (Blk gr _), star_right_comm _ (Row 36 1 vv _ _), star_right_comm _ (Row 9 1 vk _ _)])⟩
    exact h2.own.rot
  case stop =>
    rintro D k pre W ⟨_, _, _, h, ⟨_, _, _, _, hf, _⟩, _⟩
    exact hf.elim
end Go.Proofs.YtfhfinnjlihghaaSep
