/- Own work: dep.Note, by a walk. -/
import Derived.Test.YtfhfinnjlihghaaDepB
namespace Go.Proofs.YtfhfinnjlihghaaSep
open Go.RowKit Go.Lib Go.Proofs Go.Shelf
attribute [local go_sem] Oper.semAt_some

def kOf (pre : List KV) : List (List UInt8) := pre.map (·.1)
theorem kOf_snoc (pre : List KV) (x : KV) : kOf (pre ++ [x]) = kOf pre ++ [x.1] := by simp [kOf]
def NI (Y : HP) (g gr B b : Nat) (pre : List (List UInt8)) (K : List (List UInt8)) (V : List Value) : HP :=
  Y * Blk b (.cells #[.pointer (some ⟨g, 0, none⟩)] 23) * Blk (b + 1 + 1) (.cells #[.pointer (some ⟨b + 1, 0, none⟩)] 36) * Blk B (.cells #[.pointer (some ⟨gr, 0, none⟩)] 31) * TabH (b + 1) 65 [] 3 pre (noteV K V pre)
set_option maxHeartbeats 4000000 in
theorem dep_Note {W0 w : World} {R : HP} {g gr : Nat} {K K2 : List (List UInt8)} {V V2 : List Value} {last : Int}
    (H : Own W0 w (R * TabH g 29 [.int .i64 last] 3 K V * TabH gr 34 [] 4 K2 V2)) (hK : sortedK K) (hb : K.length ≤ 1000000) (hV : V.length = K.length) (hV1 : ∀ u ∈ V, ∃ i : Int, u = .int .i64 i)
    (hK2 : sortedK K2) (hb2 : K2.length ≤ 1000000) (hV2 : V2.length = K2.length) :
    Calls Try.prog 10 #[.pointer (some ⟨g, 0, none⟩), .pointer (some ⟨gr, 0, none⟩)] w fun e w' => ∃ go, e = .returned (.pointer (some ⟨go, 0, none⟩)) ∧
      Own W0 w' (R * TabH g 29 [.int .i64 last] 3 K V * TabH gr 34 [] 4 K2 V2 * TabH go 65 [] 3 K2 (noteV K V K2)) := by
  obtain ⟨vk, vv, HT⟩ := H.tab
  have HH := Kp.mk HT
  clear H HT
  refine (callsIn_wide (n := 9)).1 ?_
  refine callsIn_of_wp_marks Try.func10 rfl trivial ?_ rfl
  simp only [Try.ntmps10, List.size_toArray, List.length_cons, List.length_nil, Nat.reduceAdd, Nat.reduceSub, Array.replicate_succ, Array.replicate_zero, List.push_toArray, List.append_toArray, List.nil_append, List.cons_append]
  gi_wp2
  have hsz : ((w.alloc (.cells #[.pointer (some ⟨g, 0, none⟩)] 23)).alloc (.cells #[.slice none 0 0, .slice none 0 0] 65)).heap.size = w.heap.size + 1 + 1 := by rw [World.size_alloc, World.size_alloc]
  have H2 := ((HH.out.alloc (.cells #[.pointer (some ⟨g, 0, none⟩)] 23)).alloc (.cells #[.slice none 0 0, .slice none 0 0] 65)).alloc (.cells #[.pointer (some ⟨w.heap.size + 1, 0, none⟩)] 36)
  rw [hsz, World.size_alloc] at H2
  have HQ := Kp.mk (tab_All_bool (g := gr) H2)
  clear H2 hsz
  refine ⟨trivial, (callsIn_wide.2 HQ.out).mono ?_⟩
  rintro e w1 ⟨B, rfl, H3⟩
  clear HQ HH
  obtain ⟨b, hbb⟩ : ∃ b, Kp (w.heap.size = b) := ⟨_, ⟨rfl⟩⟩
  rw [hbb.out] at H3 ⊢
  have H3 := Kp.mk H3
  clear hbb
  obtain ⟨Y, hY⟩ : ∃ Y, Kp (Y = R * TabH g 29 [.int .i64 last] 3 K V * Row 9 1 vk K2.length (SV K2) * Row 4 1 vv K2.length V2 * Blk gr (.cells #[vk, vv] 34)) := ⟨_, ⟨rfl⟩⟩
  gi_wp2
  refine wp_range rfl (by omega) (gf := 36) (lb := #[.pointer (some ⟨B, 0, none⟩)]) rfl trivial (enters_of Try.func36 (by kernel_rfl) rfl) (fun _ => rfl) (all1_bool W0 _ (by omega) B gr vk vv K2 V2 hV2 hb2)
    (fun pre => NI Y g gr B b (kOf pre) K V) (fun _ _ _ => False) ?start ?need
    (fun x => { tmps := #[.pointer (some ⟨g, 0, none⟩), .pointer (some ⟨gr, 0, none⟩), .pointer (some ⟨b, 0, none⟩), undef, .pointer none, .pointer (some ⟨b + 1 + 1, 0, none⟩), .string (str x.1), .agg #[.slice none 0 0, .slice none 0 0], .pointer (some ⟨b + 1, 0, none⟩), .pointer (some ⟨gr, 0, none⟩), .func (.func 36) #[] #[.pointer (some ⟨B, 0, none⟩)], .string (str x.1), x.2, undef, undef, undef, undef, undef, undef, undef, undef, undef], defers := [] }) ?assign ?body ?done ?stop
  case start =>
    have h := (H3.out.focB (b + 1)).tabNil 3
    rw [← hY.out] at h
    exact h
  case need =>
    intro G pre W H
    unfold NI at H
    rw [hY.out] at H
    exact ⟨cell_blk (H.focB B).blk rfl, cell_blk (H.focB gr).blk rfl, cell_blk (H.focB gr).blk rfl, (H.slR vk (by decide)), (H.slR vv (by decide))⟩
  case assign =>
    rintro lp ⟨kx, vx⟩ W Kc hKc
    dsimp only [encKV]
    gi_wp2
    exact hKc
  case body =>
    rintro G lp pre ⟨kx, vx⟩ W H hok
    obtain ⟨r, hr⟩ := keys_of hV2 hok
    clear hok
    change K2 = kOf pre ++ kx :: r at hr
    replace H := H.drop
    have hs : sortedK (kOf pre ++ kx :: r) := hr ▸ hK2
    have hlp : (kOf pre).length ≤ 1000000 := by
      have := congrArg List.length hr
      rw [List.length_append] at this
      omega
    obtain ⟨z, hz⟩ := ofV_int (K := K) (V := V) kx hV1 hV
    have hpe := put_end (x := kx) (u := .int .i64 z) (V := noteV K V (kOf pre)) hs (by rw [noteV, List.length_map])
    have hnx : noteV K V (kOf pre ++ [kx]) = noteV K V (kOf pre) ++ [.int .i64 z] := by simp [noteV, hz]
    have hI : NI Y g gr B b (kOf (pre ++ [(kx, vx)])) K V = Y * Blk b (.cells #[.pointer (some ⟨g, 0, none⟩)] 23) * Blk (b + 1 + 1) (.cells #[.pointer (some ⟨b + 1, 0, none⟩)] 36) * Blk B (.cells #[.pointer (some ⟨gr, 0, none⟩)] 31) * TabH (b + 1) 65 [] 3 (putK (kOf pre) kx) (putV (kOf pre) (noteV K V (kOf pre)) kx (.int .i64 z)) := by
      rw [hpe.2.1, hpe.2.2, ← hnx, kOf_snoc]
      rfl
    have hI := Kp.mk hI
    unfold NI at H
    have c2 : W.cell? ⟨b, 0, none⟩ = some (.pointer (some ⟨g, 0, none⟩)) := cell_blk (H.focB b).blk rfl
    have c5 : W.cell? ⟨b + 1 + 1, 0, none⟩ = some (.pointer (some ⟨b + 1, 0, none⟩)) := cell_blk (H.focB (b + 1 + 1)).blk rfl
    have HV : Kp (∀ nq, Calls Try.prog 13 #[.pointer (some ⟨g, 0, none⟩), .string (str kx)] (W.drewN nq) fun e w' => e = .returned (.int .i64 z) ∧ w' = W.drewN nq) := ⟨fun nq => by
      have h := H.drewN nq
      rw [hY.out] at h
      have h2 := dep_Of (last := last) (h.foc (TabH g 29 [.int .i64 last] 3 K V)).tab kx hK hb hV
      rwa [hz] at h2⟩
    have HP : Kp (∀ nq, Calls Try.prog 18 #[.pointer (some ⟨b + 1, 0, none⟩), .string (str kx), .int .i64 z] (W.drewN nq) fun e w' => e = .returned (.bool true) ∧ Own W0 w' (NI Y g gr B b (kOf (pre ++ [(kx, vx)])) K V * G)) := ⟨fun nq => by
      have h := put_int ((H.drewN nq).foc (TabH (b + 1) 65 [] 3 (kOf pre) (noteV K V (kOf pre)))).tab kx z (List.pairwise_append.1 hs).1 hlp (by rw [noteV, List.length_map]) (by
        intro u hu
        obtain ⟨y, _, rfl⟩ := List.mem_map.1 hu
        obtain ⟨i, hi⟩ := ofV_int (K := K) (V := V) y hV1 hV
        rw [hi]
        rfl)
      refine h.mono ?_
      rintro e w' ⟨rfl, h2⟩
      rw [hpe.1]
      refine ⟨rfl, h2.own.eq ?_⟩
      rw [hI.out]
      ac_rfl⟩
    clear hI hpe hnx hz H
    gi_wp2
    refine wp_last_round (F := Fence.wide) (C := fun w' => ∃ n, w' = W.drewN n) (os := [_, _, _, _, _, _, _]) (oL := _) rfl rfl (by kernel_rfl) (by kernel_rfl) (by kernel_rfl) (by kernel_rfl) (by kernel_rfl) ⟨1, rfl⟩ ?_
    simp only [List.cons_append, List.nil_append]
    repeat (gi_big_quiet_step (fail))
    refine wpQuietIn_step (fun _ _ _ _ => trivial) fun KK hKK => ?_
    rw [if_pos (wanted_none rfl _)]
    gi_big_quiet_op
    refine ⟨.int .i64 z, fun _ => ?_, ?_⟩
    · gi_at_call 13
      exact (callsIn_wide.2 (HV.out _)).mono fun e w'' hh => ⟨hh.1, _, hh.2⟩
    refine hKK _ ?_
    clear hKK KK
    repeat (gi_big_quiet_step (fail))
    refine quiet_nop rfl ?_
    rintro _ ⟨nq, rfl⟩
    gi_wp2_with fail
    refine ⟨trivial, CallsIn.inRound lp ((callsIn_wide.2 (HP.out nq)).mono ?_)⟩
    rintro e w2 ⟨rfl, H2⟩
    replace H2 := Kp.mk H2
    gi_wp2
    exact H2.out
  case done =>
    intro D xs W hS H
    subst hS
    rw [show kOf (K2.zip V2) = K2 from List.map_fst_zip (by omega)] at H
    unfold NI at H
    have c5 : W.cell? ⟨b + 1 + 1, 0, none⟩ = some (.pointer (some ⟨b + 1, 0, none⟩)) := cell_blk (H.focB (b + 1 + 1)).blk rfl
    have H := Kp.mk H
    gi_wp2
    refine ⟨by simp, .inl ⟨_, _, rfl, run_takeDeferred H.out.blk, ?_⟩⟩
    refine ⟨_, results_tmp rfl _ _ _, ?_⟩
    refine ⟨b + 1, rfl, ?_⟩
    have h := (H.out.obj (.deferred none)).drop
    rw [hY.out] at h
    have h1 : Own W0 (W.putObj D (.deferred none)) (R * TabH g 29 [.int .i64 last] 3 K V * TabH (b + 1) 65 [] 3 K2 (noteV K V K2) * Row 9 1 vk K2.length (SV K2) * Row 4 1 vv K2.length V2 * Blk gr (.cells #[vk, vv] 34)) := by
      have h9 := h.foc (Blk B (.cells #[.pointer (some ⟨gr, 0, none⟩)] 31))
      have h8 := h9.drop.foc (Blk b (.cells #[.pointer (some ⟨g, 0, none⟩)] 23))
      have h7 := h8.drop.foc (Blk (b + 1 + 1) (.cells #[.pointer (some ⟨b + 1, 0, none⟩)] 36))
      exact h7.drop.eq (by ac_rfl)
    have h2 : TabO W0 _ _ gr 34 [] 4 K2 V2 := ⟨vk, vv, h1⟩
    exact h2.own.eq (by ac_rfl)
  case stop =>
    rintro D k pre W ⟨_, _, _, h, ⟨_, _, _, _, hf, _⟩, _⟩
    exact hf.elim
end Go.Proofs.YtfhfinnjlihghaaSep
