/- Own work: frame.Whole, by a walk. -/
import Derived.Test.YtfpiaeodblbfjaaFrameAll
namespace Go.Proofs.YtfpiaeodblbfjaaSep
open Go.RowKit Go.Lib Go.Proofs Go.Shelf
attribute [local go_sem] Oper.semAt_some

def endOf (fs : List (Nat × List UInt8)) : Nat := (fs.getLast?.map (·.1)).getD 0
def wholeF (l : List UInt8) : Nat × Int := if endOf (allF l) < l.length then (0, (nextF (l.drop (endOf (allF l)))).2.2) else ((allF l).length, 0)
theorem info_bs : (Try.prog.info? 24).map (fun i => (i.zero, i.size, i.bytes)) = some (some (.slice none 0 0), 1, 24) := by kernel_rfl
theorem allG_len (l : List UInt8) : ∀ f k, (allG l f k).length ≤ f := by
  intro f
  induction f with
  | zero => intro k; simp [allG]
  | succ f ih =>
    intro k
    rw [allG]
    split
    · simp [ih]
    · simp
theorem endOf_snoc (fs : List (Nat × List UInt8)) (x : Nat × List UInt8) : endOf (fs ++ [x]) = x.1 := by simp [endOf]
variable {W0 w : World} {R : HP} {l : List UInt8} {vd : Value}
def WI (R : HP) (B B4 B5 : Nat) (vb : Value) (pre : List Fr) (vo : Value) : HP :=
  R * Blk B (.cells #[vb] 24) * Blk B4 (.cells #[vo] 48) * Blk B5 (.cells #[.int .i64 (endOf (pre.map ct) : Int)] 3) * Row 24 1 vo pre.length (pre.map (·.2.1))
set_option maxHeartbeats 1000000 in
theorem frame_Whole (H : Own W0 w R) (hd : Held W0 R vd 1 l.length (U l)) (hl : l.length ≤ 100000000) :
    Calls Try.prog 27 #[vd] w fun e w' => ∃ A c, e = .returned (.tuple #[.slice A (wholeF l).1 c, .int .i64 (wholeF l).2]) ∧ Own W0 w' R := by
  have HD := Kp.mk hd
  obtain ⟨A, c, rfl, _⟩ := (hd.sl H).2
  have HH := Kp.mk H
  clear hd H
  refine (callsIn_wide (n := 9)).1 ?_
  refine callsIn_of_wp_marks Try.func27 rfl trivial ?_ rfl
  simp only [Try.ntmps27, List.size_toArray, List.length_cons, List.length_nil, Nat.reduceAdd, Nat.reduceSub, Array.replicate_succ, Array.replicate_zero, List.push_toArray, List.append_toArray, List.nil_append, List.cons_append]
  gi_wp2
  have H2 := (HH.out.alloc (.cells #[.slice none 0 0] 48)).alloc (.cells #[.int .i64 0] 3)
  rw [World.size_alloc] at H2
  have HQ := Kp.mk (frame_All (A := A) (k := l.length) (c := c) H2)
  clear H2
  refine ⟨trivial, (callsIn_wide.2 HQ.out).mono ?_⟩
  rintro e w1 ⟨B, rfl, H3⟩
  clear HQ
  obtain ⟨b, hb⟩ : ∃ b, Kp (w.heap.size = b) := ⟨_, ⟨rfl⟩⟩
  rw [hb.out] at H3 ⊢
  have H3 := Kp.mk H3
  clear hb
  gi_wp2
  refine wp_range rfl (by omega) (gf := 32) (lb := #[.pointer (some ⟨B, 0, none⟩)]) rfl trivial (enters_of Try.func32 (by kernel_rfl) rfl) (fun _ => rfl) (all1_seqs W0 _ (by omega) B (.slice A l.length c) l hl)
    (fun pre => exH (WI R B b (b + 1) (.slice A l.length c) pre)) (fun _ _ _ => False) ?start ?need
    (fun x => { tmps := #[.slice A l.length c, undef, .slice none 0 0, .int .i64 0, .pointer (some ⟨b, 0, none⟩), .pointer (some ⟨b + 1, 0, none⟩), .int .i64 (x.1 : Int), x.2.1, undef, undef, undef, .slice A l.length c, .func (.func 32) #[] #[.pointer (some ⟨B, 0, none⟩)], .int .i64 (x.1 : Int), x.2.1, undef, undef, undef, undef, undef, undef, undef, undef, undef, undef, undef, undef, undef, undef, undef, undef, undef, undef, undef], defers := [] }) ?assign ?body ?done ?stop
  case start =>
    have h := (H3.out.rot.rot.nil 24 1)
    refine Own.ex (x := .slice none 0 0) (h.eq ?_)
    unfold WI
    simp only [List.map_nil, List.length_nil]
    show _ = R * Blk B (.cells #[.slice A l.length c] 24) * Blk b (.cells #[.slice none 0 0] 48) * Blk (b + 1) (.cells #[.int .i64 0] 3) * Row 24 1 (.slice none 0 0) 0 []
    ac_rfl
  case need =>
    intro G pre W H
    obtain ⟨vo, H⟩ := H.exL
    unfold WI at H
    exact ⟨cell_blk (H.focB B).blk rfl, HD.out.sl H.drop.drop.drop.drop.drop⟩
  case assign =>
    rintro lp ⟨kx, vx, dx⟩ W K hK
    dsimp only [encF]
    gi_wp2
    exact hK
  case body =>
    rintro G lp pre ⟨kx, vx, dx⟩ W H ⟨rest, hok⟩
    have hlen : pre.length + 1 ≤ 100000000 := by
      have h1 := congrArg List.length hok
      have h2 := allG_len l l.length 0
      rw [allF] at h1
      simp only [List.length_append, List.length_map, List.length_cons] at h1
      omega
    clear hok
    obtain ⟨Ax, cx, hvx, _⟩ := (Own.sl (e := 5) (sz := 1) H (by decide)).2
    rw [star_assoc] at H
    obtain ⟨vo, H9⟩ := H.exL
    clear H
    rw [← star_assoc] at H9
    have H := H9.drop
    clear H9
    unfold WI at H
    obtain ⟨A', c', hvo, _⟩ := (H.slR vo (by decide)).2
    dsimp only at hvx
    subst hvo hvx
    have c4 : W.cell? ⟨b, 0, none⟩ = some (.slice A' pre.length c') := cell_blk (H.focB b).blk rfl
    have f4 : W.frozen? ⟨b, 0, none⟩ = false := frz_blk (H.focB b).blk
    have c5 : W.cell? ⟨b + 1, 0, none⟩ = some (.int .i64 (endOf (pre.map ct) : Int)) := cell_blk (H.focB (b + 1)).blk rfl
    have f5 : W.frozen? ⟨b + 1, 0, none⟩ = false := frz_blk (H.focB (b + 1)).blk
    have H5 : Own W0 (W.setCell ⟨b + 1, 0, none⟩ (.int .i64 (kx : Int))) (_ * Blk (b + 1) (.cells #[.int .i64 (kx : Int)] 3)) := (H.focB (b + 1)).set 0 (.int .i64 (kx : Int))
    clear H
    gi_wp2_with (gi_at_builtin; go_must (refine own_append_in (v := .slice A' pre.length c') (vx := .slice (some ⟨W.heap.size, 0, none⟩) 1 1) (H5.box (.cells #[.slice Ax dx.length cx] 24)) rfl (.tmp 16) (.tmp 18) 48 (.slice none 0 0) 24 1 [.slice Ax dx.length cx] rfl Try.underlying48 info_bs rfl (by decide) rfl rfl ?c1 ?c2 ?c3 ?c4 ?_))
    case c1 =>
      have h := sl_box (W.setCell ⟨b + 1, 0, none⟩ (.int .i64 (kx : Int))) #[.slice Ax dx.length cx] 24 1 1 rfl (by decide)
      simpa using h
    case c2 => simp [Value.oneCell']
    case c3 => unfold maxLen; omega
    case c4 => omega
    intro v4 w4 H6 hz6 _
    have c6 : w4.cell? ⟨b, 0, none⟩ = some (.slice A' pre.length c') := cell_blk (H6.focB b).blk rfl
    have f6 : w4.frozen? ⟨b, 0, none⟩ = false := frz_blk (H6.focB b).blk
    have H7 : Own W0 (w4.setCell ⟨b, 0, none⟩ v4) (_ * Blk b (.cells #[v4] 48)) := (H6.focB b).set 0 v4
    obtain ⟨A4, c44, hv4, _⟩ := (H6.sl (by decide)).2
    subst hv4
    clear H6 H5
    gi_wp2
    refine Own.toExL (x := .slice A4 (pre.length + 1) c44) (H7.eq ?_)
    unfold WI
    simp only [List.map_append, List.map_cons, List.map_nil, endOf_snoc, List.length_append, List.length_cons, List.length_nil]
    show _ = R * Blk B _ * Blk b _ * Blk (b + 1) (.cells #[.int .i64 (kx : Int)] 3) * _ * G
    ac_rfl
  case done =>
    intro D xs W hS H
    obtain ⟨vo, H⟩ := H.exL
    unfold WI at H
    rw [hS] at H
    have hlx : xs.length = (allF l).length := by rw [← hS, List.length_map]
    rw [hlx] at H
    clear hS
    obtain ⟨A', c', hvo, _⟩ := (H.slR vo (by decide)).2
    subst hvo
    obtain ⟨q, hq⟩ : ∃ q, Kp (endOf (allF l) = q) := ⟨_, ⟨rfl⟩⟩
    rw [hq.out] at H
    have c4 : W.cell? ⟨b, 0, none⟩ = some (.slice A' (allF l).length c') := cell_blk (H.focB b).blk rfl
    have c5 : W.cell? ⟨b + 1, 0, none⟩ = some (.int .i64 (q : Int)) := cell_blk (H.focB (b + 1)).blk rfl
    by_cases hlt : q < l.length
    · have hw : Kp (wholeF l = (0, (nextF (l.drop q)).2.2)) := ⟨by rw [wholeF, hq.out, if_pos hlt]⟩
      obtain ⟨X, hx1, hx2⟩ := HD.out.cutFrom Try.underlying24 info_u8 (q : Int) q rfl (by omega)
      have HQ := frame_Next H (vd := .slice X (l.length - q) (c - q)) hx2.more.more.more.more.more (by rw [List.length_drop]; omega)
      have HQ := Kp.mk HQ
      clear hx2 H
      gi_wp2
      refine ⟨trivial, (callsIn_wide.2 HQ.out).mono ?_⟩
      rintro e w2 ⟨v, rfl, H2, hz2⟩
      obtain ⟨A2, c2, hv2, _⟩ := (H2.sl (by decide)).2
      subst hv2
      have H2 := Kp.mk H2.drop
      clear HQ hz2
      gi_wp2
      refine ⟨by simp, .inl ⟨_, _, rfl, run_takeDeferred H2.out.blk, ?_⟩⟩
      refine ⟨_, results_tmp2 rfl _ _ _, ?_⟩
      refine ⟨none, 0, ?_, (H2.out.obj _).drop.drop.drop.drop.drop⟩
      rw [hw.out]
      rfl
    · have hw : Kp (wholeF l = ((allF l).length, 0)) := ⟨by rw [wholeF, hq.out, if_neg hlt]⟩
      have H := Kp.mk H
      gi_wp2
      refine ⟨by simp, .inl ⟨_, _, rfl, run_takeDeferred H.out.blk, ?_⟩⟩
      refine ⟨_, results_tmp2 rfl _ _ _, ?_⟩
      refine ⟨A', c', ?_, (H.out.obj _).drop.drop.drop.drop.drop⟩
      rw [hw.out]
      rfl
  case stop =>
    rintro D k pre W ⟨_, _, _, h, ⟨_, _, _, _, hf, _⟩, _⟩
    exact hf.elim
end Go.Proofs.YtfpiaeodblbfjaaSep
