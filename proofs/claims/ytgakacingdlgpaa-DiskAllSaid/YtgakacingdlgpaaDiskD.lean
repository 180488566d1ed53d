/- Own work: the disk's Used, Free, take. -/
import Derived.Test.YtgakacingdlgpaaDiskC
namespace Go.Proofs.YtgakacingdlgpaaSep
open Go.RowKit Go.Lib Go.Proofs Go.Shelf

theorem sum_of_subset {α : Type} (f : α → Nat) : ∀ (l m : List α), l.Nodup → l ⊆ m → (l.map f).sum ≤ (m.map f).sum
  | [], _, _, _ => Nat.zero_le _
  | a :: l, m, h, hs => by
    rw [List.nodup_cons] at h
    obtain ⟨s, u, rfl⟩ := List.append_of_mem (hs (List.mem_cons_self ..))
    have := sum_of_subset f l (s ++ u) h.2 (by
      intro x hx
      have hx2 := hs (List.mem_cons_of_mem _ hx)
      rcases List.mem_append.1 hx2 with h2 | h2
      · exact List.mem_append.2 (.inl h2)
      · rcases List.mem_cons.1 h2 with rfl | h2
        · exact absurd hx h.1
        · exact List.mem_append.2 (.inr h2))
    simp only [List.map_append, List.map_cons, List.sum_append, List.sum_cons] at this ⊢
    omega
theorem Own.rngSub {W0 w : World} {R : HP} {b r : Nat} {L D : AL} (H : Own W0 w (R * RngH b r L D)) : D ⊆ L ∧ D.Nodup ∧ L.Nodup := by
  obtain ⟨es, clock, T, S, seen, hm, rfl, rfl, hST, hS, hse, H2⟩ := H.rng
  clear H2 H
  refine ⟨fun x hx => ?_, ?_, ?_⟩
  · obtain ⟨s, hs, rfl⟩ := List.mem_map.1 hx
    exact List.mem_map.2 ⟨s, hST hs, rfl⟩
  · have hk := hm.keys
    unfold KeysA at hk
    rw [List.map_map] at hk
    have hSn : S.Nodup := List.Pairwise.of_map (·.2) (fun a b h e => h (by rw [e])) hS
    have : ∀ l : List ((List UInt8 × Value) × Nat), l.Nodup → l ⊆ T → (l.map (·.1)).Nodup := by
      intro l
      induction l with
      | nil => intro _ _; exact List.Pairwise.nil
      | cons a l ih =>
        intro h1 h2
        rw [List.nodup_cons] at h1
        rw [List.map_cons, List.nodup_cons]
        refine ⟨?_, ih h1.2 (fun x hx => h2 (List.mem_cons_of_mem _ hx))⟩
        intro hc
        obtain ⟨s, hs, he⟩ := List.mem_map.1 hc
        have := inj_of_nodup _ T hk s (h2 (List.mem_cons_of_mem _ hs)) a (h2 (List.mem_cons_self ..)) (congrArg Prod.fst he)
        subst this
        exact h1.1 hs
    exact this S hSn hST
  · exact List.Pairwise.of_map (·.1) (fun a b h e => h (by rw [e])) hm.keys
def lenV : Value → Nat
  | .slice _ n _ => n
  | _ => 0
theorem FRel.shape {W0 w : World} {R G : HP} (H : Own W0 w (R * G)) : ∀ {L : AL} {F : FL}, FRel G L F → (∀ p ∈ L, ∃ A n c, p.2 = .slice A n c) ∧ (L.map fun p => lenV p.2).sum = tot F
  | [], [], _ => ⟨fun _ h => absurd h (List.not_mem_nil), rfl⟩
  | p :: L, q :: F, ⟨h1, h2, h3⟩ => by
    obtain ⟨i1, i2⟩ := FRel.shape H h3
    obtain ⟨_, A, c, hv, _⟩ := (h2 W0 R).sl H
    refine ⟨fun x hx => ?_, ?_⟩
    · rcases List.mem_cons.1 hx with rfl | hx
      · exact ⟨A, _, c, hv⟩
      · exact i1 x hx
    · rw [List.map_cons, List.sum_cons, i2, tot_cons, hv]
      rfl
  | [], _ :: _, h => h.elim
  | _ :: _, [], h => h.elim
section
variable {W0 w : World} {R : HP} {g : Nat} {s : Dk}
set_option maxHeartbeats 2000000 in
theorem disk_Used (H : Own W0 w (R * DskH g s)) :
    Calls Try.prog 19 #[.pointer (some ⟨g, 0, none⟩)] w fun e w' => e = .returned (.int .i64 (tot s.now)) ∧ Own W0 w' (R * DskH g s) := by
  obtain ⟨G, bn, bs, L1, L2, vw, cs, h1, h2, h3, h4, h⟩ := H.dsk
  have hback : Kp (∀ wx, Own W0 wx (R * DskB g s G bn bs L1 L2 vw cs) → Own W0 wx (R * DskH g s)) := ⟨fun wx hx => hx.toDsk h1 h2 h3 h4⟩
  clear H
  have hnow := h1.now
  unfold DskB at h
  simp only [← star_assoc] at h
  have c1 := cell_blk (j := 1) h.blk rfl
  obtain ⟨hsh, hsum⟩ := h2.shape h.drop.drop.drop.drop
  have H1 := Kp.mk (h.foc (MapH bn L1))
  rw [← hsum] at hnow
  rw [← hsum]
  obtain ⟨Y, hY⟩ : ∃ Y, Kp (R * G * MapH bs L2 * Row 56 4 vw s.wait.length cs * Blk g (.cells #[.int .i64 s.room, .map (some bn), .map (some bs), vw, .int .i64 0, .bool false, .int .i64 s.work] 50) = Y) := ⟨_, ⟨rfl⟩⟩
  rw [hY.out] at H1
  have hback2 : Kp (∀ wx, Own W0 wx (Y * MapH bn L1) → Own W0 wx (R * DskH g s)) := ⟨fun wx hx => hback.out wx (by
    rw [← hY.out] at hx
    unfold DskB
    refine hx.eq ?_
    simp only [← star_assoc]
    ac_rfl)⟩
  have hroom := h1.room
  clear h h2 h3 h4 hsum hback hY h1
  have hsh := Kp.mk hsh
  go_enter Try.func19, Try.ntmps19
  go_wp2_with (at_range; go_must (refine own_mapRange rfl (.tmp 11) 47 rfl 9 28 Try.underlying47 rfl H1.out ?_))
  intro w0 H0 hz0
  obtain ⟨r, hr⟩ : ∃ r, Kp (w.heap.size = r) := ⟨_, ⟨rfl⟩⟩
  rw [hr.out] at H0 ⊢
  replace H0 := Kp.mk H0
  go_wp2
  go_loopg [3] L1.length (fun gk v wr => ∃ D : AL, v = .int .i64 ((D.map fun p => lenV p.2).sum : Nat) ∧ Kp (gk + D.length = L1.length) ∧ Kp (Own W0 wr (Y * RngH bn r L1 D)))
  case atStart => exact ⟨[], rfl, ⟨by simp⟩, H0⟩
  case round =>
    obtain ⟨D, rfl, hgk, HO⟩ := hrel
    go_wp2_with (at_next; go_must (refine own_mapNext rfl (.tmp 12) rfl rfl HO.out ?_ ?_))
    · intro hl hall
      have he : Kp ((D.map fun p => lenV p.2).sum = (L1.map fun p => lenV p.2).sum) := ⟨by
        obtain ⟨s1, s2, s3⟩ := HO.out.rngSub
        exact Nat.le_antisymm (sum_of_subset _ D L1 s2 s1) (sum_of_subset _ L1 D s3 (fun p h => hall p.1 p.2 h))⟩
      clear hall hl
      go_wp2
      go_ret
      rw [he.out]
      exact ⟨rfl, hback2.out _ HO.out.rngBack⟩
    · intro x v wq hmem hnot hO hz hen
      obtain ⟨A, n, c, hv⟩ := hsh.out _ hmem
      dsimp only at hv
      subst hv
      have hsub : Kp (((D ++ [(x, Value.slice A n c)]).map fun p => lenV p.2).sum = (D.map fun p => lenV p.2).sum + n) := ⟨by simp [lenV]⟩
      have hle : (D.map fun p => lenV p.2).sum + n ≤ 16777216 := by
        obtain ⟨s1, s2, s3⟩ := hO.rngSub
        have := sum_of_subset (fun p : List UInt8 × Value => lenV p.2) _ _ s2 s1
        rw [hsub.out] at this
        omega
      obtain ⟨q, hq⟩ : ∃ q, (D.map fun p => lenV p.2).sum = q := ⟨_, rfl⟩
      have hlen : Kp (D.length + 1 ≤ L1.length) := ⟨by
        obtain ⟨s1, s2, s3⟩ := hO.rngSub
        have := len_of_subset _ _ s2 s1
        simpa using this⟩
      rw [hq] at hsub hle ⊢
      replace hO := Kp.mk hO
      clear hmem hnot hq HO
      go_wp2
      go_roundg (L1.length - (D.length + 1))
      case rel => exact ⟨D ++ [(x, .slice A n c)], by rw [hsub.out]; go_num, ⟨by rw [List.length_append]; have := hlen.out; simp; omega⟩, hO⟩
      case measure => have := hgk.out; have := hlen.out; omega
set_option maxHeartbeats 2000000 in
theorem disk_Free (H : Own W0 w (R * DskH g s)) :
    Calls Try.prog 21 #[.pointer (some ⟨g, 0, none⟩)] w fun e w' => e = .returned (.int .i64 ((s.room : Int) - (tot s.now : Nat))) ∧ Own W0 w' (R * DskH g s) := by
  haveI : Nonempty (OwnW W0 (R * DskH g s)) := ⟨⟨_, H⟩⟩
  have hok : s.room ≤ 16777216 ∧ tot s.now ≤ s.room := by
    obtain ⟨G, bn, bs, L1, L2, vw, cs, h1, _⟩ := H.dsk
    exact ⟨h1.room, h1.now⟩
  obtain ⟨hr, ht⟩ := hok
  have c0 : ∀ x : OwnW W0 (R * DskH g s), x.w.cell? ⟨g, 0, none⟩ = some (.int .i64 s.room) := fun x => x.own.dskCell.1
  have HU : Kp (∀ x : OwnW W0 (R * DskH g s), Calls Try.prog 19 #[.pointer (some ⟨g, 0, none⟩)] x.w fun e w' => e = .returned (.int .i64 (tot s.now)) ∧ Own W0 w' (R * DskH g s)) := ⟨fun x => disk_Used x.own⟩
  generalize tot s.now = t at HU ht ⊢
  go_enter Try.func21, Try.ntmps21
  go_wp2
  refine wp_region_own H (by kernel_rfl) (by kernel_rfl) ?_
  repeat (go_big_quiet_step ((go_at_call 19; exact own_quiet_call (HU.out _))))
  refine wpQuiet_nil ?_
  rintro _ ⟨x, rfl⟩
  go_wp2
  go_ret
  exact ⟨rfl, x.own⟩
end
end Go.Proofs.YtgakacingdlgpaaSep
