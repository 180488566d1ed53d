/- Own work: the law DiskAll, by a walk. -/
import Derived.Test.YtgakacingdlgpaaDiskAll
namespace Go.Proofs.YtgakacingdlgpaaSep
open Go.RowKit Go.Lib Go.Proofs Go.Shelf

def stp (s s2 : Dk) (j k : Nat) : Dk := if j < k then s2 else s
set_option maxHeartbeats 32000000 in
set_option maxRecDepth 100000 in
theorem diskAll_core (w : World) (vo : Value) (L : List OpM) (gL : Sl w vo 6 L.length (L.flatMap OpM.cells)) (gB : ∀ o ∈ L, Sl w o.bv 1 o.b.length (U o.b)) (t : Int) :
    Calls Try.prog 6 #[vo, .int .i64 t] w fun e w' => e = .returned (.bool true) ∧ Below w.heap.size w w' := by
  have HH := Kp.mk (disk_head (own_start w))
  have hGL : Kp (Held w (Old w) vo 6 L.length (L.flatMap OpM.cells)) := ⟨gL.held⟩
  have hGB : Kp (∀ o ∈ L, Held w (Old w) o.bv 1 o.b.length (U o.b)) := ⟨fun o ho => (gB o ho).held⟩
  obtain ⟨_, Ao, co, rfl, _⟩ := gL
  clear gB
  go_enter Try.func6, Try.ntmps6
  go_wp2_with fail
  refine HH.out.mono ?_
  rintro e w1 ⟨rfl, H1⟩
  clear HH
  have hN := Kp.mk (disk_New H1 1048576 (by decide) (by decide))
  clear H1
  go_wp2_with fail
  refine hN.out.mono ?_
  rintro e w2 ⟨ga, rfl, H2⟩
  clear hN
  have hN := Kp.mk (disk_New H2 1048576 (by decide) (by decide))
  clear H2
  go_wp2_with fail
  refine hN.out.mono ?_
  rintro e w3 ⟨gb, rfl, H3⟩
  clear hN
  have hN := Kp.mk (disk_New H3 1048576 (by decide) (by decide))
  clear H3
  go_wp2_with fail
  refine hN.out.mono ?_
  rintro e w4 ⟨gc, rfl, H4⟩
  clear hN
  replace H4 := Kp.mk H4
  obtain ⟨M, hM⟩ : ∃ M, Kp (min L.length 40 = M) := ⟨_, ⟨rfl⟩⟩
  go_wp2
  go_loopg [8] M (fun gk v wr => ∃ (i : Nat) (s : Dk), v = .int .i64 i ∧ i ≤ M ∧ Kp (gk + i = M) ∧ Kp (AllOk i s) ∧ Kp (Own w wr (Old w * DskH ga s * DskH gb s * DskH gc s)))
  case atStart => exact ⟨0, _, rfl, Nat.zero_le _, ⟨by omega⟩, ⟨⟨fun _ h => absurd h (List.not_mem_nil), fun _ h => absurd h (List.not_mem_nil), Nat.le_refl _, Nat.le_refl _⟩⟩, H4⟩
  case round =>
    obtain ⟨i, s, rfl, hi, hgk, hs, HO⟩ := hrel
    clear H4
    by_cases hlt : i < M
    · have hiL : i < L.length := by have := hM.out; omega
      have hi20 : i < 40 := by have := hM.out; omega
      obtain ⟨o, ho⟩ : ∃ o, L[i]? = some o := ⟨_, List.getElem?_eq_getElem hiL⟩
      have hmem := List.mem_of_getElem? ho
      have hB := hGB.out o hmem
      obtain ⟨ad, cx, ea, q0, qs⟩ := (hGL.out.sl HO.out.drop.drop.drop).elem i hiL
      injection ea with ea eb ec
      subst ea ec
      clear eb
      have hfl := fun j (hj : j < 6) => flat_get OpM.cells 6 (by decide) L (fun a _ => rfl) i j o ho hj
      obtain ⟨K, nm, ds, bv, bb, N, T⟩ := o
      replace q0 := q0 _ (hfl 0 (by decide))
      have q1 := qs 0 _ (hfl 1 (by decide))
      have q2 := qs 1 _ (hfl 2 (by decide))
      have q3 := qs 2 _ (hfl 3 (by decide))
      have q4 := qs 3 _ (hfl 4 (by decide))
      have q5 := qs 4 _ (hfl 5 (by decide))
      dsimp only at hB
      obtain ⟨_, Ab, cb, hbv, _⟩ := hB.sl HO.out.drop.drop.drop
      subst hbv
      have t2 : decide ((i : Int) < (L.length : Int)) = true := decide_eq_true (by omega)
      have t2' : decide (i < L.length) = true := decide_eq_true (by omega)
      have t3 : decide ((i : Int) < 40) = true := decide_eq_true (by omega)
      have t3' : decide (i < 40) = true := decide_eq_true hi20
      clear hfl qs hmem ho
      replace hB := Kp.mk hB
      have hsn : (str nm).size = nm.length := str_size nm
      have hsd : (str ds).size = ds.length := str_size ds
      have HA := Kp.mk (HO.out.box (.cells #[.int .i64 K, .string (str nm), .string (str ds), .slice Ab bb.length cb, .int .i64 N, .int .i64 T] 37))
      have hmore := Kp.mk hs.out.more
      by_cases b1 : 300 < bb.length
      case' pos => have r1 : decide ((300 : Int) < (bb.length : Int)) = true := decide_eq_true (by omega)
      case' neg =>
        have r1 : decide ((300 : Int) < (bb.length : Int)) = false := decide_eq_false (by omega)
        by_cases b2 : 100 < nm.length
        case' pos => have r2 : decide ((100 : Int) < (nm.length : Int)) = true := decide_eq_true (by omega)
        case' neg =>
          have r2 : decide ((100 : Int) < (nm.length : Int)) = false := decide_eq_false (by omega)
          by_cases b3 : 100 < ds.length
          case' pos => have r3 : decide ((100 : Int) < (ds.length : Int)) = true := decide_eq_true (by omega)
          case' neg =>
            have r3 : decide ((100 : Int) < (ds.length : Int)) = false := decide_eq_false (by omega)
            have hrun : Kp (bb.length ≤ 300 ∧ nm.length ≤ 100 ∧ ds.length ≤ 100) := ⟨by omega⟩
      all_goals
        try clear b3
        try clear b2
        clear b1
      all_goals try (
        fail_if_success (have hq := hrun.out)
        go_wp2
        go_roundg (M - (i + 1))
        case rel => exact ⟨i + 1, s, by go_num, by omega, ⟨by omega⟩, hmore, HA⟩
        case measure => have := hgk.out; omega)
      have hk4 : (K = 0 ∨ K = 1 ∨ K = 2 ∨ K = 3) ∨ (K ≠ 0 ∧ K ≠ 1 ∧ K ≠ 2 ∧ K ≠ 3) := by omega
      have hnext : Kp (∃ s2, AllOk (i + 1) s2 ∧ (s2 = if K = 0 then s.wr nm bb else if K = 1 then s.mv nm ds else if K = 2 then s.dr nm else if K = 3 then s.sync else s)) := ⟨by
        refine ⟨_, ?_, rfl⟩
        have h1 := hrun.out
        split
        · exact hs.out.wr h1.2.1
        · split
          · exact hs.out.mv h1.2.1 h1.2.2
          · split
            · exact hs.out.dr h1.2.1
            · split
              · exact hs.out.sync
              · exact hs.out.more⟩
      obtain ⟨s2, hs2, he2⟩ := hnext.out
      replace hs2 := Kp.mk hs2
      have HB := ((HO.out.alloc (.cells #[.int .i64 K, .string (str nm), .string (str ds), .slice Ab bb.length cb, .int .i64 N, .int .i64 T] 37)).alloc (.cells #[.pointer (some ⟨ga, 0, none⟩), .pointer (some ⟨gb, 0, none⟩), .pointer (some ⟨gc, 0, none⟩)] 23))
      rw [World.size_alloc] at HB
      obtain ⟨B, hBB⟩ : ∃ B, Kp (wr.heap.size = B) := ⟨_, ⟨rfl⟩⟩
      rw [hBB.out] at HB
      replace HB := Kp.mk HB
      clear HA hmore HO hnext
      go_wp2
      rw [hBB.out]
      have hbk := hrun.out.1
      replace hbk : Kp (bb.length ≤ 16777216) := ⟨by omega⟩
      have hw1 : Kp (s.work ≤ 1000000) := ⟨by have := hs.out.work; omega⟩
      have hw2 : Kp (s.wait.length ≤ 1000000) := ⟨by have := hs.out.len; omega⟩
      rcases hk4 with (rfl | rfl | rfl | rfl) | ⟨k0, k1, k2, k3⟩
      · obtain rfl : s2 = s.wr nm bb := he2
        go_loopg [66] 3 (fun gk2 v2 wr => ∃ k : Nat, v2 = .int .i64 k ∧ k ≤ 3 ∧ Kp (gk2 + k = 3) ∧ Kp (Own w wr (Old w * DskH ga (stp s (s.wr nm bb) 0 k) * DskH gb (stp s (s.wr nm bb) 1 k) * DskH gc (stp s (s.wr nm bb) 2 k) * Blk B (.cells #[.int .i64 0, .string (str nm), .string (str ds), .slice Ab bb.length cb, .int .i64 N, .int .i64 T] 37) * Blk (B + 1) (.cells #[.pointer (some ⟨ga, 0, none⟩), .pointer (some ⟨gb, 0, none⟩), .pointer (some ⟨gc, 0, none⟩)] 23))))
        case atStart => exact ⟨0, rfl, Nat.zero_le _, ⟨rfl⟩, HB⟩
        case round =>
          obtain ⟨k, rfl, hk, hgk2, HO2⟩ := hrel
          clear HB
          rcases (by omega : k = 0 ∨ k = 1 ∨ k = 2 ∨ k = 3) with rfl | rfl | rfl | rfl
          · have HC : Own w wr (Old w * DskH ga s * DskH gb s * DskH gc s * Blk B (.cells #[.int .i64 0, .string (str nm), .string (str ds), .slice Ab bb.length cb, .int .i64 N, .int .i64 T] 37) * Blk (B + 1) (.cells #[.pointer (some ⟨ga, 0, none⟩), .pointer (some ⟨gb, 0, none⟩), .pointer (some ⟨gc, 0, none⟩)] 23)) := HO2.out
            have p0 : wr.cell? ⟨B + 1, 0, none⟩ = some (.pointer (some ⟨ga, 0, none⟩)) := cell_blk (HC.focB (B + 1)).blk rfl
            have o0 : wr.cell? ⟨B, 0, none⟩ = some (.int .i64 0) := cell_blk (HC.focB B).blk rfl
            have o1 : wr.cell? ⟨B, 1, none⟩ = some (.string (str nm)) := cell_blk (HC.focB B).blk rfl
            have o2 : wr.cell? ⟨B, 2, none⟩ = some (.string (str ds)) := cell_blk (HC.focB B).blk rfl
            have o3 : wr.cell? ⟨B, 3, none⟩ = some (.slice Ab bb.length cb) := cell_blk (HC.focB B).blk rfl
            have hD := Kp.mk (disk_Write (n := nm) (b := bb) (HC.foc (DskH ga s)) (hB.out.more.more.more.more.more) hbk.out hw1.out hw2.out)
            clear HC HO2
            go_wp2_with fail
            refine hD.out.mono ?_
            rintro e w9 ⟨rfl, H9⟩
            clear hD
            have H10 : Kp (Own w _ (Old w * DskH ga (s.wr nm bb) * DskH gb s * DskH gc s * Blk B (.cells #[.int .i64 0, .string (str nm), .string (str ds), .slice Ab bb.length cb, .int .i64 N, .int .i64 T] 37) * Blk (B + 1) (.cells #[.pointer (some ⟨ga, 0, none⟩), .pointer (some ⟨gb, 0, none⟩), .pointer (some ⟨gc, 0, none⟩)] 23))) := Kp.mk (H9.eq (show _ = Old w * DskH ga (s.wr nm bb) * DskH gb s * DskH gc s * Blk B (.cells #[.int .i64 0, .string (str nm), .string (str ds), .slice Ab bb.length cb, .int .i64 N, .int .i64 T] 37) * Blk (B + 1) (.cells #[.pointer (some ⟨ga, 0, none⟩), .pointer (some ⟨gb, 0, none⟩), .pointer (some ⟨gc, 0, none⟩)] 23) by ac_rfl))
            clear H9
            go_wp2
            go_roundg 2
            case rel => exact ⟨1, rfl, by omega, ⟨rfl⟩, H10⟩
            case measure => have := hgk2.out; omega
          · have HC : Own w wr (Old w * DskH ga (s.wr nm bb) * DskH gb s * DskH gc s * Blk B (.cells #[.int .i64 0, .string (str nm), .string (str ds), .slice Ab bb.length cb, .int .i64 N, .int .i64 T] 37) * Blk (B + 1) (.cells #[.pointer (some ⟨ga, 0, none⟩), .pointer (some ⟨gb, 0, none⟩), .pointer (some ⟨gc, 0, none⟩)] 23)) := HO2.out
            have p1 : wr.cell? ⟨B + 1, 1, none⟩ = some (.pointer (some ⟨gb, 0, none⟩)) := cell_blk (HC.focB (B + 1)).blk rfl
            have o0 : wr.cell? ⟨B, 0, none⟩ = some (.int .i64 0) := cell_blk (HC.focB B).blk rfl
            have o1 : wr.cell? ⟨B, 1, none⟩ = some (.string (str nm)) := cell_blk (HC.focB B).blk rfl
            have o2 : wr.cell? ⟨B, 2, none⟩ = some (.string (str ds)) := cell_blk (HC.focB B).blk rfl
            have o3 : wr.cell? ⟨B, 3, none⟩ = some (.slice Ab bb.length cb) := cell_blk (HC.focB B).blk rfl
            have hD := Kp.mk (disk_Write (n := nm) (b := bb) (HC.foc (DskH gb s)) (hB.out.more.more.more.more.more) hbk.out hw1.out hw2.out)
            clear HC HO2
            go_wp2_with fail
            refine hD.out.mono ?_
            rintro e w9 ⟨rfl, H9⟩
            clear hD
            have H10 : Kp (Own w _ (Old w * DskH ga (s.wr nm bb) * DskH gb (s.wr nm bb) * DskH gc s * Blk B (.cells #[.int .i64 0, .string (str nm), .string (str ds), .slice Ab bb.length cb, .int .i64 N, .int .i64 T] 37) * Blk (B + 1) (.cells #[.pointer (some ⟨ga, 0, none⟩), .pointer (some ⟨gb, 0, none⟩), .pointer (some ⟨gc, 0, none⟩)] 23))) := Kp.mk (H9.eq (show _ = Old w * DskH ga (s.wr nm bb) * DskH gb (s.wr nm bb) * DskH gc s * Blk B (.cells #[.int .i64 0, .string (str nm), .string (str ds), .slice Ab bb.length cb, .int .i64 N, .int .i64 T] 37) * Blk (B + 1) (.cells #[.pointer (some ⟨ga, 0, none⟩), .pointer (some ⟨gb, 0, none⟩), .pointer (some ⟨gc, 0, none⟩)] 23) by ac_rfl))
            clear H9
            go_wp2
            go_roundg 1
            case rel => exact ⟨2, rfl, by omega, ⟨rfl⟩, H10⟩
            case measure => have := hgk2.out; omega
          · have HC : Own w wr (Old w * DskH ga (s.wr nm bb) * DskH gb (s.wr nm bb) * DskH gc s * Blk B (.cells #[.int .i64 0, .string (str nm), .string (str ds), .slice Ab bb.length cb, .int .i64 N, .int .i64 T] 37) * Blk (B + 1) (.cells #[.pointer (some ⟨ga, 0, none⟩), .pointer (some ⟨gb, 0, none⟩), .pointer (some ⟨gc, 0, none⟩)] 23)) := HO2.out
            have p2 : wr.cell? ⟨B + 1, 2, none⟩ = some (.pointer (some ⟨gc, 0, none⟩)) := cell_blk (HC.focB (B + 1)).blk rfl
            have o0 : wr.cell? ⟨B, 0, none⟩ = some (.int .i64 0) := cell_blk (HC.focB B).blk rfl
            have o1 : wr.cell? ⟨B, 1, none⟩ = some (.string (str nm)) := cell_blk (HC.focB B).blk rfl
            have o2 : wr.cell? ⟨B, 2, none⟩ = some (.string (str ds)) := cell_blk (HC.focB B).blk rfl
            have o3 : wr.cell? ⟨B, 3, none⟩ = some (.slice Ab bb.length cb) := cell_blk (HC.focB B).blk rfl
            have hD := Kp.mk (disk_Write (n := nm) (b := bb) (HC.foc (DskH gc s)) (hB.out.more.more.more.more.more) hbk.out hw1.out hw2.out)
            clear HC HO2
            go_wp2_with fail
            refine hD.out.mono ?_
            rintro e w9 ⟨rfl, H9⟩
            clear hD
            have H10 : Kp (Own w _ (Old w * DskH ga (s.wr nm bb) * DskH gb (s.wr nm bb) * DskH gc (s.wr nm bb) * Blk B (.cells #[.int .i64 0, .string (str nm), .string (str ds), .slice Ab bb.length cb, .int .i64 N, .int .i64 T] 37) * Blk (B + 1) (.cells #[.pointer (some ⟨ga, 0, none⟩), .pointer (some ⟨gb, 0, none⟩), .pointer (some ⟨gc, 0, none⟩)] 23))) := Kp.mk (H9.eq (show _ = Old w * DskH ga (s.wr nm bb) * DskH gb (s.wr nm bb) * DskH gc (s.wr nm bb) * Blk B (.cells #[.int .i64 0, .string (str nm), .string (str ds), .slice Ab bb.length cb, .int .i64 N, .int .i64 T] 37) * Blk (B + 1) (.cells #[.pointer (some ⟨ga, 0, none⟩), .pointer (some ⟨gb, 0, none⟩), .pointer (some ⟨gc, 0, none⟩)] 23) by ac_rfl))
            clear H9
            go_wp2
            go_roundg 0
            case rel => exact ⟨3, rfl, by omega, ⟨rfl⟩, H10⟩
            case measure => have := hgk2.out; omega
          · have HC : Own w wr (Old w * DskH ga (s.wr nm bb) * DskH gb (s.wr nm bb) * DskH gc (s.wr nm bb) * Blk B (.cells #[.int .i64 0, .string (str nm), .string (str ds), .slice Ab bb.length cb, .int .i64 N, .int .i64 T] 37) * Blk (B + 1) (.cells #[.pointer (some ⟨ga, 0, none⟩), .pointer (some ⟨gb, 0, none⟩), .pointer (some ⟨gc, 0, none⟩)] 23)) := HO2.out
            have H10 := Kp.mk HC.drop.drop
            clear HC HO2
            go_wp2
            go_roundg (M - (i + 1))
            case rel => exact ⟨i + 1, _, by go_num, by omega, ⟨by omega⟩, hs2, H10⟩
            case measure => have := hgk.out; omega
      · obtain rfl : s2 = s.mv nm ds := he2
        go_loopg [66] 3 (fun gk2 v2 wr => ∃ k : Nat, v2 = .int .i64 k ∧ k ≤ 3 ∧ Kp (gk2 + k = 3) ∧ Kp (Own w wr (Old w * DskH ga (stp s (s.mv nm ds) 0 k) * DskH gb (stp s (s.mv nm ds) 1 k) * DskH gc (stp s (s.mv nm ds) 2 k) * Blk B (.cells #[.int .i64 1, .string (str nm), .string (str ds), .slice Ab bb.length cb, .int .i64 N, .int .i64 T] 37) * Blk (B + 1) (.cells #[.pointer (some ⟨ga, 0, none⟩), .pointer (some ⟨gb, 0, none⟩), .pointer (some ⟨gc, 0, none⟩)] 23))))
        case atStart => exact ⟨0, rfl, Nat.zero_le _, ⟨rfl⟩, HB⟩
        case round =>
          obtain ⟨k, rfl, hk, hgk2, HO2⟩ := hrel
          clear HB
          rcases (by omega : k = 0 ∨ k = 1 ∨ k = 2 ∨ k = 3) with rfl | rfl | rfl | rfl
          · have HC : Own w wr (Old w * DskH ga s * DskH gb s * DskH gc s * Blk B (.cells #[.int .i64 1, .string (str nm), .string (str ds), .slice Ab bb.length cb, .int .i64 N, .int .i64 T] 37) * Blk (B + 1) (.cells #[.pointer (some ⟨ga, 0, none⟩), .pointer (some ⟨gb, 0, none⟩), .pointer (some ⟨gc, 0, none⟩)] 23)) := HO2.out
            have p0 : wr.cell? ⟨B + 1, 0, none⟩ = some (.pointer (some ⟨ga, 0, none⟩)) := cell_blk (HC.focB (B + 1)).blk rfl
            have o0 : wr.cell? ⟨B, 0, none⟩ = some (.int .i64 1) := cell_blk (HC.focB B).blk rfl
            have o1 : wr.cell? ⟨B, 1, none⟩ = some (.string (str nm)) := cell_blk (HC.focB B).blk rfl
            have o2 : wr.cell? ⟨B, 2, none⟩ = some (.string (str ds)) := cell_blk (HC.focB B).blk rfl
            have o3 : wr.cell? ⟨B, 3, none⟩ = some (.slice Ab bb.length cb) := cell_blk (HC.focB B).blk rfl
            have hD := Kp.mk (disk_Move (n := nm) (t := ds) (HC.foc (DskH ga s)) hw1.out hw2.out)
            clear HC HO2
            go_wp2_with fail
            refine hD.out.mono ?_
            rintro e w9 ⟨rfl, H9⟩
            clear hD
            have H10 : Kp (Own w _ (Old w * DskH ga (s.mv nm ds) * DskH gb s * DskH gc s * Blk B (.cells #[.int .i64 1, .string (str nm), .string (str ds), .slice Ab bb.length cb, .int .i64 N, .int .i64 T] 37) * Blk (B + 1) (.cells #[.pointer (some ⟨ga, 0, none⟩), .pointer (some ⟨gb, 0, none⟩), .pointer (some ⟨gc, 0, none⟩)] 23))) := Kp.mk (H9.eq (show _ = Old w * DskH ga (s.mv nm ds) * DskH gb s * DskH gc s * Blk B (.cells #[.int .i64 1, .string (str nm), .string (str ds), .slice Ab bb.length cb, .int .i64 N, .int .i64 T] 37) * Blk (B + 1) (.cells #[.pointer (some ⟨ga, 0, none⟩), .pointer (some ⟨gb, 0, none⟩), .pointer (some ⟨gc, 0, none⟩)] 23) by ac_rfl))
            clear H9
            go_wp2
            go_roundg 2
            case rel => exact ⟨1, rfl, by omega, ⟨rfl⟩, H10⟩
            case measure => have := hgk2.out; omega
          · have HC : Own w wr (Old w * DskH ga (s.mv nm ds) * DskH gb s * DskH gc s * Blk B (.cells #[.int .i64 1, .string (str nm), .string (str ds), .slice Ab bb.length cb, .int .i64 N, .int .i64 T] 37) * Blk (B + 1) (.cells #[.pointer (some ⟨ga, 0, none⟩), .pointer (some ⟨gb, 0, none⟩), .pointer (some ⟨gc, 0, none⟩)] 23)) := HO2.out
            have p1 : wr.cell? ⟨B + 1, 1, none⟩ = some (.pointer (some ⟨gb, 0, none⟩)) := cell_blk (HC.focB (B + 1)).blk rfl
            have o0 : wr.cell? ⟨B, 0, none⟩ = some (.int .i64 1) := cell_blk (HC.focB B).blk rfl
            have o1 : wr.cell? ⟨B, 1, none⟩ = some (.string (str nm)) := cell_blk (HC.focB B).blk rfl
            have o2 : wr.cell? ⟨B, 2, none⟩ = some (.string (str ds)) := cell_blk (HC.focB B).blk rfl
            have o3 : wr.cell? ⟨B, 3, none⟩ = some (.slice Ab bb.length cb) := cell_blk (HC.focB B).blk rfl
            have hD := Kp.mk (disk_Move (n := nm) (t := ds) (HC.foc (DskH gb s)) hw1.out hw2.out)
            clear HC HO2
            go_wp2_with fail
            refine hD.out.mono ?_
            rintro e w9 ⟨rfl, H9⟩
            clear hD
            have H10 : Kp (Own w _ (Old w * DskH ga (s.mv nm ds) * DskH gb (s.mv nm ds) * DskH gc s * Blk B (.cells #[.int .i64 1, .string (str nm), .string (str ds), .slice Ab bb.length cb, .int .i64 N, .int .i64 T] 37) * Blk (B + 1) (.cells #[.pointer (some ⟨ga, 0, none⟩), .pointer (some ⟨gb, 0, none⟩), .pointer (some ⟨gc, 0, none⟩)] 23))) := Kp.mk (H9.eq (show _ = Old w * DskH ga (s.mv nm ds) * DskH gb (s.mv nm ds) * DskH gc s * Blk B (.cells #[.int .i64 1, .string (str nm), .string (str ds), .slice Ab bb.length cb, .int .i64 N, .int .i64 T] 37) * Blk (B + 1) (.cells #[.pointer (some ⟨ga, 0, none⟩), .pointer (some ⟨gb, 0, none⟩), .pointer (some ⟨gc, 0, none⟩)] 23) by ac_rfl))
            clear H9
            go_wp2
            go_roundg 1
            case rel => exact ⟨2, rfl, by omega, ⟨rfl⟩, H10⟩
            case measure => have := hgk2.out; omega
          · have HC : Own w wr (Old w * DskH ga (s.mv nm ds) * DskH gb (s.mv nm ds) * DskH gc s * Blk B (.cells #[.int .i64 1, .string (str nm), .string (str ds), .slice Ab bb.length cb, .int .i64 N, .int .i64 T] 37) * Blk (B + 1) (.cells #[.pointer (some ⟨ga, 0, none⟩), .pointer (some ⟨gb, 0, none⟩), .pointer (some ⟨gc, 0, none⟩)] 23)) := HO2.out
            have p2 : wr.cell? ⟨B + 1, 2, none⟩ = some (.pointer (some ⟨gc, 0, none⟩)) := cell_blk (HC.focB (B + 1)).blk rfl
            have o0 : wr.cell? ⟨B, 0, none⟩ = some (.int .i64 1) := cell_blk (HC.focB B).blk rfl
            have o1 : wr.cell? ⟨B, 1, none⟩ = some (.string (str nm)) := cell_blk (HC.focB B).blk rfl
            have o2 : wr.cell? ⟨B, 2, none⟩ = some (.string (str ds)) := cell_blk (HC.focB B).blk rfl
            have o3 : wr.cell? ⟨B, 3, none⟩ = some (.slice Ab bb.length cb) := cell_blk (HC.focB B).blk rfl
            have hD := Kp.mk (disk_Move (n := nm) (t := ds) (HC.foc (DskH gc s)) hw1.out hw2.out)
            clear HC HO2
            go_wp2_with fail
            refine hD.out.mono ?_
            rintro e w9 ⟨rfl, H9⟩
            clear hD
            have H10 : Kp (Own w _ (Old w * DskH ga (s.mv nm ds) * DskH gb (s.mv nm ds) * DskH gc (s.mv nm ds) * Blk B (.cells #[.int .i64 1, .string (str nm), .string (str ds), .slice Ab bb.length cb, .int .i64 N, .int .i64 T] 37) * Blk (B + 1) (.cells #[.pointer (some ⟨ga, 0, none⟩), .pointer (some ⟨gb, 0, none⟩), .pointer (some ⟨gc, 0, none⟩)] 23))) := Kp.mk (H9.eq (show _ = Old w * DskH ga (s.mv nm ds) * DskH gb (s.mv nm ds) * DskH gc (s.mv nm ds) * Blk B (.cells #[.int .i64 1, .string (str nm), .string (str ds), .slice Ab bb.length cb, .int .i64 N, .int .i64 T] 37) * Blk (B + 1) (.cells #[.pointer (some ⟨ga, 0, none⟩), .pointer (some ⟨gb, 0, none⟩), .pointer (some ⟨gc, 0, none⟩)] 23) by ac_rfl))
            clear H9
            go_wp2
            go_roundg 0
            case rel => exact ⟨3, rfl, by omega, ⟨rfl⟩, H10⟩
            case measure => have := hgk2.out; omega
          · have HC : Own w wr (Old w * DskH ga (s.mv nm ds) * DskH gb (s.mv nm ds) * DskH gc (s.mv nm ds) * Blk B (.cells #[.int .i64 1, .string (str nm), .string (str ds), .slice Ab bb.length cb, .int .i64 N, .int .i64 T] 37) * Blk (B + 1) (.cells #[.pointer (some ⟨ga, 0, none⟩), .pointer (some ⟨gb, 0, none⟩), .pointer (some ⟨gc, 0, none⟩)] 23)) := HO2.out
            have H10 := Kp.mk HC.drop.drop
            clear HC HO2
            go_wp2
            go_roundg (M - (i + 1))
            case rel => exact ⟨i + 1, _, by go_num, by omega, ⟨by omega⟩, hs2, H10⟩
            case measure => have := hgk.out; omega
      · obtain rfl : s2 = s.dr nm := he2
        go_loopg [66] 3 (fun gk2 v2 wr => ∃ k : Nat, v2 = .int .i64 k ∧ k ≤ 3 ∧ Kp (gk2 + k = 3) ∧ Kp (Own w wr (Old w * DskH ga (stp s (s.dr nm) 0 k) * DskH gb (stp s (s.dr nm) 1 k) * DskH gc (stp s (s.dr nm) 2 k) * Blk B (.cells #[.int .i64 2, .string (str nm), .string (str ds), .slice Ab bb.length cb, .int .i64 N, .int .i64 T] 37) * Blk (B + 1) (.cells #[.pointer (some ⟨ga, 0, none⟩), .pointer (some ⟨gb, 0, none⟩), .pointer (some ⟨gc, 0, none⟩)] 23))))
        case atStart => exact ⟨0, rfl, Nat.zero_le _, ⟨rfl⟩, HB⟩
        case round =>
          obtain ⟨k, rfl, hk, hgk2, HO2⟩ := hrel
          clear HB
          rcases (by omega : k = 0 ∨ k = 1 ∨ k = 2 ∨ k = 3) with rfl | rfl | rfl | rfl
          · have HC : Own w wr (Old w * DskH ga s * DskH gb s * DskH gc s * Blk B (.cells #[.int .i64 2, .string (str nm), .string (str ds), .slice Ab bb.length cb, .int .i64 N, .int .i64 T] 37) * Blk (B + 1) (.cells #[.pointer (some ⟨ga, 0, none⟩), .pointer (some ⟨gb, 0, none⟩), .pointer (some ⟨gc, 0, none⟩)] 23)) := HO2.out
            have p0 : wr.cell? ⟨B + 1, 0, none⟩ = some (.pointer (some ⟨ga, 0, none⟩)) := cell_blk (HC.focB (B + 1)).blk rfl
            have o0 : wr.cell? ⟨B, 0, none⟩ = some (.int .i64 2) := cell_blk (HC.focB B).blk rfl
            have o1 : wr.cell? ⟨B, 1, none⟩ = some (.string (str nm)) := cell_blk (HC.focB B).blk rfl
            have o2 : wr.cell? ⟨B, 2, none⟩ = some (.string (str ds)) := cell_blk (HC.focB B).blk rfl
            have o3 : wr.cell? ⟨B, 3, none⟩ = some (.slice Ab bb.length cb) := cell_blk (HC.focB B).blk rfl
            have hD := Kp.mk (disk_Drop (n := nm) (HC.foc (DskH ga s)) hw1.out hw2.out)
            clear HC HO2
            go_wp2_with fail
            refine hD.out.mono ?_
            rintro e w9 ⟨rfl, H9⟩
            clear hD
            have H10 : Kp (Own w _ (Old w * DskH ga (s.dr nm) * DskH gb s * DskH gc s * Blk B (.cells #[.int .i64 2, .string (str nm), .string (str ds), .slice Ab bb.length cb, .int .i64 N, .int .i64 T] 37) * Blk (B + 1) (.cells #[.pointer (some ⟨ga, 0, none⟩), .pointer (some ⟨gb, 0, none⟩), .pointer (some ⟨gc, 0, none⟩)] 23))) := Kp.mk (H9.eq (show _ = Old w * DskH ga (s.dr nm) * DskH gb s * DskH gc s * Blk B (.cells #[.int .i64 2, .string (str nm), .string (str ds), .slice Ab bb.length cb, .int .i64 N, .int .i64 T] 37) * Blk (B + 1) (.cells #[.pointer (some ⟨ga, 0, none⟩), .pointer (some ⟨gb, 0, none⟩), .pointer (some ⟨gc, 0, none⟩)] 23) by ac_rfl))
            clear H9
            go_wp2
            go_roundg 2
            case rel => exact ⟨1, rfl, by omega, ⟨rfl⟩, H10⟩
            case measure => have := hgk2.out; omega
          · have HC : Own w wr (Old w * DskH ga (s.dr nm) * DskH gb s * DskH gc s * Blk B (.cells #[.int .i64 2, .string (str nm), .string (str ds), .slice Ab bb.length cb, .int .i64 N, .int .i64 T] 37) * Blk (B + 1) (.cells #[.pointer (some ⟨ga, 0, none⟩), .pointer (some ⟨gb, 0, none⟩), .pointer (some ⟨gc, 0, none⟩)] 23)) := HO2.out
            have p1 : wr.cell? ⟨B + 1, 1, none⟩ = some (.pointer (some ⟨gb, 0, none⟩)) := cell_blk (HC.focB (B + 1)).blk rfl
            have o0 : wr.cell? ⟨B, 0, none⟩ = some (.int .i64 2) := cell_blk (HC.focB B).blk rfl
            have o1 : wr.cell? ⟨B, 1, none⟩ = some (.string (str nm)) := cell_blk (HC.focB B).blk rfl
            have o2 : wr.cell? ⟨B, 2, none⟩ = some (.string (str ds)) := cell_blk (HC.focB B).blk rfl
            have o3 : wr.cell? ⟨B, 3, none⟩ = some (.slice Ab bb.length cb) := cell_blk (HC.focB B).blk rfl
            have hD := Kp.mk (disk_Drop (n := nm) (HC.foc (DskH gb s)) hw1.out hw2.out)
            clear HC HO2
            go_wp2_with fail
            refine hD.out.mono ?_
            rintro e w9 ⟨rfl, H9⟩
            clear hD
            have H10 : Kp (Own w _ (Old w * DskH ga (s.dr nm) * DskH gb (s.dr nm) * DskH gc s * Blk B (.cells #[.int .i64 2, .string (str nm), .string (str ds), .slice Ab bb.length cb, .int .i64 N, .int .i64 T] 37) * Blk (B + 1) (.cells #[.pointer (some ⟨ga, 0, none⟩), .pointer (some ⟨gb, 0, none⟩), .pointer (some ⟨gc, 0, none⟩)] 23))) := Kp.mk (H9.eq (show _ = Old w * DskH ga (s.dr nm) * DskH gb (s.dr nm) * DskH gc s * Blk B (.cells #[.int .i64 2, .string (str nm), .string (str ds), .slice Ab bb.length cb, .int .i64 N, .int .i64 T] 37) * Blk (B + 1) (.cells #[.pointer (some ⟨ga, 0, none⟩), .pointer (some ⟨gb, 0, none⟩), .pointer (some ⟨gc, 0, none⟩)] 23) by ac_rfl))
            clear H9
            go_wp2
            go_roundg 1
            case rel => exact ⟨2, rfl, by omega, ⟨rfl⟩, H10⟩
            case measure => have := hgk2.out; omega
          · have HC : Own w wr (Old w * DskH ga (s.dr nm) * DskH gb (s.dr nm) * DskH gc s * Blk B (.cells #[.int .i64 2, .string (str nm), .string (str ds), .slice Ab bb.length cb, .int .i64 N, .int .i64 T] 37) * Blk (B + 1) (.cells #[.pointer (some ⟨ga, 0, none⟩), .pointer (some ⟨gb, 0, none⟩), .pointer (some ⟨gc, 0, none⟩)] 23)) := HO2.out
            have p2 : wr.cell? ⟨B + 1, 2, none⟩ = some (.pointer (some ⟨gc, 0, none⟩)) := cell_blk (HC.focB (B + 1)).blk rfl
            have o0 : wr.cell? ⟨B, 0, none⟩ = some (.int .i64 2) := cell_blk (HC.focB B).blk rfl
            have o1 : wr.cell? ⟨B, 1, none⟩ = some (.string (str nm)) := cell_blk (HC.focB B).blk rfl
            have o2 : wr.cell? ⟨B, 2, none⟩ = some (.string (str ds)) := cell_blk (HC.focB B).blk rfl
            have o3 : wr.cell? ⟨B, 3, none⟩ = some (.slice Ab bb.length cb) := cell_blk (HC.focB B).blk rfl
            have hD := Kp.mk (disk_Drop (n := nm) (HC.foc (DskH gc s)) hw1.out hw2.out)
            clear HC HO2
            go_wp2_with fail
            refine hD.out.mono ?_
            rintro e w9 ⟨rfl, H9⟩
            clear hD
            have H10 : Kp (Own w _ (Old w * DskH ga (s.dr nm) * DskH gb (s.dr nm) * DskH gc (s.dr nm) * Blk B (.cells #[.int .i64 2, .string (str nm), .string (str ds), .slice Ab bb.length cb, .int .i64 N, .int .i64 T] 37) * Blk (B + 1) (.cells #[.pointer (some ⟨ga, 0, none⟩), .pointer (some ⟨gb, 0, none⟩), .pointer (some ⟨gc, 0, none⟩)] 23))) := Kp.mk (H9.eq (show _ = Old w * DskH ga (s.dr nm) * DskH gb (s.dr nm) * DskH gc (s.dr nm) * Blk B (.cells #[.int .i64 2, .string (str nm), .string (str ds), .slice Ab bb.length cb, .int .i64 N, .int .i64 T] 37) * Blk (B + 1) (.cells #[.pointer (some ⟨ga, 0, none⟩), .pointer (some ⟨gb, 0, none⟩), .pointer (some ⟨gc, 0, none⟩)] 23) by ac_rfl))
            clear H9
            go_wp2
            go_roundg 0
            case rel => exact ⟨3, rfl, by omega, ⟨rfl⟩, H10⟩
            case measure => have := hgk2.out; omega
          · have HC : Own w wr (Old w * DskH ga (s.dr nm) * DskH gb (s.dr nm) * DskH gc (s.dr nm) * Blk B (.cells #[.int .i64 2, .string (str nm), .string (str ds), .slice Ab bb.length cb, .int .i64 N, .int .i64 T] 37) * Blk (B + 1) (.cells #[.pointer (some ⟨ga, 0, none⟩), .pointer (some ⟨gb, 0, none⟩), .pointer (some ⟨gc, 0, none⟩)] 23)) := HO2.out
            have H10 := Kp.mk HC.drop.drop
            clear HC HO2
            go_wp2
            go_roundg (M - (i + 1))
            case rel => exact ⟨i + 1, _, by go_num, by omega, ⟨by omega⟩, hs2, H10⟩
            case measure => have := hgk.out; omega
      · obtain rfl : s2 = s.sync := he2
        go_loopg [66] 3 (fun gk2 v2 wr => ∃ k : Nat, v2 = .int .i64 k ∧ k ≤ 3 ∧ Kp (gk2 + k = 3) ∧ Kp (Own w wr (Old w * DskH ga (stp s s.sync 0 k) * DskH gb (stp s s.sync 1 k) * DskH gc (stp s s.sync 2 k) * Blk B (.cells #[.int .i64 3, .string (str nm), .string (str ds), .slice Ab bb.length cb, .int .i64 N, .int .i64 T] 37) * Blk (B + 1) (.cells #[.pointer (some ⟨ga, 0, none⟩), .pointer (some ⟨gb, 0, none⟩), .pointer (some ⟨gc, 0, none⟩)] 23))))
        case atStart => exact ⟨0, rfl, Nat.zero_le _, ⟨rfl⟩, HB⟩
        case round =>
          obtain ⟨k, rfl, hk, hgk2, HO2⟩ := hrel
          clear HB
          rcases (by omega : k = 0 ∨ k = 1 ∨ k = 2 ∨ k = 3) with rfl | rfl | rfl | rfl
          · have HC : Own w wr (Old w * DskH ga s * DskH gb s * DskH gc s * Blk B (.cells #[.int .i64 3, .string (str nm), .string (str ds), .slice Ab bb.length cb, .int .i64 N, .int .i64 T] 37) * Blk (B + 1) (.cells #[.pointer (some ⟨ga, 0, none⟩), .pointer (some ⟨gb, 0, none⟩), .pointer (some ⟨gc, 0, none⟩)] 23)) := HO2.out
            have p0 : wr.cell? ⟨B + 1, 0, none⟩ = some (.pointer (some ⟨ga, 0, none⟩)) := cell_blk (HC.focB (B + 1)).blk rfl
            have o0 : wr.cell? ⟨B, 0, none⟩ = some (.int .i64 3) := cell_blk (HC.focB B).blk rfl
            have o1 : wr.cell? ⟨B, 1, none⟩ = some (.string (str nm)) := cell_blk (HC.focB B).blk rfl
            have o2 : wr.cell? ⟨B, 2, none⟩ = some (.string (str ds)) := cell_blk (HC.focB B).blk rfl
            have o3 : wr.cell? ⟨B, 3, none⟩ = some (.slice Ab bb.length cb) := cell_blk (HC.focB B).blk rfl
            have hD := Kp.mk (disk_Sync (HC.foc (DskH ga s)) hw1.out)
            clear HC HO2
            go_wp2_with fail
            refine hD.out.mono ?_
            rintro e w9 ⟨rfl, H9⟩
            clear hD
            have H10 : Kp (Own w _ (Old w * DskH ga s.sync * DskH gb s * DskH gc s * Blk B (.cells #[.int .i64 3, .string (str nm), .string (str ds), .slice Ab bb.length cb, .int .i64 N, .int .i64 T] 37) * Blk (B + 1) (.cells #[.pointer (some ⟨ga, 0, none⟩), .pointer (some ⟨gb, 0, none⟩), .pointer (some ⟨gc, 0, none⟩)] 23))) := Kp.mk (H9.eq (show _ = Old w * DskH ga s.sync * DskH gb s * DskH gc s * Blk B (.cells #[.int .i64 3, .string (str nm), .string (str ds), .slice Ab bb.length cb, .int .i64 N, .int .i64 T] 37) * Blk (B + 1) (.cells #[.pointer (some ⟨ga, 0, none⟩), .pointer (some ⟨gb, 0, none⟩), .pointer (some ⟨gc, 0, none⟩)] 23) by ac_rfl))
            clear H9
            go_wp2
            go_roundg 2
            case rel => exact ⟨1, rfl, by omega, ⟨rfl⟩, H10⟩
            case measure => have := hgk2.out; omega
          · have HC : Own w wr (Old w * DskH ga s.sync * DskH gb s * DskH gc s * Blk B (.cells #[.int .i64 3, .string (str nm), .string (str ds), .slice Ab bb.length cb, .int .i64 N, .int .i64 T] 37) * Blk (B + 1) (.cells #[.pointer (some ⟨ga, 0, none⟩), .pointer (some ⟨gb, 0, none⟩), .pointer (some ⟨gc, 0, none⟩)] 23)) := HO2.out
            have p1 : wr.cell? ⟨B + 1, 1, none⟩ = some (.pointer (some ⟨gb, 0, none⟩)) := cell_blk (HC.focB (B + 1)).blk rfl
            have o0 : wr.cell? ⟨B, 0, none⟩ = some (.int .i64 3) := cell_blk (HC.focB B).blk rfl
            have o1 : wr.cell? ⟨B, 1, none⟩ = some (.string (str nm)) := cell_blk (HC.focB B).blk rfl
            have o2 : wr.cell? ⟨B, 2, none⟩ = some (.string (str ds)) := cell_blk (HC.focB B).blk rfl
            have o3 : wr.cell? ⟨B, 3, none⟩ = some (.slice Ab bb.length cb) := cell_blk (HC.focB B).blk rfl
            have hD := Kp.mk (disk_Sync (HC.foc (DskH gb s)) hw1.out)
            clear HC HO2
            go_wp2_with fail
            refine hD.out.mono ?_
            rintro e w9 ⟨rfl, H9⟩
            clear hD
            have H10 : Kp (Own w _ (Old w * DskH ga s.sync * DskH gb s.sync * DskH gc s * Blk B (.cells #[.int .i64 3, .string (str nm), .string (str ds), .slice Ab bb.length cb, .int .i64 N, .int .i64 T] 37) * Blk (B + 1) (.cells #[.pointer (some ⟨ga, 0, none⟩), .pointer (some ⟨gb, 0, none⟩), .pointer (some ⟨gc, 0, none⟩)] 23))) := Kp.mk (H9.eq (show _ = Old w * DskH ga s.sync * DskH gb s.sync * DskH gc s * Blk B (.cells #[.int .i64 3, .string (str nm), .string (str ds), .slice Ab bb.length cb, .int .i64 N, .int .i64 T] 37) * Blk (B + 1) (.cells #[.pointer (some ⟨ga, 0, none⟩), .pointer (some ⟨gb, 0, none⟩), .pointer (some ⟨gc, 0, none⟩)] 23) by ac_rfl))
            clear H9
            go_wp2
            go_roundg 1
            case rel => exact ⟨2, rfl, by omega, ⟨rfl⟩, H10⟩
            case measure => have := hgk2.out; omega
          · have HC : Own w wr (Old w * DskH ga s.sync * DskH gb s.sync * DskH gc s * Blk B (.cells #[.int .i64 3, .string (str nm), .string (str ds), .slice Ab bb.length cb, .int .i64 N, .int .i64 T] 37) * Blk (B + 1) (.cells #[.pointer (some ⟨ga, 0, none⟩), .pointer (some ⟨gb, 0, none⟩), .pointer (some ⟨gc, 0, none⟩)] 23)) := HO2.out
            have p2 : wr.cell? ⟨B + 1, 2, none⟩ = some (.pointer (some ⟨gc, 0, none⟩)) := cell_blk (HC.focB (B + 1)).blk rfl
            have o0 : wr.cell? ⟨B, 0, none⟩ = some (.int .i64 3) := cell_blk (HC.focB B).blk rfl
            have o1 : wr.cell? ⟨B, 1, none⟩ = some (.string (str nm)) := cell_blk (HC.focB B).blk rfl
            have o2 : wr.cell? ⟨B, 2, none⟩ = some (.string (str ds)) := cell_blk (HC.focB B).blk rfl
            have o3 : wr.cell? ⟨B, 3, none⟩ = some (.slice Ab bb.length cb) := cell_blk (HC.focB B).blk rfl
            have hD := Kp.mk (disk_Sync (HC.foc (DskH gc s)) hw1.out)
            clear HC HO2
            go_wp2_with fail
            refine hD.out.mono ?_
            rintro e w9 ⟨rfl, H9⟩
            clear hD
            have hD := disk_Crash H9 0 t (Nat.zero_le _)
            rw [sync_crash] at hD
            replace hD := Kp.mk hD
            clear H9
            go_wp2_with fail
            refine hD.out.mono ?_
            rintro e w10 ⟨rfl, H9⟩
            clear hD
            have H10 : Kp (Own w _ (Old w * DskH ga s.sync * DskH gb s.sync * DskH gc s.sync * Blk B (.cells #[.int .i64 3, .string (str nm), .string (str ds), .slice Ab bb.length cb, .int .i64 N, .int .i64 T] 37) * Blk (B + 1) (.cells #[.pointer (some ⟨ga, 0, none⟩), .pointer (some ⟨gb, 0, none⟩), .pointer (some ⟨gc, 0, none⟩)] 23))) := Kp.mk (H9.eq (show _ = Old w * DskH ga s.sync * DskH gb s.sync * DskH gc s.sync * Blk B (.cells #[.int .i64 3, .string (str nm), .string (str ds), .slice Ab bb.length cb, .int .i64 N, .int .i64 T] 37) * Blk (B + 1) (.cells #[.pointer (some ⟨ga, 0, none⟩), .pointer (some ⟨gb, 0, none⟩), .pointer (some ⟨gc, 0, none⟩)] 23) by ac_rfl))
            clear H9
            go_wp2
            go_roundg 0
            case rel => exact ⟨3, rfl, by omega, ⟨rfl⟩, H10⟩
            case measure => have := hgk2.out; omega
          · have HC : Own w wr (Old w * DskH ga s.sync * DskH gb s.sync * DskH gc s.sync * Blk B (.cells #[.int .i64 3, .string (str nm), .string (str ds), .slice Ab bb.length cb, .int .i64 N, .int .i64 T] 37) * Blk (B + 1) (.cells #[.pointer (some ⟨ga, 0, none⟩), .pointer (some ⟨gb, 0, none⟩), .pointer (some ⟨gc, 0, none⟩)] 23)) := HO2.out
            have H10 := Kp.mk HC.drop.drop
            clear HC HO2
            go_wp2
            go_roundg (M - (i + 1))
            case rel => exact ⟨i + 1, _, by go_num, by omega, ⟨by omega⟩, hs2, H10⟩
            case measure => have := hgk.out; omega
      · obtain rfl : s2 = s := by rw [he2, if_neg k0, if_neg k1, if_neg k2, if_neg k3]
        have e0 : (K == 0) = false := by simpa using k0
        have e1 : (K == 1) = false := by simpa using k1
        have e2 : (K == 2) = false := by simpa using k2
        have e3 : (K == 3) = false := by simpa using k3
        clear k0 k1 k2 k3
        go_loopg [66] 3 (fun gk2 v2 wr => ∃ k : Nat, v2 = .int .i64 k ∧ k ≤ 3 ∧ Kp (gk2 + k = 3) ∧ Kp (Own w wr (Old w * DskH ga (stp s2 s2 0 k) * DskH gb (stp s2 s2 1 k) * DskH gc (stp s2 s2 2 k) * Blk B (.cells #[.int .i64 K, .string (str nm), .string (str ds), .slice Ab bb.length cb, .int .i64 N, .int .i64 T] 37) * Blk (B + 1) (.cells #[.pointer (some ⟨ga, 0, none⟩), .pointer (some ⟨gb, 0, none⟩), .pointer (some ⟨gc, 0, none⟩)] 23))))
        case atStart => exact ⟨0, rfl, Nat.zero_le _, ⟨rfl⟩, ⟨HB.out.eq rfl⟩⟩
        case round =>
          obtain ⟨k, rfl, hk, hgk2, HO2⟩ := hrel
          clear HB
          rcases (by omega : k = 0 ∨ k = 1 ∨ k = 2 ∨ k = 3) with rfl | rfl | rfl | rfl
          · have HC : Own w wr (Old w * DskH ga s2 * DskH gb s2 * DskH gc s2 * Blk B (.cells #[.int .i64 K, .string (str nm), .string (str ds), .slice Ab bb.length cb, .int .i64 N, .int .i64 T] 37) * Blk (B + 1) (.cells #[.pointer (some ⟨ga, 0, none⟩), .pointer (some ⟨gb, 0, none⟩), .pointer (some ⟨gc, 0, none⟩)] 23)) := HO2.out
            have p0 : wr.cell? ⟨B + 1, 0, none⟩ = some (.pointer (some ⟨ga, 0, none⟩)) := cell_blk (HC.focB (B + 1)).blk rfl
            have o0 : wr.cell? ⟨B, 0, none⟩ = some (.int .i64 K) := cell_blk (HC.focB B).blk rfl
            have o1 : wr.cell? ⟨B, 1, none⟩ = some (.string (str nm)) := cell_blk (HC.focB B).blk rfl
            have o2 : wr.cell? ⟨B, 2, none⟩ = some (.string (str ds)) := cell_blk (HC.focB B).blk rfl
            have o3 : wr.cell? ⟨B, 3, none⟩ = some (.slice Ab bb.length cb) := cell_blk (HC.focB B).blk rfl
            have H9 := HC
            clear HC HO2
            have H10 : Kp (Own w _ (Old w * DskH ga s2 * DskH gb s2 * DskH gc s2 * Blk B (.cells #[.int .i64 K, .string (str nm), .string (str ds), .slice Ab bb.length cb, .int .i64 N, .int .i64 T] 37) * Blk (B + 1) (.cells #[.pointer (some ⟨ga, 0, none⟩), .pointer (some ⟨gb, 0, none⟩), .pointer (some ⟨gc, 0, none⟩)] 23))) := Kp.mk (H9.eq (show _ = Old w * DskH ga s2 * DskH gb s2 * DskH gc s2 * Blk B (.cells #[.int .i64 K, .string (str nm), .string (str ds), .slice Ab bb.length cb, .int .i64 N, .int .i64 T] 37) * Blk (B + 1) (.cells #[.pointer (some ⟨ga, 0, none⟩), .pointer (some ⟨gb, 0, none⟩), .pointer (some ⟨gc, 0, none⟩)] 23) by ac_rfl))
            clear H9
            go_wp2
            go_roundg 2
            case rel => exact ⟨1, rfl, by omega, ⟨rfl⟩, H10⟩
            case measure => have := hgk2.out; omega
          · have HC : Own w wr (Old w * DskH ga s2 * DskH gb s2 * DskH gc s2 * Blk B (.cells #[.int .i64 K, .string (str nm), .string (str ds), .slice Ab bb.length cb, .int .i64 N, .int .i64 T] 37) * Blk (B + 1) (.cells #[.pointer (some ⟨ga, 0, none⟩), .pointer (some ⟨gb, 0, none⟩), .pointer (some ⟨gc, 0, none⟩)] 23)) := HO2.out
            have p1 : wr.cell? ⟨B + 1, 1, none⟩ = some (.pointer (some ⟨gb, 0, none⟩)) := cell_blk (HC.focB (B + 1)).blk rfl
            have o0 : wr.cell? ⟨B, 0, none⟩ = some (.int .i64 K) := cell_blk (HC.focB B).blk rfl
            have o1 : wr.cell? ⟨B, 1, none⟩ = some (.string (str nm)) := cell_blk (HC.focB B).blk rfl
            have o2 : wr.cell? ⟨B, 2, none⟩ = some (.string (str ds)) := cell_blk (HC.focB B).blk rfl
            have o3 : wr.cell? ⟨B, 3, none⟩ = some (.slice Ab bb.length cb) := cell_blk (HC.focB B).blk rfl
            have H9 := HC
            clear HC HO2
            have H10 : Kp (Own w _ (Old w * DskH ga s2 * DskH gb s2 * DskH gc s2 * Blk B (.cells #[.int .i64 K, .string (str nm), .string (str ds), .slice Ab bb.length cb, .int .i64 N, .int .i64 T] 37) * Blk (B + 1) (.cells #[.pointer (some ⟨ga, 0, none⟩), .pointer (some ⟨gb, 0, none⟩), .pointer (some ⟨gc, 0, none⟩)] 23))) := Kp.mk (H9.eq (show _ = Old w * DskH ga s2 * DskH gb s2 * DskH gc s2 * Blk B (.cells #[.int .i64 K, .string (str nm), .string (str ds), .slice Ab bb.length cb, .int .i64 N, .int .i64 T] 37) * Blk (B + 1) (.cells #[.pointer (some ⟨ga, 0, none⟩), .pointer (some ⟨gb, 0, none⟩), .pointer (some ⟨gc, 0, none⟩)] 23) by ac_rfl))
            clear H9
            go_wp2
            go_roundg 1
            case rel => exact ⟨2, rfl, by omega, ⟨rfl⟩, H10⟩
            case measure => have := hgk2.out; omega
          · have HC : Own w wr (Old w * DskH ga s2 * DskH gb s2 * DskH gc s2 * Blk B (.cells #[.int .i64 K, .string (str nm), .string (str ds), .slice Ab bb.length cb, .int .i64 N, .int .i64 T] 37) * Blk (B + 1) (.cells #[.pointer (some ⟨ga, 0, none⟩), .pointer (some ⟨gb, 0, none⟩), .pointer (some ⟨gc, 0, none⟩)] 23)) := HO2.out
            have p2 : wr.cell? ⟨B + 1, 2, none⟩ = some (.pointer (some ⟨gc, 0, none⟩)) := cell_blk (HC.focB (B + 1)).blk rfl
            have o0 : wr.cell? ⟨B, 0, none⟩ = some (.int .i64 K) := cell_blk (HC.focB B).blk rfl
            have o1 : wr.cell? ⟨B, 1, none⟩ = some (.string (str nm)) := cell_blk (HC.focB B).blk rfl
            have o2 : wr.cell? ⟨B, 2, none⟩ = some (.string (str ds)) := cell_blk (HC.focB B).blk rfl
            have o3 : wr.cell? ⟨B, 3, none⟩ = some (.slice Ab bb.length cb) := cell_blk (HC.focB B).blk rfl
            have H9 := HC
            clear HC HO2
            have H10 : Kp (Own w _ (Old w * DskH ga s2 * DskH gb s2 * DskH gc s2 * Blk B (.cells #[.int .i64 K, .string (str nm), .string (str ds), .slice Ab bb.length cb, .int .i64 N, .int .i64 T] 37) * Blk (B + 1) (.cells #[.pointer (some ⟨ga, 0, none⟩), .pointer (some ⟨gb, 0, none⟩), .pointer (some ⟨gc, 0, none⟩)] 23))) := Kp.mk (H9.eq (show _ = Old w * DskH ga s2 * DskH gb s2 * DskH gc s2 * Blk B (.cells #[.int .i64 K, .string (str nm), .string (str ds), .slice Ab bb.length cb, .int .i64 N, .int .i64 T] 37) * Blk (B + 1) (.cells #[.pointer (some ⟨ga, 0, none⟩), .pointer (some ⟨gb, 0, none⟩), .pointer (some ⟨gc, 0, none⟩)] 23) by ac_rfl))
            clear H9
            go_wp2
            go_roundg 0
            case rel => exact ⟨3, rfl, by omega, ⟨rfl⟩, H10⟩
            case measure => have := hgk2.out; omega
          · have HC : Own w wr (Old w * DskH ga s2 * DskH gb s2 * DskH gc s2 * Blk B (.cells #[.int .i64 K, .string (str nm), .string (str ds), .slice Ab bb.length cb, .int .i64 N, .int .i64 T] 37) * Blk (B + 1) (.cells #[.pointer (some ⟨ga, 0, none⟩), .pointer (some ⟨gb, 0, none⟩), .pointer (some ⟨gc, 0, none⟩)] 23)) := HO2.out
            have H10 := Kp.mk HC.drop.drop
            clear HC HO2
            go_wp2
            go_roundg (M - (i + 1))
            case rel => exact ⟨i + 1, _, by go_num, by omega, ⟨by omega⟩, hs2, H10⟩
            case measure => have := hgk.out; omega
    · have hi40 : i ≤ 40 := by have := hM.out; omega
      have hl := hs.out.len
      have hcase : L.length ≤ i ∨ i < L.length ∧ 40 ≤ i := by have := hM.out; omega
      have hC1 := Kp.mk (disk_Crash (HO.out.foc (DskH gb s)) 1073741824 t (by omega))
      have hbn := Kp.mk (crash_all s 1073741824 t (by omega))
      obtain ⟨hn1, hn2⟩ := hs.out.now
      obtain ⟨hm1, hm2⟩ := hs.out.crash0
      have hwl : Kp (s.wait.length ≤ 1000000) := ⟨by omega⟩
      generalize s.crash 1073741824 t = sb at hC1 hbn
      have hN1 : Kp (s.now.length ≤ 1000000 ∧ ∀ p ∈ s.now, p.1.length ≤ 1000000) := ⟨by omega, fun p hp => Nat.le_trans (hn2 p hp) (by decide)⟩
      have hN2 : Kp ((s.crash 0 0).now.length ≤ 1000000 ∧ ∀ p ∈ (s.crash 0 0).now, p.1.length ≤ 1000000) := ⟨by omega, fun p hp => Nat.le_trans (hm2 p hp) (by decide)⟩
      clear hn1 hn2 hm1 hm2 hl hlt hs hgk HO hi40
      rcases hcase with h7 | ⟨h7, h8⟩
      case' inl =>
        have t2 : decide ((i : Int) < (L.length : Int)) = false := decide_eq_false (by omega)
      case' inr =>
        have t2 : decide ((i : Int) < (L.length : Int)) = true := decide_eq_true (by omega)
        have t3 : decide ((i : Int) < 40) = false := decide_eq_false (by omega)
      all_goals
        go_wp2_with fail
        refine hC1.out.mono ?_
        rintro e w6 ⟨rfl, H6⟩
        clear hC1
        have hC2 := Kp.mk (disk_Crash (H6.foc (DskH gc s)) 0 0 hwl.out)
        clear H6
        go_wp2_with fail
        refine hC2.out.mono ?_
        rintro e w7 ⟨rfl, H7⟩
        clear hC2
        obtain ⟨sc, hsc⟩ : ∃ sc, Kp (s.crash 0 0 = sc) := ⟨_, ⟨rfl⟩⟩
        rw [hsc.out] at H7 hN2
        have hX := Kp.mk (disk_Names (H7.foc (DskH ga s)) hN1.out.1 hN1.out.2)
        clear H7
        go_wp2_with fail
        refine hX.out.mono ?_
        rintro e w8 ⟨v1, rfl, H8⟩
        clear hX
        obtain ⟨_, A1, c1, hv1, _⟩ := H8.sl (by decide)
        subst hv1
        have hX := disk_Names (H8.foc (DskH gb sb)) (by rw [hbn.out]; exact hN1.out.1) (by rw [hbn.out]; exact hN1.out.2)
        rw [hbn.out] at hX
        replace hX := Kp.mk hX
        clear H8
        go_wp2_with fail
        refine hX.out.mono ?_
        rintro e w9 ⟨v2, rfl, H9⟩
        clear hX
        obtain ⟨_, A2, c2, hv2, _⟩ := H9.sl (by decide)
        subst hv2
        have hU := Kp.mk (disk_Used (H9.foc (DskH ga s)))
        clear H9
        go_wp2_with fail
        refine hU.out.mono ?_
        rintro e w10 ⟨rfl, H10⟩
        clear hU
        have hU := disk_Used (H10.foc (DskH gb sb))
        rw [hbn.out] at hU
        replace hU := Kp.mk hU
        clear H10
        go_wp2_with fail
        refine hU.out.mono ?_
        rintro e w11 ⟨rfl, H11⟩
        clear hU
        obtain ⟨ns, hns⟩ : ∃ ns, Kp (namesF s.now = ns) := ⟨_, ⟨rfl⟩⟩
        rw [hns.out] at H11 ⊢
        obtain ⟨n, hnn⟩ : ∃ n, Kp (ns.length = n) := ⟨_, ⟨rfl⟩⟩
        rw [hnn.out] at H11 ⊢
        have H12 : Kp (Own w w11 (Old w * DskH ga s * DskH gb sb * DskH gc sc * Row 9 1 (.slice A1 n c1) n (NV ns) * Row 9 1 (.slice A2 n c2) n (NV ns))) := ⟨H11.eq (by ac_rfl)⟩
        have hns2 : n ≤ 1000000 := by
          rw [← hnn.out, ← hns.out, namesF_len]
          exact hN1.out.1
        clear H11 hN1
        go_wp2
        go_loopg [128] n (fun gk2 v wr => ∃ k : Nat, v = .int .i64 k ∧ k ≤ n ∧ Kp (gk2 + k = n) ∧ Kp (Own w wr (Old w * DskH ga s * DskH gb sb * DskH gc sc * Row 9 1 (.slice A1 n c1) n (NV ns) * Row 9 1 (.slice A2 n c2) n (NV ns))))
        case atStart => exact ⟨0, rfl, Nat.zero_le _, ⟨by omega⟩, H12⟩
        case round =>
          obtain ⟨k, rfl, hk, hgk2, HO⟩ := hrel
          clear H12
          by_cases hlt : k < n
          · obtain ⟨g1, cc1, ea, _⟩ := (HO.out.foc (Row 9 1 (.slice A1 n c1) n (NV ns))).at0 (by omega)
            injection ea with ea eb ec
            subst ea ec
            clear eb
            obtain ⟨g2, cc2, ea, _⟩ := (HO.out.foc (Row 9 1 (.slice A2 n c2) n (NV ns))).at0 (by omega)
            injection ea with ea eb ec
            subst ea ec
            clear eb
            obtain ⟨nk, hnk⟩ : ∃ nk, (NV ns)[k]? = some (.string (str nk)) := ⟨ns[k]'(by rw [hnn.out]; exact hlt), by simp [NV, hnn.out, hlt]⟩
            have q1 := (HO.out.foc (Row 9 1 (.slice (some ⟨g1, 0, none⟩) n c1) n (NV ns))).cellR k _ hnk
            have hR := Kp.mk (disk_Read (n := nk) (HO.out.foc (DskH ga s)))
            clear HO
            replace hnk := Kp.mk hnk
            go_wp2_with fail
            refine hR.out.mono ?_
            rintro e w13 ⟨va, rfl, H13⟩
            clear hR q1
            obtain ⟨_, Aa, ca, hva, _⟩ := H13.sl (by decide)
            subst hva
            have q2 := (H13.foc (Row 9 1 (.slice (some ⟨g2, 0, none⟩) n c2) n (NV ns))).cellR k _ hnk.out
            have hR := disk_Read (n := nk) (H13.foc (DskH gb sb))
            rw [(rd_alike hbn.out nk).1, (rd_alike hbn.out nk).2] at hR
            replace hR := Kp.mk hR
            clear H13
            go_wp2_with fail
            refine hR.out.mono ?_
            rintro e w14 ⟨vb, rfl, H14⟩
            clear hR q2
            obtain ⟨_, Ab, cb, hvb, _⟩ := H14.sl (by decide)
            subst hvb
            generalize rdC s nk = cn at H14 ⊢
            have q1 := (H14.foc (Row 9 1 (.slice (some ⟨g1, 0, none⟩) n c1) n (NV ns))).cellR k _ hnk.out
            have q2 := (H14.foc (Row 9 1 (.slice (some ⟨g2, 0, none⟩) n c2) n (NV ns))).cellR k _ hnk.out
            have hca : Kp (∀ m, (convert 28 9 (.slice Aa cn.length ca)).run Try.prog (w14.drewN m) = .ok (.string (str cn)) (w14.drewN m)) := ⟨fun m => run_str (P := Try.prog) Try.underlying28 Try.underlying5 Try.underlying9 (((H14.drewN m).foc (Row 5 1 (.slice Aa cn.length ca) cn.length (U cn))).sl (by decide))⟩
            have hcb : Kp (∀ m, (convert 28 9 (.slice Ab cn.length cb)).run Try.prog (w14.drewN m) = .ok (.string (str cn)) (w14.drewN m)) := ⟨fun m => run_str (P := Try.prog) Try.underlying28 Try.underlying5 Try.underlying9 ((H14.drewN m).sl (by decide))⟩
            have H15 : Kp (Own w w14 (Old w * DskH ga s * DskH gb sb * DskH gc sc * Row 9 1 (.slice (some ⟨g1, 0, none⟩) n c1) n (NV ns) * Row 9 1 (.slice (some ⟨g2, 0, none⟩) n c2) n (NV ns))) := ⟨((H14.eq (show _ = Old w * DskH ga s * DskH gb sb * DskH gc sc * Row 9 1 (.slice (some ⟨g1, 0, none⟩) n c1) n (NV ns) * Row 9 1 (.slice (some ⟨g2, 0, none⟩) n c2) n (NV ns) * Row 5 1 (.slice Aa cn.length ca) cn.length (U cn) * Row 5 1 (.slice Ab cn.length cb) cn.length (U cn) by ac_rfl)).drop).drop⟩
            clear H14
            have hc2 := hca.out
            have hc3 := hcb.out
            clear hca hcb
            go_wp2
            go_quiet (fail)
            replace H15 := Kp.mk (H15.out.drewN nq)
            clear hc2 hc3 q1 q2 hnk
            go_wp2
            go_roundg (n - (k + 1))
            case rel => exact ⟨k + 1, by go_num, by omega, ⟨by omega⟩, H15⟩
            case measure => have := hgk2.out; omega
          · obtain rfl : k = n := by omega
            have hC := disk_Crash (HO.out.foc (DskH ga s)) 0 0 hwl.out
            rw [hsc.out] at hC
            replace hC := Kp.mk hC
            clear HO hlt hgk2
            go_wp2_with fail
            refine hC.out.mono ?_
            rintro e w13 ⟨rfl, H13⟩
            clear hC
            have hX := Kp.mk (disk_Names (H13.foc (DskH gc sc)) hN2.out.1 hN2.out.2)
            clear H13
            go_wp2_with fail
            refine hX.out.mono ?_
            rintro e w14 ⟨v3, rfl, H14⟩
            clear hX
            obtain ⟨_, A3, c3, hv3, _⟩ := H14.sl (by decide)
            subst hv3
            have hX := Kp.mk (disk_Names (H14.foc (DskH ga sc)) hN2.out.1 hN2.out.2)
            clear H14
            go_wp2_with fail
            refine hX.out.mono ?_
            rintro e w15 ⟨v4, rfl, H15⟩
            clear hX
            obtain ⟨_, A4, c4, hv4, _⟩ := H15.sl (by decide)
            subst hv4
            have hX := Kp.mk (disk_Names (H15.drop.foc (DskH ga sc)) hN2.out.1 hN2.out.2)
            clear H15
            go_wp2_with fail
            refine hX.out.mono ?_
            rintro e w16 ⟨v5, rfl, H16⟩
            clear hX
            obtain ⟨_, A5, c5, hv5, _⟩ := H16.sl (by decide)
            subst hv5
            obtain ⟨ms, hms⟩ : ∃ ms, Kp (namesF sc.now = ms) := ⟨_, ⟨rfl⟩⟩
            rw [hms.out] at H16 ⊢
            obtain ⟨m, hmm⟩ : ∃ m, Kp (ms.length = m) := ⟨_, ⟨rfl⟩⟩
            rw [hmm.out] at H16 ⊢
            have hm2 : m ≤ 1000000 := by
              rw [← hmm.out, ← hms.out, namesF_len]
              exact hN2.out.1
            have H17 : Kp (Own w w16 (Old w * DskH ga sc * DskH gc sc * Row 9 1 (.slice A3 m c3) m (NV ms) * Row 9 1 (.slice A5 m c5) m (NV ms))) := ⟨((((H16.eq (show _ = Old w * DskH ga sc * DskH gc sc * Row 9 1 (.slice A3 m c3) m (NV ms) * Row 9 1 (.slice A5 m c5) m (NV ms) * DskH gb sb * Row 9 1 (.slice A1 k c1) k (NV ns) * Row 9 1 (.slice A2 k c2) k (NV ns) by ac_rfl)).drop).drop).drop)⟩
            clear H16 hN2
            go_wp2
            go_loopg [179] m (fun gk2 v wr => ∃ j : Nat, v = .int .i64 j ∧ j ≤ m ∧ Kp (gk2 + j = m) ∧ Kp (Own w wr (Old w * DskH ga sc * DskH gc sc * Row 9 1 (.slice A3 m c3) m (NV ms) * Row 9 1 (.slice A5 m c5) m (NV ms))))
            case atStart => exact ⟨0, rfl, Nat.zero_le _, ⟨by omega⟩, H17⟩
            case round =>
              obtain ⟨j, rfl, hj, hgk3, HO⟩ := hrel
              clear H17
              by_cases hlt : j < m
              · obtain ⟨g3, cc3, ea, _⟩ := (HO.out.foc (Row 9 1 (.slice A3 m c3) m (NV ms))).at0 (by omega)
                injection ea with ea eb ec
                subst ea ec
                clear eb
                obtain ⟨g5, cc5, ea, _⟩ := (HO.out.foc (Row 9 1 (.slice A5 m c5) m (NV ms))).at0 (by omega)
                injection ea with ea eb ec
                subst ea ec
                clear eb
                obtain ⟨nk, hnk⟩ : ∃ nk, (NV ms)[j]? = some (.string (str nk)) := ⟨ms[j]'(by rw [hmm.out]; exact hlt), by simp [NV, hmm.out, hlt]⟩
                have q1 := (HO.out.foc (Row 9 1 (.slice (some ⟨g5, 0, none⟩) m c5) m (NV ms))).cellR j _ hnk
                have hR := Kp.mk (disk_Read (n := nk) (HO.out.foc (DskH ga sc)))
                clear HO
                replace hnk := Kp.mk hnk
                go_wp2_with fail
                refine hR.out.mono ?_
                rintro e w17 ⟨va, rfl, H17⟩
                clear hR q1
                obtain ⟨_, Aa, ca, hva, _⟩ := H17.sl (by decide)
                subst hva
                have hR := Kp.mk (disk_Read (n := nk) (H17.foc (DskH gc sc)))
                clear H17
                go_wp2_with fail
                refine hR.out.mono ?_
                rintro e w18 ⟨vb, rfl, H18⟩
                clear hR
                obtain ⟨_, Ab, cb, hvb, _⟩ := H18.sl (by decide)
                subst hvb
                generalize rdC sc nk = cn at H18 ⊢
                have q1 := (H18.foc (Row 9 1 (.slice (some ⟨g3, 0, none⟩) m c3) m (NV ms))).cellR j _ hnk.out
                have hca := run_str (P := Try.prog) Try.underlying28 Try.underlying5 Try.underlying9 ((H18.foc (Row 5 1 (.slice Aa cn.length ca) cn.length (U cn))).sl (by decide))
                have hcb := run_str (P := Try.prog) Try.underlying28 Try.underlying5 Try.underlying9 (H18.sl (by decide))
                have H19 : Kp (Own w w18 (Old w * DskH ga sc * DskH gc sc * Row 9 1 (.slice (some ⟨g3, 0, none⟩) m c3) m (NV ms) * Row 9 1 (.slice (some ⟨g5, 0, none⟩) m c5) m (NV ms))) := ⟨((H18.eq (show _ = Old w * DskH ga sc * DskH gc sc * Row 9 1 (.slice (some ⟨g3, 0, none⟩) m c3) m (NV ms) * Row 9 1 (.slice (some ⟨g5, 0, none⟩) m c5) m (NV ms) * Row 5 1 (.slice Aa cn.length ca) cn.length (U cn) * Row 5 1 (.slice Ab cn.length cb) cn.length (U cn) by ac_rfl)).drop).drop⟩
                clear H18
                go_wp2
                go_roundg (m - (j + 1))
                case rel => exact ⟨j + 1, by go_num, by omega, ⟨by omega⟩, H19⟩
                case measure => have := hgk3.out; omega
              · obtain rfl : j = m := by omega
                have HE := Kp.mk HO.out.drop.drop.drop.drop
                clear HO hlt hgk3
                go_wp2
                go_ret
                exact ⟨rfl, HE.out.old⟩
theorem diskAll_walk (w : World) (vo : Value) (L : List OpM) (gL : Sl w vo 6 L.length (L.flatMap OpM.cells)) (gB : ∀ o ∈ L, Sl w o.bv 1 o.b.length (U o.b)) (t : Int) (_ : (Lit.int .i64 t).wf = true) :
    Calls Try.prog 6 #[vo, .int .i64 t] w fun e w' => e = .returned (.bool true) ∧ Below w.heap.size w w' := diskAll_core w vo L gL gB t
end Go.Proofs.YtgakacingdlgpaaSep
