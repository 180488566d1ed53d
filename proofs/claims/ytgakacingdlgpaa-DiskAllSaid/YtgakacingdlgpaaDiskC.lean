/- Own work: the disk as a thing that is owned; New, ask, Used, Free. -/
import Derived.Test.YtgakacingdlgpaaDiskB
import Derived.Test.YtgakacingdlgpaaDiskN
namespace Go.Proofs.YtgakacingdlgpaaSep
open Go.RowKit Go.Lib Go.Proofs Go.Shelf

/-- A disk, as the proofs know it: its room, what is safe, what isn't yet, how much was done. -/
structure Dk where
  room : Nat
  safe : FL
  wait : List Chg
  work : Nat
def Dk.now (s : Dk) : FL := nowF s.safe s.wait
/-- Changes as values. -/
def WRel (G : HP) : List Value → List Chg → Prop
  | [], [] => True
  | a :: b :: c :: d :: cs, w :: ws => a = .int .i64 w.kind ∧ b = .string (str w.name) ∧ c = .string (str w.dst) ∧ Cont G d w.b ∧ w.kind ≤ 2 ∧ WRel G cs ws
  | _, _ => False
theorem WRel.more {G X : HP} : ∀ {cs : List Value} {ws : List Chg}, WRel G cs ws → WRel (G * X) cs ws
  | [], [], _ => trivial
  | _ :: _ :: _ :: _ :: _, _ :: _, ⟨h1, h2, h3, h4, h5, h6⟩ => ⟨h1, h2, h3, h4.more, h5, h6.more⟩
theorem WRel.len {G : HP} : ∀ {cs : List Value} {ws : List Chg}, WRel G cs ws → cs.length = ws.length * 4
  | [], [], _ => rfl
  | _ :: _ :: _ :: _ :: _, _ :: _, ⟨_, _, _, _, _, h6⟩ => by
    have := h6.len
    simp only [List.length_cons]; omega
theorem WRel.snoc {G : HP} {d : Value} {w : Chg} (hd : Cont G d w.b) (hk : w.kind ≤ 2) : ∀ {cs : List Value} {ws : List Chg}, WRel G cs ws → WRel G (cs ++ [.int .i64 w.kind, .string (str w.name), .string (str w.dst), d]) (ws ++ [w])
  | [], [], _ => ⟨rfl, rfl, rfl, hd, hk, trivial⟩
  | _ :: _ :: _ :: _ :: _, _ :: _, ⟨h1, h2, h3, h4, h5, h6⟩ => ⟨h1, h2, h3, h4, h5, WRel.snoc hd hk h6⟩
/-- What holds of a disk at all times. -/
structure DkOk (s : Dk) : Prop where
  room : s.room ≤ 16777216
  keys : KeysA s.safe
  tots : ∀ k, tot (nowF s.safe (s.wait.take k)) ≤ s.room
  parts : ∀ w ∈ s.wait, w.b.length ≤ 16777216
theorem DkOk.now {s : Dk} (h : DkOk s) : tot s.now ≤ s.room := by
  have := h.tots s.wait.length
  rwa [List.take_length] at this
def DskB (g : Nat) (s : Dk) (G : HP) (bn bs : Nat) (L1 L2 : AL) (vw : Value) (cs : List Value) : HP :=
  G * MapH bn L1 * MapH bs L2 * Row 56 4 vw s.wait.length cs * Blk g (.cells #[.int .i64 s.room, .map (some bn), .map (some bs), vw, .int .i64 0, .bool false, .int .i64 s.work] 50)
/-- Block g is such a disk. -/
def DskH (g : Nat) (s : Dk) : HP := fun h => ∃ G bn bs L1 L2 vw cs, DkOk s ∧ FRel G L1 s.now ∧ FRel G L2 s.safe ∧ WRel G cs s.wait ∧ DskB g s G bn bs L1 L2 vw cs h
section
variable {W0 w : World} {R : HP} {g : Nat} {s : Dk}
theorem Own.dsk (H : Own W0 w (R * DskH g s)) : ∃ G bn bs L1 L2 vw cs, DkOk s ∧ FRel G L1 s.now ∧ FRel G L2 s.safe ∧ WRel G cs s.wait ∧ Own W0 w (R * DskB g s G bn bs L1 L2 vw cs) := by
  obtain ⟨q1, q2, q3, h, ⟨a, c, hd, rfl, ha, ⟨G, bn, bs, L1, L2, vw, cs, h1, h2, h3, h4, hb⟩⟩, hs⟩ := H
  exact ⟨G, bn, bs, L1, L2, vw, cs, h1, h2, h3, h4, q1, q2, q3, _, ⟨a, c, hd, rfl, ha, hb⟩, hs⟩
theorem Own.toDsk {G : HP} {bn bs : Nat} {L1 L2 : AL} {vw : Value} {cs : List Value} (h1 : DkOk s) (h2 : FRel G L1 s.now) (h3 : FRel G L2 s.safe) (h4 : WRel G cs s.wait) (H : Own W0 w (R * DskB g s G bn bs L1 L2 vw cs)) : Own W0 w (R * DskH g s) :=
  H.mono fun _ ⟨a, c, hd, he, ha, hb⟩ => ⟨a, c, hd, he, ha, ⟨G, bn, bs, L1, L2, vw, cs, h1, h2, h3, h4, hb⟩⟩
end
set_option maxHeartbeats 1000000 in
theorem disk_New {W0 w : World} {R : HP} (H : Own W0 w R) (r : Nat) (h0 : 0 < r) (hr : r ≤ 16777216) :
    Calls Try.prog 9 #[.int .i64 r] w fun e w' => ∃ g, e = .returned (.pointer (some ⟨g, 0, none⟩)) ∧ Own W0 w' (R * DskH g ⟨r, [], [], 0⟩) := by
  have H1 := (((H.alloc (.map #[] 0)).mapNil).alloc (.map #[] 0)).mapNil
  rw [World.size_alloc] at H1
  have H2 := (H1.alloc (.cells #[.int .i64 r, .map (some w.heap.size), .map (some (w.heap.size + 1)), .slice none 0 0, .int .i64 0, .bool false, .int .i64 0] 50))
  rw [World.size_alloc, World.size_alloc] at H2
  clear H1
  have hmm := fun w => run_makeMap (P := Try.prog) 47 w
  replace H2 := Kp.mk H2
  go_enter Try.func9, Try.ntmps9
  go_wp2
  go_ret
  refine ⟨_, rfl, Own.toDsk (G := emp) (bn := w.heap.size) (bs := w.heap.size + 1) (L1 := []) (L2 := []) (vw := .slice none 0 0) (cs := []) ⟨hr, List.Pairwise.nil, fun k => by simp [nowF, tot], fun _ h => absurd h (List.not_mem_nil)⟩ trivial trivial trivial ?_⟩
  refine (H2.out.rot.emp.nil 56 4).eq ?_
  unfold DskB
  dsimp only [List.length_nil]
  generalize w.heap.size + 1 + 1 = g0
  generalize w.heap.size + 1 = g1
  show _ = R * (emp * MapH w.heap.size [] * MapH g1 [] * Row 56 4 (.slice none 0 0) 0 [] * Blk g0 (.cells #[.int .i64 r, .map (some w.heap.size), .map (some g1), .slice none 0 0, .int .i64 0, .bool false, .int .i64 0] 50))
  ac_rfl
section
variable {W0 w : World} {R : HP} {g : Nat} {s : Dk}
theorem Own.dskCell (H : Own W0 w (R * DskH g s)) : w.cell? ⟨g, 0, none⟩ = some (.int .i64 s.room) ∧ w.cell? ⟨g, 4, none⟩ = some (.int .i64 0) ∧ w.cell? ⟨g, 5, none⟩ = some (.bool false) := by
  obtain ⟨G, bn, bs, L1, L2, vw, cs, h1, h2, h3, h4, h⟩ := H.dsk
  unfold DskB at h
  rw [← star_assoc] at h
  exact ⟨cell_blk h.blk rfl, cell_blk h.blk rfl, cell_blk h.blk rfl⟩
def askE (ns : List (List UInt8)) : Int := if ns.all namedF then 0 else 1
def NV (ns : List (List UInt8)) : List Value := ns.map fun x => .string (str x)
set_option maxHeartbeats 2000000 in
theorem disk_ask {v : Value} {ns : List (List UInt8)} (H : Own W0 w (R * DskH g s)) (hs : Held W0 (R * DskH g s) v 1 ns.length (NV ns)) (hn : ns.length ≤ 1000000) :
    Calls Try.prog 24 #[.pointer (some ⟨g, 0, none⟩), v] w fun e w' => e = .returned (.int .i64 (askE ns)) ∧ Own W0 w' (R * DskH g s) := by
  obtain ⟨_, A, c, rfl, _⟩ := hs.sl H
  have HH := Kp.mk H
  clear H
  replace hs := Kp.mk hs
  go_enter Try.func24, Try.ntmps24
  go_wp2
  go_loopg [11] ns.length (fun gk v wr => ∃ k : Nat, v = .int .i64 k ∧ k ≤ ns.length ∧ Kp (gk + k = ns.length) ∧ Kp ((ns.take k).all namedF = true) ∧ Kp (Own W0 wr (R * DskH g s)))
  case atStart => exact ⟨0, rfl, Nat.zero_le _, ⟨by omega⟩, ⟨by simp⟩, HH⟩
  case round =>
    obtain ⟨k, rfl, hk, hgk, hall, HO⟩ := hrel
    by_cases hlt : k < ns.length
    · obtain ⟨Ak, ck, e1, hck⟩ := (hs.out.sl HO.out).at_ k hlt
      injection e1 with e1 e2 e3
      subst e1
      clear e2 e3
      rw [show (NV ns).getD k undef = .string (str (ns[k]'hlt)) by simp [NV, hlt]] at hck
      generalize hx : ns[k]'hlt = x at hck
      have hHN := Kp.mk (disk_Named HO.out x)
      have hsn : Kp ((ns.take (k + 1)).all namedF = namedF x) := ⟨by rw [List.take_add_one, List.getElem?_eq_getElem hlt, List.all_append, hall.out, hx]; simp⟩
      have hbad : Kp (namedF x = false → ns.all namedF = false) := ⟨fun h => by rw [List.all_eq_false]; exact ⟨_, List.getElem_mem hlt, by rw [hx]; simp [h]⟩⟩
      clear hx
      go_wp2_with fail
      refine hHN.out.mono ?_
      rintro e w2 ⟨rfl, H2⟩
      clear hHN
      replace H2 := Kp.mk H2
      rcases hq : namedF x with _ | _
      · have hb := Kp.mk (hbad.out hq)
        clear hq hbad hsn
        go_wp2
        go_ret
        rw [askE, hb.out]
        exact ⟨rfl, H2.out⟩
      · rw [hq] at hsn
        clear hq hbad
        go_wp2
        go_roundg (ns.length - (k + 1))
        case rel => exact ⟨k + 1, by go_num, by omega, ⟨by omega⟩, hsn, H2⟩
        case measure => have := hgk.out; omega
    · obtain rfl : k = ns.length := by omega
      have c5 := HO.out.dskCell.2.2
      rw [List.take_length] at hall
      go_wp2
      go_ret
      rw [askE, hall.out]
      exact ⟨rfl, HO.out⟩
end
end Go.Proofs.YtgakacingdlgpaaSep
