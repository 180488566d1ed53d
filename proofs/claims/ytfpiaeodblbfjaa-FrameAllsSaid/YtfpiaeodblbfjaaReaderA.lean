/- Own work: the reader of bytes: slices.Clone, num.Read, and the reader's methods, by walks. -/
import Derived.Test.YtfpiaeodblbfjaaNumA
import Derived.Lib.SliceRun
namespace Go.Proofs.YtfpiaeodblbfjaaSep
open Go.RowKit Go.Lib Go.Proofs

/-- The heap's part h is all that is wanted to read v. -/
def Rds (v : Value) (sz n : Nat) (cs : List Value) : HP := fun h => ∀ w : World, (∀ k o, h k = some o → w.heap[k]? = some o) → Sl w v sz n cs
theorem Own.rds {W0 w : World} {P : HP} {v : Value} {sz n : Nat} {cs : List Value} (H : Own W0 w (P * Rds v sz n cs)) : Sl w v sz n cs := by
  obtain ⟨ha, hA, hs, _⟩ := H.frame
  exact hA w hs
theorem Own.toRds {W0 w : World} {P : HP} {v : Value} {e sz n : Nat} {cs : List Value} (H : Own W0 w (P * Row e sz v n cs)) (hsz : 0 < sz) : Own W0 w (P * Rds v sz n cs) :=
  H.turn fun h hh w' hw => by
    have H' : Own w' w' (Go.Proofs.YtfpiaeodblbfjaaSep.emp * Row e sz v n cs) := ⟨rfl, rfl, rfl, h, (emp_star _).symm ▸ hh, hw⟩
    exact H'.sl hsz
theorem Own.rdsNil {W0 w : World} {P : HP} (H : Own W0 w P) (sz : Nat) : Own W0 w (P * Rds (.slice none 0 0) sz 0 []) := H.emp.turn fun _ _ w' _ => Sl.nil w' sz
/-- A cut from k on. -/
theorem Sl.drop {w : World} {A : Option Addr} {n c k : Nat} {cs : List Value} (h : Sl w (.slice A n c) 1 n cs) (hk : k ≤ n) : Sl w (.slice (if c = k then A else A.map (·.add k)) (n - k) (c - k)) 1 (n - k) (cs.drop k) := by
  obtain ⟨hl, A', c', he, h1, h2, h4, h3⟩ := h
  injection he with e1 _ e3
  subst e1 e3
  refine ⟨by rw [List.length_drop, hl]; omega, _, _, rfl, by omega, by omega, fun hA => ?_, fun h0 => ?_⟩
  · by_cases hc : c = k
    · omega
    · rw [if_neg hc] at hA
      have := h4 (by simpa using hA)
      omega
  · obtain ⟨ad, rfl, hc⟩ := h3 (by omega)
    rw [if_neg (by omega)]
    refine ⟨ad.add k, rfl, fun j u hj => ?_⟩
    have h5 := hc (k + j) u (by rw [List.getElem?_drop] at hj; exact hj)
    have : (ad.add k).add j = ad.add (k + j) := by
      unfold Addr.add
      repeat' split
      all_goals first | rfl | omega | (simp; done) | (simp; omega)
    rw [this]
    exact h5

/-- 'v[i:]' as a run. -/
theorem run_cut_l {P : Program} {t e sz bytes : Nat} {z : Value} (ht : P.underlying t = some (.slice e)) (hinfo : (P.info? e).map (fun i => (i.zero, i.size, i.bytes)) = some (some z, sz, bytes)) (A X : Option Addr) (n c : Nat) (i : Int) (h0 : 0 ≤ i) (h1 : i ≤ n)
    (hX : X = if c = i.toNat then A else A.map (·.add (i.toNat * sz))) : ∀ w, (Instr.slice t (.slice A n c) (some (.int .i64 i)) none none).run P w = .ok (.slice X (n - i.toNat) (c - i.toNat)) w := by
  intro w
  obtain ⟨inf, hi, hzz⟩ := Option.map_eq_some_iff.1 hinfo
  simp only [Prod.mk.injEq] at hzz
  obtain ⟨_, hz1, _⟩ := hzz
  have hel : P.elem t = e := by simp [Program.elem, ht]
  have hu : P.underlying t = some (.slice (P.elem t)) := by rw [hel]; exact ht
  rw [run_slice_l w t A n c hu .i64 i h0 h1, hel]
  simp [sizeOf, typeInfo, hi, hz1, sliced, Result.andThen, hX]
set_option maxHeartbeats 400000 in
theorem clone_u8 {W0 w : World} {R : HP} {vd : Value} {n : Nat} {cs : List Value} (H : Own W0 w R) (hd : Held W0 R vd 1 n cs) (h1 : ∀ u ∈ cs, u.oneCell' = true) (hn : n ≤ 100000000) :
    Calls Try.prog 30 #[vd] w fun e w' => ∃ v', e = .returned v' ∧ Own W0 w' (R * Row 5 1 v' n cs) ∧ w.heap.size ≤ w'.heap.size := by
  have HD := Kp.mk hd
  have hS := hd.sl H
  obtain ⟨hcl, A, c, rfl, j1, j2, j3, j4⟩ := id hS
  have hq := fun w => run_eql_slice_nil (P := Try.prog) w 24 5 A n c 0 0 Try.underlying24
  cases A with
  | none =>
    have hn0 : n = 0 := by have := j3 rfl; omega
    have hcs : cs = [] := by rw [hn0] at hcl; exact List.eq_nil_of_length_eq_zero (by simpa using hcl)
    subst hn0 hcs
    clear hd hS j1 j2 j3 j4 hcl
    go_enter Try.func30, Try.ntmps30
    go_wp2
    go_ret
    exact ⟨_, rfl, H.nil _ _, Nat.le_refl _⟩
  | some ad =>
    clear hd j2 j3 j4 hcl
    go_enter Try.func30, Try.ntmps30
    go_wp2_with (at_builtin; go_must (refine own_append (v := .slice (some ⟨w.heap.size, 0, none⟩) 0 0) (vx := .slice (some ad) n c) ((H.box (.cells #[] 5)).zero 5 1 w.heap.size 0) rfl (.tmp 5) (.tmp 6) 24 (.int .u8 0) 1 n cs rfl Try.underlying24 info_u8 rfl (by decide) rfl rfl (HD.out.sl (H.box _)) h1 ?c2 ?c3 ?_))
    case c2 => unfold maxLen; omega
    case c3 => omega
    intro v2 w2 H2 hz2 _
    go_wp2
    go_ret
    exact ⟨v2, rfl, H2, by omega⟩

/-- A reader at block p: what is left, and why it reads no more (0: it reads). -/
def Rdr (p : Nat) (l : List UInt8) (er : Int) : HP := fun h => ∃ vb, (Blk p (.cells #[vb, .int .i64 er] 62) * Rds vb 1 l.length (U l)) h
class FocRdr (P : HP) (p : Nat) (l : outParam (List UInt8)) (er : outParam Int) (X : outParam HP) : Prop where eq : P = X * Rdr p l er
instance {X : HP} {p : Nat} {l : List UInt8} {er : Int} : FocRdr (X * Rdr p l er) p l er X := ⟨rfl⟩
instance {P B X : HP} {p : Nat} {l : List UInt8} {er : Int} [h : FocRdr P p l er X] : FocRdr (P * B) p l er (X * B) := ⟨by rw [h.eq, star_right_comm]⟩
section
variable {W0 w : World} {R : HP} {p : Nat} {l : List UInt8} {er : Int}
theorem Own.rdr (H : Own W0 w (R * Rdr p l er)) : ∃ vb, Own W0 w (R * Blk p (.cells #[vb, .int .i64 er] 62) * Rds vb 1 l.length (U l)) := by
  obtain ⟨h1, h2, h3, h, ⟨x, y, hd, rfl, hx, vb, hy⟩, hs⟩ := H
  exact ⟨vb, h1, h2, h3, x.join y, by rw [star_assoc]; exact ⟨x, y, hd, rfl, hx, hy⟩, hs⟩
theorem Own.ofRdr {vb : Value} (H : Own W0 w (R * Blk p (.cells #[vb, .int .i64 er] 62) * Rds vb 1 l.length (U l))) : Own W0 w (R * Rdr p l er) := by
  rw [star_assoc] at H
  exact H.turn fun h hh => ⟨vb, hh⟩
set_option maxHeartbeats 400000 in
theorem num_Read {vd : Value} (H : Own W0 w R) (hd : Held W0 R vd 1 l.length (U l)) (hn : l.length ≤ 100000000) :
    Calls Try.prog 19 #[vd] w fun e w' => ∃ p, e = .returned (.pointer (some ⟨p, 0, none⟩)) ∧ Own W0 w' (R * Rdr p l 0) ∧ w.heap.size ≤ w'.heap.size := by
  have HQ := Kp.mk (clone_u8 H hd (U_one l) hn)
  clear hd
  go_enter Try.func19, Try.ntmps19
  go_wp2_with fail
  refine HQ.out.mono ?_
  rintro e w1 ⟨v1, rfl, H1, hz1⟩
  obtain ⟨A, c, hv, _⟩ := (H1.sl (by decide)).2
  subst hv
  go_wp2
  go_ret
  exact ⟨_, rfl, Own.ofRdr (((H1.toRds (by decide)).alloc _).rot), by simp; omega⟩
theorem cell_blk {g j : Nat} {cs : Array Value} {t : TypeId} {fr : Nat × Nat} {v : Value} (h : w.heap[g]? = some (.cells cs t fr)) (hv : cs[j]? = some v) : w.cell? ⟨g, j, none⟩ = some v := by
  rw [cell_of_row w g j cs t fr h]; exact hv
theorem frz_blk {g j : Nat} {cs : Array Value} {t : TypeId} (h : w.heap[g]? = some (.cells cs t (0, 0))) : w.frozen? ⟨g, j, none⟩ = false := by
  simp [World.frozen?, h]
theorem rdr_Err (H : Own W0 w (R * Rdr p l er)) : Calls Try.prog 22 #[.pointer (some ⟨p, 0, none⟩)] w fun e w' => e = .returned (.int .i64 er) ∧ w = w' := by
  obtain ⟨vb, H⟩ := H.rdr
  have c1 : w.cell? ⟨p, 1, none⟩ = some (.int .i64 er) := cell_blk H.drop.blk rfl
  clear H
  go_enter Try.func22, Try.ntmps22
  go_wp2
  go_ret
  exact ⟨rfl, rfl⟩
def leftN (l : List UInt8) (er : Int) : Int := if er = 0 then l.length else 0
theorem leftN_ok (l : List UInt8) : leftN l 0 = l.length := rfl
theorem leftN_no (l : List UInt8) {er : Int} (h : ¬ er = 0) : leftN l er = 0 := if_neg h
theorem rdr_Left (H : Own W0 w (R * Rdr p l er)) : Calls Try.prog 23 #[.pointer (some ⟨p, 0, none⟩)] w fun e w' => e = .returned (.int .i64 (leftN l er)) ∧ w = w' := by
  obtain ⟨vb, H⟩ := H.rdr
  obtain ⟨A, c, rfl, _⟩ := H.rds.2
  have c0 : w.cell? ⟨p, 0, none⟩ = some (.slice A l.length c) := cell_blk H.drop.blk rfl
  have c1 : w.cell? ⟨p, 1, none⟩ = some (.int .i64 er) := cell_blk H.drop.blk rfl
  clear H
  by_cases h : er = 0
  · subst h
    go_enter Try.func23, Try.ntmps23
    go_wp2
    go_ret
    rw [leftN_ok]
    exact ⟨rfl, rfl⟩
  · have h2 : (er == 0) = false := by simpa using h
    have h3 : (er != 0) = true := by simpa using h
    have HH := Kp.mk h
    clear h
    go_enter Try.func23, Try.ntmps23
    go_wp2
    go_ret
    rw [leftN_no l HH.out]
    exact ⟨rfl, rfl⟩
def endE (l : List UInt8) (er : Int) : Int := if er = 0 then (if l.length = 0 then 0 else 2) else er
theorem endE_ok {l : List UInt8} (h : l.length = 0) : endE l 0 = 0 := by simp [endE, h]
theorem endE_more {l : List UInt8} (h : ¬ l.length = 0) : endE l 0 = 2 := by rw [endE, if_pos rfl, if_neg h]
theorem endE_no (l : List UInt8) {er : Int} (h : ¬ er = 0) : endE l er = er := if_neg h
set_option maxHeartbeats 400000 in
theorem rdr_End (H : Own W0 w (R * Rdr p l er)) : Calls Try.prog 25 #[.pointer (some ⟨p, 0, none⟩)] w fun e w' => e = .returned (.int .i64 (endE l er)) ∧ w = w' := by
  obtain ⟨vb, H⟩ := H.rdr
  obtain ⟨A, c, rfl, _⟩ := H.rds.2
  have c0 : w.cell? ⟨p, 0, none⟩ = some (.slice A l.length c) := cell_blk H.drop.blk rfl
  have c1 : w.cell? ⟨p, 1, none⟩ = some (.int .i64 er) := cell_blk H.drop.blk rfl
  clear H
  by_cases h : er = 0
  · subst h
    by_cases hl : l.length = 0
    · have hq : decide ((0 : Int) < (l.length : Int)) = false := decide_eq_false (by omega)
      have hq2 : decide (0 < l.length) = false := decide_eq_false (by omega)
      have HL := Kp.mk (endE_ok hl)
      clear hl
      go_enter Try.func25, Try.ntmps25
      go_wp2
      go_ret
      rw [HL.out]
      exact ⟨rfl, rfl⟩
    · have hq : decide ((0 : Int) < (l.length : Int)) = true := decide_eq_true (by omega)
      have hq2 : decide (0 < l.length) = true := decide_eq_true (by omega)
      have HL := Kp.mk (endE_more hl)
      clear hl
      go_enter Try.func25, Try.ntmps25
      go_wp2
      go_ret
      rw [HL.out]
      exact ⟨rfl, rfl⟩
  · have h2 : (er == 0) = false := by simpa using h
    have h3 : (er != 0) = true := by simpa using h
    have HH := Kp.mk h
    clear h
    go_enter Try.func25, Try.ntmps25
    go_wp2
    go_ret
    rw [endE_no l HH.out]
    exact ⟨rfl, rfl⟩
/-- What can't be read: nothing can from then on. -/
theorem rdr_fail (H : Own W0 w (R * Rdr p l 0)) (x : Int) : Calls Try.prog 31 #[.pointer (some ⟨p, 0, none⟩), .int .i64 x] w fun e w' => e = .returned (.tuple #[]) ∧ Own W0 w' (R * Rdr p [] x) ∧ w.heap.size ≤ w'.heap.size := by
  obtain ⟨vb, H⟩ := H.rdr
  have c1 : w.cell? ⟨p, 1, none⟩ = some (.int .i64 0) := cell_blk H.drop.blk rfl
  have f0 : w.frozen? ⟨p, 0, none⟩ = false := frz_blk H.drop.blk
  have f1 : w.frozen? ⟨p, 1, none⟩ = false := frz_blk H.drop.blk
  obtain ⟨A, c, rfl, _⟩ := H.rds.2
  have c0 : w.cell? ⟨p, 0, none⟩ = some (.slice A l.length c) := cell_blk H.drop.blk rfl
  have HO := Kp.mk ((H.drop.set 1 (.int .i64 x)).set 0 (.slice none 0 0))
  clear H
  go_enter Try.func31, Try.ntmps31
  go_wp2
  go_end0
  exact ⟨rfl, Own.ofRdr (HO.out.rdsNil 1), by simp⟩
end
end Go.Proofs.YtfpiaeodblbfjaaSep
