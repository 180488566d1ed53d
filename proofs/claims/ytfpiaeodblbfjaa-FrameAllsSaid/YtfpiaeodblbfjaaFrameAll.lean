/- Own work: all frames, by walks. -/
import Derived.Test.YtfpiaeodblbfjaaFrameNext
import Derived.Test.YtfpiaeodblbfjaaRange
namespace Go.Proofs.YtfpiaeodblbfjaaSep
open Go.RowKit Go.Lib Go.Proofs Go.Shelf
attribute [local go_sem] Oper.semAt_some

/-- The frames from a place on: the place behind each, and its data. -/
def allG (l : List UInt8) : Nat → Nat → List (Nat × List UInt8)
  | 0, _ => []
  | f + 1, at_ => if at_ < l.length ∧ (nextF (l.drop at_)).2.2 = 0 then (at_ + (nextF (l.drop at_)).2.1, (nextF (l.drop at_)).1) :: allG l f (at_ + (nextF (l.drop at_)).2.1) else []
def allF (l : List UInt8) : List (Nat × List UInt8) := allG l l.length 0
theorem nextF_fit (l : List UInt8) : (nextF l).2.1 ≤ l.length ∧ ((nextF l).2.2 = 0 → 0 < (nextF l).2.1) ∧ (nextF l).1.length ≤ l.length := by
  obtain ⟨⟨n, t, er⟩, hr⟩ : ∃ r, numGo 2097152 0 0 l = r := ⟨_, rfl⟩
  have h1 := (numGo_fit 2097152 l 0 0).1
  rw [nextF, hr] at *
  simp only at h1 ⊢
  split
  · simp
  · split
    · simp
    · split
      · rename_i h2 h3 _
        have he : er = 0 := Classical.byContradiction h3
        have h4 : ¬ t.length < n + 4 := fun h => h2 (Or.inr ⟨he, h⟩)
        simp only [List.length_take, List.length_drop]
        omega
      · simp
def leftAt (n : Nat) : Value → Nat
  | .int _ k => n - k.toNat
  | _ => 0
abbrev Fr := Nat × Value × List UInt8
def ct (x : Fr) : Nat × List UInt8 := (x.1, x.2.2)
def encF (x : Fr) : Array Value := #[.int .i64 (x.1 : Int), x.2.1]
def FrX (x : Fr) : HP := Row 5 1 x.2.1 x.2.2.length (U x.2.2)
def FrOk (l : List UInt8) (pre : List Fr) (x : Fr) : Prop := ∃ rest, allF l = pre.map ct ++ ct x :: rest
def AllNeed (B : Nat) (vb : Value) (l : List UInt8) (W : World) : Prop := W.cell? ⟨B, 0, none⟩ = some vb ∧ Sl W vb 1 l.length (U l)

set_option maxHeartbeats 1000000 in
theorem all1_seqs (W0 : World) (n : Nat) (hn : 3 ≤ n) (B : Nat) (vb : Value) (l : List UInt8) (hl : l.length ≤ 100000000) :
    Seqs W0 Fence.wide n Try.prog 32 #[.pointer (some ⟨B, 0, none⟩)] encF FrX (FrOk l) (fun xs => xs.map ct = allF l) (AllNeed B vb l) := by
  intro lp J Jx W hneed hY h0
  have hY := Kp.mk hY
  have HN := Kp.mk hneed
  obtain ⟨A, c, rfl, _⟩ := (hneed _ _ h0).2.2
  clear hneed
  refine callsIn_of_wp Try.func32 rfl trivial ?_ rfl
  simp only [Try.ntmps32, List.size_toArray, List.length_cons, List.length_nil, Nat.reduceAdd, Nat.reduceSub, Array.replicate_succ, Array.replicate_zero, List.push_toArray, List.append_toArray, List.nil_append, List.cons_append]
  gi_wp2
  gi_loopw [3] (fun v wr => ∃ (k f : Nat) (pre : List Fr), v = .int .i64 k ∧ k ≤ l.length ∧ Kp (l.length ≤ k + f) ∧ Kp (allF l = pre.map ct ++ allG l f k) ∧ Kp (Own W0 wr (J pre)))
    (fun v _ => leftAt l.length v)
  case atStart => exact ⟨0, l.length, [], rfl, Nat.zero_le _, ⟨by omega⟩, ⟨rfl⟩, ⟨h0⟩⟩
  case round =>
    obtain ⟨k, f, pre, rfl, hk, hf, ha, HO⟩ := hrel
    have hcell := (HN.out _ _ HO.out).1
    by_cases hlt : k < l.length
    · cases f with
      | zero => have := hf.out; omega
      | succ f =>
      have hd0 : Held W0 (J pre) (.slice A l.length c) 1 l.length (U l) := fun w H => (HN.out _ _ H).2
      obtain ⟨X, hx1, hx2⟩ := hd0.cutFrom Try.underlying24 info_u8 (k : Int) k rfl hk
      have hfit := nextF_fit (l.drop k)
      have HQ := frame_Next HO.out (vd := .slice X (l.length - k) (c - k)) hx2 (by rw [List.length_drop]; omega)
      obtain ⟨⟨d, m, er⟩, hr⟩ : ∃ r, Kp (nextF (l.drop k) = r) := ⟨_, ⟨rfl⟩⟩
      unfold NextEnd at HQ
      rw [hr.out] at HQ hfit
      rw [List.length_drop] at hfit
      have HQ := Kp.mk HQ
      obtain ⟨hm1, hm2, _⟩ := hfit
      simp only at hm1 hm2
      by_cases her : er = 0
      · subst her
        have hm2 := hm2 rfl
        have hg : Kp (allF l = pre.map ct ++ (k + m, d) :: allG l f (k + m)) := ⟨by rw [ha.out, allG, hr.out]; simp [hlt]⟩
        have hf2 : Kp (l.length ≤ k + m + f) := ⟨by have := hf.out; omega⟩
        clear hd0 hx2 ha hr hf
        gi_wp2_with fail
        refine ⟨trivial, fun _ => by omega, (callsIn_wide.2 HQ.out).mono ?_⟩
        rintro e w2 ⟨v, rfl, H2, hz2⟩
        dsimp only at H2 ⊢
        obtain ⟨fn, tmps, assign, body, hy, hR⟩ := hY.out pre (k + m, v, d) w2 H2 ⟨_, hg.out⟩
        rw [show encF (k + m, v, d) = #[.int .i64 ((k : Int) + (m : Int)), v] from by rw [← Int.natCast_add]; rfl] at hy
        have hR := Kp.mk hR
        clear HQ hz2 H2
        gi_wp2
        refine ⟨fun _ => by omega, hR.out.mono ?_⟩
        clear hR hy
        rintro e W3 (⟨rfl, HJ⟩ | ⟨rfl, HJ⟩)
        · have HJ := Kp.mk HJ
          gi_wp2
          go_roundw
          case rel => exact ⟨k + m, f, pre ++ [(k + m, v, d)], by rw [Int.natCast_add], by omega, hf2, ⟨by rw [hg.out]; simp [ct]⟩, HJ⟩
          case measure => simp [leftAt]; omega
        · have HJ := Kp.mk HJ
          gi_wp2
          refine bodyPost_ret (results_none rfl _ _ _) rfl ?_
          exact ⟨⟨_, rfl⟩, .inr ⟨_, HJ.out⟩⟩
      · have hg : Kp (allF l = pre.map ct) := ⟨by rw [ha.out, allG, hr.out]; simp [her]⟩
        have h84 : (er != 0) = true := by simpa using her
        have h83 : (er == 0) = false := by simpa using her
        clear hd0 hx2 ha hr hf hm2 her
        gi_wp2_with fail
        refine ⟨trivial, fun _ => by omega, (callsIn_wide.2 HQ.out).mono ?_⟩
        rintro e w2 ⟨v, rfl, H2, hz2⟩
        dsimp only at H2 ⊢
        have H2 := Kp.mk H2.drop
        clear HQ hz2
        gi_wp2
        refine bodyPost_ret (results_none rfl _ _ _) rfl ?_
        exact ⟨⟨_, rfl⟩, .inl ⟨pre, hg.out.symm, H2.out⟩⟩
    · have hg : allG l f k = [] := by
        cases f with
        | zero => rfl
        | succ f => rw [allG, if_neg (fun h => hlt h.1)]
      rw [hg, List.append_nil] at ha
      clear hg hf
      gi_wp2
      go_end0
      exact ⟨⟨_, rfl⟩, .inl ⟨pre, ha.out.symm, HO.out⟩⟩
/-- frame.All: the bytes are boxed; the function value captures the box. -/
theorem frame_All {W0 w : World} {R : HP} {A : Option Addr} {k c : Nat} (H : Own W0 w R) : Calls Try.prog 26 #[.slice A k c] w fun e w' => ∃ B, e = .returned (.func (.func 32) #[] #[.pointer (some ⟨B, 0, none⟩)]) ∧ Own W0 w' (R * Blk B (.cells #[.slice A k c] 24)) := by
  go_enter Try.func26, Try.ntmps26
  go_wp2
  go_ret
  exact ⟨_, rfl, H.alloc _⟩
end Go.Proofs.YtfpiaeodblbfjaaSep
