/- Own work: the disk's Write. -/
import Derived.Test.YtgakacingdlgpaaDiskE
namespace Go.Proofs.YtgakacingdlgpaaSep
open Go.RowKit Go.Lib Go.Proofs Go.Shelf

theorem held_blk {W0 : World} {R : HP} {B m sz : Nat} {cs : Array Value} {e : Nat} (hm : m ≤ maxLen) (hc : cs.size = m * sz) (hsz : 0 < sz) : Held W0 (R * Blk B (.cells cs e)) (.slice (some ⟨B, 0, none⟩) m m) sz m cs.toList := fun w H => by
  have := (H.made (sz := sz) m (Nat.le_refl _) hm hc).sl hsz
  rwa [← hc, List.take_of_length_le (by simp)] at this
theorem Held.swap {W0 : World} {R A B : HP} {v : Value} {sz n : Nat} {cs : List Value} (h : Held W0 (R * A * B) v sz n cs) : Held W0 (R * B * A) v sz n cs := fun w H => h w H.rot
def wrOk (s : Dk) (n b : List UInt8) : Bool := namedF n && ((getA s.now n).isSome || decide (s.now.length < 2000)) && decide (tot s.now + b.length ≤ s.room)
def Dk.wr (s : Dk) (n b : List UInt8) : Dk := if wrOk s n b then s.take ⟨0, n, [], b⟩ else s
def wrE (s : Dk) (n b : List UInt8) : Int := if namedF n then if (getA s.now n).isSome || decide (s.now.length < 2000) then if tot s.now + b.length ≤ s.room then 0 else 11 else 3 else 1
theorem act_write_tot (n d b : List UInt8) (F : FL) : tot ((⟨0, n, d, b⟩ : Chg).act F) = tot F + b.length := by
  have := set_tot F n ((getA F n).getD [] ++ b)
  rw [List.length_append] at this
  show tot (setA F n ((getA F n).getD [] ++ b)) = _
  omega
section
variable {W0 w : World} {R : HP} {g : Nat} {s : Dk}
theorem Own.dskLook (H : Own W0 w (R * DskH g s)) (n : List UInt8) : ∃ bn v, w.cell? ⟨g, 1, none⟩ = some (.map (some bn)) ∧ (∃ A k c, v = .slice A k c) ∧
    (Instr.lookup 47 (.map (some bn)) (.string (str n)) true).run Try.prog w = .ok (.tuple #[v, .bool (getA s.now n).isSome]) w ∧
    (∀ ty, (Builtin.len_ #[47] ty #[.map (some bn)]).run Try.prog w = .ok (.int .i64 s.now.length) w) ∧ Held W0 (R * DskH g s) (.slice none 0 0) 1 0 [] := by
  obtain ⟨G, bn, bs, L1, L2, vw, cs, h1, h2, h3, h4, h⟩ := H.dsk
  unfold DskB at h
  simp only [← star_assoc] at h
  have hl := (h.foc (MapH bn L1)).look Try.underlying47 Try.underlying9 (zero_sl _) n true
  rw [if_pos rfl] at hl
  refine ⟨bn, (getA L1 n).getD (.slice none 0 0), cell_blk h.blk rfl, ?_, ?_, ?_, held_nil⟩
  · rcases h2.get n with ⟨e1, e2⟩ | ⟨v, c, e1, e2, e3⟩
    · rw [e1]; exact ⟨_, _, _, rfl⟩
    · rw [e1]
      obtain ⟨_, A, cc, hv, _⟩ := (e3 W0 R).sl h.drop.drop.drop.drop
      exact ⟨_, _, _, hv⟩
  · have he : (getA L1 n).isSome = (getA s.now n).isSome := by
      rcases h2.get n with ⟨e1, e2⟩ | ⟨v, c, e1, e2, e3⟩ <;> rw [e1, e2] <;> rfl
    rw [← he]
    exact hl
  · intro ty
    rw [← h2.len]
    exact (h.foc (MapH bn L1)).mapLen Try.underlying47
set_option maxHeartbeats 4000000 in
theorem disk_Write {v : Value} {n b : List UInt8} (H : Own W0 w (R * DskH g s)) (hs : Held W0 (R * DskH g s) v 1 b.length (U b)) (hb : b.length ≤ 16777216) (hw : s.work ≤ 1000000) (hwl : s.wait.length ≤ 1000000) :
    Calls Try.prog 10 #[.pointer (some ⟨g, 0, none⟩), .string (str n), v] w fun e w' => e = .returned (.int .i64 (wrE s n b)) ∧ Own W0 w' (R * DskH g (s.wr n b)) := by
  obtain ⟨_, A, c, rfl, _⟩ := hs.sl H
  obtain ⟨B, hB⟩ : ∃ B, Kp (w.heap.size = B) := ⟨_, ⟨rfl⟩⟩
  have hroom : s.room ≤ 16777216 := by
    obtain ⟨G, bn, bs, L1, L2, vw, cs, h1, _⟩ := H.dsk
    exact h1.room
  have hask := disk_ask (R := R * Blk B (.cells #[.string (str n)] 9)) (w := w.alloc (.cells #[.string (str n)] 9)) (g := g) (s := s) (v := .slice (some ⟨B, 0, none⟩) 1 1) (ns := [n]) (by rw [← hB.out]; exact (H.alloc _).rot) ((held_blk (sz := 1) (by decide) rfl (by decide)).swap) (by simp)
  have hask := Kp.mk hask
  clear H
  have hs := Kp.mk hs
  go_enter Try.func10, Try.ntmps10
  go_wp2_with fail
  rw [hB.out]
  refine hask.out.mono ?_
  rintro e w2 ⟨rfl, H2⟩
  clear hask
  replace H2 := H2.rot.drop
  rcases hn : namedF n with _ | _
  · rw [show askE [n] = 1 by simp [askE, hn]]
    have hE : Kp (wrE s n b = 1) := ⟨by simp [wrE, hn]⟩
    have hS : Kp (s.wr n b = s) := ⟨by simp [Dk.wr, wrOk, hn]⟩
    replace H2 := Kp.mk H2
    clear hn hs
    go_wp2
    go_ret
    rw [hE.out, hS.out]
    exact ⟨rfl, H2.out⟩
  · rw [show askE [n] = 0 by simp [askE, hn]]
    obtain ⟨bn, vl, c1, ⟨Al, kl, cl, rfl⟩, hlook, hlen, _⟩ := H2.dskLook n
    replace H2 := Kp.mk H2
    replace hn := Kp.mk hn
    rcases hq : (getA s.now n).isSome || decide (s.now.length < 2000) with _ | _
    · have hE : Kp (wrE s n b = 3) := ⟨by simp only [wrE, hn.out, hq, if_true]; rfl⟩
      have hS : Kp (s.wr n b = s) := ⟨by simp only [Dk.wr, wrOk, hn.out, hq]; rfl⟩
      rw [Bool.or_eq_false_iff] at hq
      rw [hq.1] at hlook
      have hq2 := of_decide_eq_false hq.2
      have hq3 : decide ((2000 : Int) ≤ (s.now.length : Int)) = true := decide_eq_true (by omega)
      clear hq
      go_wp2
      go_ret
      rw [hE.out, hS.out]
      exact ⟨rfl, H2.out⟩
    · have hF := Kp.mk (disk_Free H2.out)
      have hq2 : (getA s.now n).isSome = true ∨ (getA s.now n).isSome = false ∧ ¬ (2000 ≤ s.now.length) := by
        rcases h : (getA s.now n).isSome with _ | _
        · rw [h, Bool.false_or] at hq
          exact .inr ⟨rfl, by have := of_decide_eq_true hq; omega⟩
        · exact .inl rfl
      by_cases hr : tot s.now + b.length ≤ s.room
      case' pos =>
        have hE : Kp (wrE s n b = 0) := ⟨by simp only [wrE, hn.out, hq, if_true, if_pos hr]⟩
        have hS : Kp (s.wr n b = s.take ⟨0, n, [], b⟩) := ⟨by simp only [Dk.wr, wrOk, hn.out, hq, decide_eq_true hr]; rfl⟩
        have t1 : decide ((s.room : Int) - (tot s.now : Nat) < (b.length : Int)) = false := decide_eq_false (by omega)
      case' neg =>
        have hE : Kp (wrE s n b = 11) := ⟨by simp only [wrE, hn.out, hq, if_true, if_neg hr]⟩
        have hS : Kp (s.wr n b = s) := ⟨by simp only [Dk.wr, wrOk, hn.out, hq, decide_eq_false hr]; rfl⟩
        have t1 : decide ((s.room : Int) - (tot s.now : Nat) < (b.length : Int)) = true := decide_eq_true (by omega)
      all_goals
        replace hr := Kp.mk hr
        clear hq
        generalize htt : tot s.now = tt at hF t1 hr
        replace htt := Kp.mk htt
        rcases hq2 with hq2 | ⟨hq2, hq3⟩
        case' inl => rw [hq2] at hlook
        case' inr =>
          rw [hq2] at hlook
          have hq4 : decide ((2000 : Int) ≤ (s.now.length : Int)) = false := decide_eq_false (by omega)
      all_goals
        clear hq2
        go_wp2_with fail
        refine hF.out.mono ?_
        rintro e w3 ⟨rfl, H3⟩
        clear hF
      all_goals first
        | (have hE1 : wrE s n b = 11 := hE.out
           replace H3 := Kp.mk H3
           clear hE1 hs
           go_wp2
           go_ret
           rw [hE.out, hS.out]
           exact ⟨rfl, H3.out⟩)
        | (have hE1 : wrE s n b = 0 := hE.out
           have hC := Kp.mk (clone_bytes hs.out H3 (by omega))
           clear hE1 hs H3
           go_wp2_with fail
           refine hC.out.mono ?_
           rintro e w4 ⟨v4, rfl, H4⟩
           clear hC
           obtain ⟨_, A4, c4, hv4, _⟩ := H4.sl (by decide)
           subst hv4
           have hT := Kp.mk (disk_take (c := ⟨0, n, [], b⟩) H4 (Nat.zero_le 2) (by rw [act_write_tot, htt.out]; exact hr.out) hb hw hwl)
           clear H4
           go_wp2_with fail
           refine hT.out.mono ?_
           rintro e w5 ⟨rfl, H5⟩
           replace H5 := Kp.mk H5
           clear hT
           go_wp2
           go_ret
           rw [hE.out, hS.out]
           exact ⟨rfl, H5.out⟩)
end
end Go.Proofs.YtgakacingdlgpaaSep
