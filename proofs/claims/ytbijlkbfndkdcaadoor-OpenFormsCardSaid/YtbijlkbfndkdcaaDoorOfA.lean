/- Own work: attributes: Get, Alike, by walks. -/
import Derived.Test.YtbijlkbfndkdcaaDoorOpE
namespace Go.Proofs.YtbijlkbfndkdcaaDoorSep
open Go.RowKit Go.Lib Go.Proofs
abbrev At := List UInt8 × List UInt8
def attrC (A : List At) : List Value := A.flatMap fun x => [.string (str x.1), .string (str x.2)]
theorem attrC_get : ∀ (A : List At) (i : Nat) (x : At), A[i]? = some x → (attrC A)[i * 2]? = some (.string (str x.1)) ∧ (attrC A)[i * 2 + (0 + 1)]? = some (.string (str x.2))
  | [], i, x, h => by simp at h
  | y :: A, 0, x, h => by
    simp only [List.getElem?_cons_zero, Option.some.injEq] at h
    subst h
    exact ⟨rfl, rfl⟩
  | y :: A, i + 1, x, h => by
    rw [List.getElem?_cons_succ] at h
    have := attrC_get A i x h
    have e : attrC (y :: A) = .string (str y.1) :: .string (str y.2) :: attrC A := rfl
    rw [e, show (i + 1) * 2 = i * 2 + 1 + 1 by omega, show i * 2 + 1 + 1 + (0 + 1) = i * 2 + (0 + 1) + 1 + 1 by omega, List.getElem?_cons_succ, List.getElem?_cons_succ, List.getElem?_cons_succ, List.getElem?_cons_succ]
    exact this
def getAt (A : List At) (n : List UInt8) : Option At := A.find? fun x => decide (x.1 = n)
theorem find_none_cut {A : List At} {n : List UInt8} {k : Nat} {x : At} (hx : A[k]? = some x) (h : getAt (A.take k) n = none) (hn : ¬ x.1 = n) : getAt (A.take (k + 1)) n = none := by
  rw [getAt] at h ⊢
  rw [List.take_add_one, hx, List.find?_append, h]
  simp [hn]
theorem find_hit {A : List At} {n : List UInt8} {k : Nat} {x : At} (hx : A[k]? = some x) (h : getAt (A.take k) n = none) (hn : x.1 = n) : getAt A n = some x := by
  have hk := (List.getElem?_eq_some_iff.1 hx).1
  rw [getAt] at h ⊢
  have e : A = A.take k ++ x :: A.drop (k + 1) := by
    rw [← (List.getElem?_eq_some_iff.1 hx).2, List.getElem_cons_drop, List.take_append_drop]
  rw [e, List.find?_append, h]
  simp [hn]
def FoundA (A : List At) (n : List UInt8) (r : Int) : Prop := (∃ (k : Nat) (x : At), r = (k : Int) ∧ A[k]? = some x ∧ getAt A n = some x) ∨ (r = -1 ∧ getAt A n = none)
section
variable {W0 w : World} {R : HP} {av : Value} {A : List At}
/-- The name that is asked for lies in a box. -/
theorem get_is {gn : Nat} {n : List UInt8} (H : Own W0 w (R * Blk gn (.cells #[.string (str n)] 9))) (x : At) :
    Calls Tryd.prog 50 #[.agg #[.string (str x.1), .string (str x.2)], .pointer (some ⟨gn, 0, none⟩)] w fun e w' => e = .returned (.bool (decide (x.1 = n))) ∧ Own W0 w' (R * Blk gn (.cells #[.string (str n)] 9)) := by
  have HB := H.box (.cells #[.string (str x.1), .string (str x.2)] 42)
  have kn := cell_blk (j := 0) (v := .string (str n)) HB.blk rfl
  have ea := str_beq x.1 n
  obtain ⟨q, hq⟩ : ∃ q, decide (x.1 = n) = q := ⟨_, rfl⟩
  rw [hq] at ea ⊢
  replace HB := Kp.mk HB
  clear H hq
  go_enter Tryd.func50, Tryd.ntmps50
  go_wp2
  go_ret
  exact ⟨rfl, HB.out⟩
set_option maxHeartbeats 1000000 in
theorem idx_attr {gn : Nat} {n : List UInt8} (H : Own W0 w (R * Blk gn (.cells #[.string (str n)] 9))) (HA : Held W0 R av 2 A.length (attrC A)) (hA : A.length ≤ 100000) :
    Calls Tryd.prog 49 #[av, .func (.func 50) #[] #[.pointer (some ⟨gn, 0, none⟩)]] w fun e w' => ∃ r : Int, e = .returned (.int .i64 r) ∧ FoundA A n r ∧ Own W0 w' (R * Blk gn (.cells #[.string (str n)] 9)) := by
  obtain ⟨_, Aa, c, rfl, _⟩ := HA.sl H.drop
  replace HA := Kp.mk HA
  replace H := Kp.mk H
  go_enter Tryd.func49, Tryd.ntmps49
  go_wp2
  go_loopg [8] A.length (fun gk v wr => ∃ pos : Nat, v = .int .i64 pos ∧ pos ≤ A.length ∧ Kp (gk + pos = A.length) ∧ Kp (getAt (A.take pos) n = none) ∧ Kp (Own W0 wr (R * Blk gn (.cells #[.string (str n)] 9))))
  case atStart => exact ⟨0, rfl, Nat.zero_le _, ⟨by omega⟩, ⟨rfl⟩, H⟩
  case round =>
    obtain ⟨pos, rfl, hpos, hgk, hany, HO⟩ := hrel
    by_cases hlt : pos < A.length
    · obtain ⟨x, hx⟩ : ∃ x, A[pos]? = some x := ⟨_, List.getElem?_eq_getElem hlt⟩
      obtain ⟨ad, cc, hv, g0, g1⟩ := (HA.out.sl HO.out.drop).elem pos hlt
      injection hv with q1 q2 q3
      subst q1 q3
      have c0 := g0 _ (attrC_get A pos x hx).1
      have c1 := g1 0 _ (attrC_get A pos x hx).2
      have HX := Kp.mk (get_is HO.out x)
      by_cases hn : x.1 = n
      · have hf := Kp.mk (show FoundA A n (pos : Int) from .inl ⟨pos, x, rfl, hx, find_hit hx hany.out hn⟩)
        rw [decide_eq_true hn] at HX
        clear g0 g1 hx hn H
        go_wp2_with fail
        refine HX.out.mono ?_
        rintro e w2 ⟨rfl, H2⟩
        replace H2 := Kp.mk H2
        go_wp2
        go_ret
        exact ⟨_, rfl, hf.out, H2.out⟩
      · have hf := Kp.mk (find_none_cut hx hany.out hn)
        rw [decide_eq_false hn] at HX
        clear g0 g1 hx hn H
        go_wp2_with fail
        refine HX.out.mono ?_
        rintro e w2 ⟨rfl, H2⟩
        replace H2 := Kp.mk H2
        go_wp2
        go_roundg (A.length - (pos + 1))
        case rel => exact ⟨pos + 1, by go_num, by omega, ⟨by omega⟩, hf, H2⟩
        case measure => have := hgk.out; omega
    · obtain rfl : pos = A.length := by omega
      rw [List.take_length] at hany
      have hf := Kp.mk (show FoundA A n (-1) from .inr ⟨rfl, hany.out⟩)
      clear hany
      go_wp2
      go_ret
      exact ⟨_, rfl, hf.out, HO.out⟩
def getV (o : Option At) : Array Value := match o with | none => #[.string ⟨#[]⟩, .bool false] | some x => #[.string (str x.2), .bool true]
set_option maxHeartbeats 1000000 in
theorem token_Get (H : Own W0 w R) (HA : Held W0 R av 2 A.length (attrC A)) (hA : A.length ≤ 100000) (n : List UInt8) :
    Calls Tryd.prog 41 #[av, .string (str n)] w fun e w' => e = .returned (.tuple (getV (getAt A n))) ∧ Own W0 w' R := by
  obtain ⟨_, Aa, c, rfl, _⟩ := HA.sl H
  have HI := Kp.mk (idx_attr (H.alloc (.cells #[.string (str n)] 9)) HA hA)
  replace HA := Kp.mk HA
  clear H
  go_enter Tryd.func41, Tryd.ntmps41
  go_wp2_with fail
  refine HI.out.mono ?_
  rintro e w1 ⟨r, rfl, hr, H1⟩
  clear HI
  rcases hr with ⟨k, x, rfl, hx, hg⟩ | ⟨rfl, hg⟩
  · have hk := (List.getElem?_eq_some_iff.1 hx).1
    obtain ⟨ad, cc, hv, g0, g1⟩ := (HA.out.sl H1.drop).elem k hk
    injection hv with q1 q2 q3
    subst q1 q3
    have c1 := g1 0 _ (attrC_get A k x hx).2
    replace H1 := Kp.mk H1
    replace hg := Kp.mk hg
    clear g0 g1 hx
    go_wp2
    go_ret2
    rw [hg.out]
    exact ⟨rfl, H1.out.drop⟩
  · replace H1 := Kp.mk H1
    replace hg := Kp.mk hg
    go_wp2
    go_ret2
    rw [hg.out]
    exact ⟨rfl, H1.out.drop⟩
end
end Go.Proofs.YtbijlkbfndkdcaaDoorSep
