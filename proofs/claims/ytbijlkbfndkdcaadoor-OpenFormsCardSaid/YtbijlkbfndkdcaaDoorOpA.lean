/- Own work: the reading of a tree of nodes that stand nowhere; a text among texts. -/
import Derived.Test.YtbijlkbfndkdcaaDoorSV
import Derived.Test.YtbijlkbfndkdcaaDoorBig
import Derived.Test.YtbijlkbfndkdcaaDoorProg
namespace Go.Proofs.YtbijlkbfndkdcaaDoorSep
open Go.RowKit Go.Lib Go.Proofs
/-- A node that stands nowhere. -/
structure NodeM where
  k : Int
  sp : Int
  name : List UInt8
  inner : Int
def NodeM.cells (x : NodeM) : List Value := [.int .i64 x.k, .int .i64 x.sp, .string (str x.name), .string ⟨#[]⟩, .slice none 0 0, .string ⟨#[]⟩, .string ⟨#[]⟩, .int .i64 (-1), .slice none 0 0, .int .i64 x.inner]
def nodesC (L : List NodeM) : List Value := L.flatMap NodeM.cells
theorem nodesC_len (L : List NodeM) : (nodesC L).length = L.length * 10 := by
  induction L with
  | nil => rfl
  | cons x L ih =>
    rw [nodesC] at ih
    rw [nodesC, List.flatMap_cons, List.length_append, ih, List.length_cons]
    simp [NodeM.cells]
    omega
theorem nodesC_get (L : List NodeM) (i j : Nat) (x : NodeM) (h : L[i]? = some x) (hj : j < 10) : (nodesC L)[i * 10 + j]? = x.cells[j]? := by
  induction L generalizing i with
  | nil => simp at h
  | cons y L ih =>
    rw [nodesC, List.flatMap_cons]
    have hy : y.cells.length = 10 := rfl
    cases i with
    | zero =>
      simp only [List.getElem?_cons_zero, Option.some.injEq] at h
      subst h
      rw [Nat.zero_mul, Nat.zero_add, List.getElem?_append_left (by omega)]
    | succ i =>
      rw [List.getElem?_cons_succ] at h
      have := ih i h
      rw [List.getElem?_append_right (by rw [hy]; omega), hy, show (i + 1) * 10 + j - 10 = i * 10 + j by omega]
      exact this
theorem SV_get (L : List (List UInt8)) (k : Nat) (h : k < L.length) (p : List UInt8) (hp : L[k] = p) : (SV L).getD k undef = .string (str p) := by
  rw [SV, List.getD_eq_getElem?_getD, List.getElem?_map, List.getElem?_eq_getElem h, hp]; rfl
theorem hasL_cut {L : List (List UInt8)} {x : List UInt8} {k : Nat} (h : k < L.length) (hp : x ∉ L.take k) (hx : ¬ x = L[k]) : x ∉ L.take (k + 1) := by
  rw [List.take_add_one, List.getElem?_eq_getElem h, List.mem_append]
  rintro (h1 | h1)
  · exact hp h1
  · exact hx (by simpa using h1)
def hasB (L : List (List UInt8)) (x : List UInt8) : Bool := decide (x ∈ L)
theorem hasB_yes {L : List (List UInt8)} {x : List UInt8} (h : x ∈ L) : hasB L x = true := decide_eq_true h
theorem hasB_no {L : List (List UInt8)} {x : List UInt8} (h : x ∉ L) : hasB L x = false := decide_eq_false h
theorem str_beq (a b : List UInt8) : ((str a).toList == (str b).toList) = decide (a = b) := by
  rw [str_toList, str_toList]
  exact Bool.beq_eq_decide_eq a b
set_option maxHeartbeats 4000000 in
theorem idx_strings {w : World} {v : Value} (L : List (List UInt8)) (hL : L.length ≤ 100000) (x : List UInt8) (H : Sl w v 1 L.length (SV L)) :
    Calls Tryd.prog 48 #[v, .string (str x)] w fun e w' => ∃ r : Int, e = .returned (.int .i64 r) ∧ decide (0 ≤ r) = hasB L x ∧ w' = w := by
  obtain ⟨_, A, c, rfl, _⟩ := id H
  replace H := Kp.mk H
  go_enter Tryd.func48, Tryd.ntmps48
  go_wp2
  go_loopg [8] L.length (fun gk v wr => ∃ pos : Nat, v = .int .i64 pos ∧ pos ≤ L.length ∧ Kp (gk + pos = L.length) ∧ Kp (x ∉ L.take pos) ∧ wr = w)
  case atStart => exact ⟨0, rfl, Nat.zero_le _, ⟨by omega⟩, ⟨by simp⟩, rfl⟩
  case round =>
    obtain ⟨pos, rfl, hpos, hgk, hany, rfl⟩ := hrel
    by_cases hlt : pos < L.length
    · obtain ⟨p, hpp⟩ : ∃ p, L[pos] = p := ⟨_, rfl⟩
      obtain ⟨Ak, ck, hk1, hk2⟩ := H.out.at_ pos hlt
      injection hk1 with q1 q2 q3
      subst q1 q3
      rw [SV_get L pos hlt p hpp] at hk2
      have hcut := hasL_cut hlt hany.out
      have hmem : p ∈ L := hpp ▸ List.getElem_mem hlt
      rw [hpp] at hcut
      have he := str_beq x p
      by_cases hq : x = p
      · rw [decide_eq_true hq] at he
        have hin := Kp.mk (show x ∈ L by rw [hq]; exact hmem)
        clear hcut hmem hpp hq
        go_wp2
        go_ret
        exact ⟨pos, rfl, by rw [hasB_yes hin.out]; exact decide_eq_true (by omega), rfl⟩
      · rw [decide_eq_false hq] at he
        replace hcut := Kp.mk (hcut hq)
        clear hmem hpp hq
        go_wp2
        go_roundg (L.length - (pos + 1))
        case rel => exact ⟨pos + 1, by go_num, by omega, ⟨by omega⟩, hcut, rfl⟩
        case measure => have := hgk.out; omega
    · obtain rfl : pos = L.length := by omega
      rw [List.take_length] at hany
      go_wp2
      go_ret
      exact ⟨-1, rfl, by rw [hasB_no hany.out]; rfl, rfl⟩
theorem has_strings {w : World} {v : Value} (L : List (List UInt8)) (hL : L.length ≤ 100000) (x : List UInt8) (H : Sl w v 1 L.length (SV L)) :
    Calls Tryd.prog 40 #[v, .string (str x)] w fun e w' => e = .returned (.bool (hasB L x)) ∧ w' = w := by
  have HI := idx_strings L hL x H
  obtain ⟨q, hq⟩ : ∃ q, hasB L x = q := ⟨_, rfl⟩
  rw [hq] at HI ⊢
  clear hq
  replace HI := Kp.mk HI
  go_enter Tryd.func40, Tryd.ntmps40
  go_wp2_with fail
  refine HI.out.mono ?_
  rintro e w1 ⟨r, rfl, rfl, rfl⟩
  clear HI
  go_wp2
  go_ret
  exact ⟨rfl, rfl⟩
/-- A tree of such nodes, as it is read. -/
def DocR (w : World) (d : Nat) (L : List NodeM) : Prop := ∃ g c, w.cell? ⟨d, 0, none⟩ = some (.slice (some ⟨g, 0, none⟩) L.length c) ∧ ∀ j u, (nodesC L)[j]? = some u → w.cell? ⟨g, j, none⟩ = some u
/-- One node's fields. -/
theorem DocR.node {w : World} {d : Nat} {L : List NodeM} (h : DocR w d L) (k : Nat) (x : NodeM) (hx : L[k]? = some x) : ∃ g c, w.cell? ⟨d, 0, none⟩ = some (.slice (some ⟨g, 0, none⟩) L.length c) ∧ k < L.length ∧
    w.cell? ⟨g, k * 10, none⟩ = some (.int .i64 x.k) ∧ w.cell? ⟨g, k * 10 + 1, none⟩ = some (.int .i64 x.sp) ∧ w.cell? ⟨g, k * 10 + 2, none⟩ = some (.string (str x.name)) := by
  have hk := (List.getElem?_eq_some_iff.1 hx).1
  obtain ⟨g, c, h1, h2⟩ := h
  exact ⟨g, c, h1, hk, h2 _ _ ((nodesC_get L k 0 x hx (by omega)).trans rfl), h2 _ _ ((nodesC_get L k 1 x hx (by omega)).trans rfl), h2 _ _ ((nodesC_get L k 2 x hx (by omega)).trans rfl)⟩
theorem dom_in {w : World} {d : Nat} {L : List NodeM} (h : DocR w d L) (k : Nat) (x : NodeM) (hx : L[k]? = some x) :
    Calls Tryd.prog 47 #[.pointer (some ⟨d, 0, none⟩), .int .i64 k] w fun e w' => e = .returned (.bool true) ∧ w' = w := by
  obtain ⟨g, c, h1, h2, _⟩ := h.node k x hx
  clear h hx
  go_enter Tryd.func47, Tryd.ntmps47
  go_wp2
  go_ret
  exact ⟨rfl, rfl⟩
theorem dom_Kind {w : World} {d : Nat} {L : List NodeM} (h : DocR w d L) (_ : L.length ≤ 100000) (k : Nat) (x : NodeM) (hx : L[k]? = some x) :
    Calls Tryd.prog 39 #[.pointer (some ⟨d, 0, none⟩), .int .i64 k] w fun e w' => e = .returned (.int .i64 x.k) ∧ w' = w := by
  have HI := Kp.mk (dom_in h k x hx)
  obtain ⟨g, c, h1, h2, h3, _⟩ := h.node k x hx
  clear h hx
  obtain ⟨xk, xs, xn, xi⟩ := x
  dsimp only at h3 ⊢
  go_enter Tryd.func39, Tryd.ntmps39
  go_wp2_with fail
  refine HI.out.mono ?_
  rintro e w1 ⟨rfl, rfl⟩
  go_wp2
  go_ret
  exact ⟨rfl, rfl⟩
theorem dom_Is {w : World} {d : Nat} {L : List NodeM} (h : DocR w d L) (hL : L.length ≤ 100000) (k : Nat) (x : NodeM) (hx : L[k]? = some x) (hk : x.k = 2) {v : Value} (N : List (List UInt8)) (hN : N.length ≤ 100000) (HN : Sl w v 1 N.length (SV N)) :
    Calls Tryd.prog 29 #[.pointer (some ⟨d, 0, none⟩), .int .i64 k, v] w fun e w' => e = .returned (.bool (decide (x.sp = 0) && hasB N x.name)) ∧ w' = w := by
  have HI := dom_Kind h hL k x hx
  obtain ⟨g, c, h1, h2, h3, h4, h5⟩ := h.node k x hx
  clear h hx
  obtain ⟨xk, xs, xn, xi⟩ := x
  dsimp only at h3 h4 h5 HI hk ⊢
  subst hk
  have HC := Kp.mk (has_strings N hN xn HN)
  replace HI := Kp.mk HI
  obtain ⟨q, hq⟩ : ∃ q, hasB N xn = q := ⟨_, rfl⟩
  rw [hq] at HC ⊢
  by_cases h0 : xs = 0
  · subst h0
    go_enter Tryd.func29, Tryd.ntmps29
    go_wp2_with fail
    refine HI.out.mono ?_
    rintro e w1 ⟨rfl, rfl⟩
    go_wp2_with fail
    refine HC.out.mono ?_
    rintro e w2 ⟨rfl, rfl⟩
    go_wp2
    go_ret
    exact ⟨rfl, rfl⟩
  · have f1 : (xs == 0) = false := by simpa using h0
    have f2 : decide (xs = 0) = false := decide_eq_false h0
    go_enter Tryd.func29, Tryd.ntmps29
    go_wp2_with fail
    refine HI.out.mono ?_
    rintro e w1 ⟨rfl, rfl⟩
    go_wp2
    go_ret
    exact ⟨by rw [f2, Bool.false_and]; rfl, rfl⟩
end Go.Proofs.YtbijlkbfndkdcaaDoorSep
