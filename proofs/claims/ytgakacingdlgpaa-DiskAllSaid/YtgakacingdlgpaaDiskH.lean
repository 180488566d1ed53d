/- Own work: what Crash needs: the row of changes read and cleared. -/
import Derived.Test.YtgakacingdlgpaaDiskG
import Derived.Test.YtgakacingdlgpaaCopy
import Derived.Test.YtgakacingdlgpaaTake
namespace Go.Proofs.YtgakacingdlgpaaSep
open Go.RowKit Go.Lib Go.Proofs Go.Shelf

section
variable {W0 w : World} {P R : HP} {Q : Program} {e sz n : Nat} {v : Value} {cs : List Value}
/-- A row is cleared: what else is owned stays. -/
theorem own_clear {t : Nat} {z : Value} (H : Own W0 w (P * Row e sz v n cs)) (ht : Q.underlying t = some (.slice e)) (hz : ∀ w, (zeroValue e).run Q w = .ok z w) (hzs : z.cells.size = sz) (hsz : 0 < sz) (h1 : ∀ u ∈ z.cells, u.oneCell' = true) :
    ∃ w', (∀ ty, (Builtin.clear_ #[t] ty #[v]).run Q w = .ok (.tuple #[]) w') ∧ Own W0 w' P := by
  rcases H.split with h | ⟨⟨rfl, rfl, g, off, rfl⟩, h⟩
  · obtain ⟨q1, q2, q3, hh, ⟨p, a, hd, rfl, hp, ⟨hl, ha⟩⟩, hs⟩ := h
    rcases ha with ⟨rfl, rfl, hemp⟩ | ⟨g, cap, cur, rfl, rfl, h2, h3, h4, h5⟩
    · exact ⟨w, fun ty => by simp [Builtin.clear_, run_underlying ht], H.drop⟩
    · by_cases hn : n = 0
      · subst hn
        exact ⟨w, fun ty => by simp [Builtin.clear_, run_underlying ht], H.drop⟩
      · have HB : Own W0 w (P * Blk g (.cells cur e)) := ⟨q1, q2, q3, _, ⟨p, one g (.cells cur e (0, 0)), hd, rfl, hp, rfl⟩, hs⟩
        have hvl : (Builtin.zeroCells z.cells n).toList.length = n * sz := by simp [Builtin.zeroCells, hzs]
        have hle := Nat.mul_le_mul_right sz h2
        have hst := run_storeCells_cells (P := Q) g 0 (Builtin.zeroCells z.cells n).toList 0 w (by
          intro j hj
          rw [hvl] at hj
          rw [cell_of_row w g _ _ _ (0, 0) HB.blk, Array.getElem?_eq_getElem (by omega)]
          rfl) (fun j hj => frz_blk HB.blk) (by
          intro u hu
          simp only [Builtin.zeroCells, Array.toList_map, List.mem_map] at hu
          obtain ⟨i, _, rfl⟩ := hu
          refine h1 _ ?_
          have : i % z.cells.size < z.cells.size := Nat.mod_lt _ (by omega)
          rw [getElem!_pos z.cells _ this]
          exact Array.getElem_mem this)
        obtain ⟨m, rfl⟩ : ∃ m, n = m + 1 := ⟨n - 1, by omega⟩
        exact ⟨w.setCells g 0 (Builtin.zeroCells z.cells (m + 1)).toList, fun ty => by simp [Builtin.clear_, run_underlying ht, hz, hst], (Own.setCells _ 0 w cur HB).drop⟩
  · exact ⟨w, fun ty => by simp [Builtin.clear_, run_underlying ht], h⟩
theorem Own.cellRow {g c : Nat} (H : Own W0 w (P * Row e sz (.slice (some ⟨g, 0, none⟩) n c) n cs)) (hsz : 0 < sz) (hn : 0 < n) (j : Nat) (u : Value) (hj : cs[j]? = some u) : w.cell? ⟨g, j, none⟩ = some u := by
  obtain ⟨_, A, c', he, _, _, _, h3⟩ := H.sl hsz
  injection he with e1 e2 e3
  obtain ⟨ad, had, hc⟩ := h3 hn
  rw [had] at e1
  injection e1 with e1
  subst e1
  have := hc j u hj
  simpa [Addr.add_lit] using this
end
theorem WRel.at_ {G : HP} : ∀ {cs : List Value} {ws : List Chg} (i : Nat) (w : Chg), WRel G cs ws → ws[i]? = some w → w.kind ≤ 2 ∧ ∃ d, cs[i * 4]? = some (.int .i64 w.kind) ∧ cs[i * 4 + 1]? = some (.string (str w.name)) ∧ cs[i * 4 + 2]? = some (.string (str w.dst)) ∧ cs[i * 4 + 3]? = some d ∧ Cont G d w.b
  | [], [], _, _, _, h => by simp at h
  | a :: b :: c :: d :: cs, x :: ws, i, w, ⟨h1, h2, h3, h4, h5, h6⟩, h => by
    cases i with
    | zero =>
      simp only [List.getElem?_cons_zero, Option.some.injEq] at h
      subst h
      exact ⟨h5, d, by simp [h1], by simp [h2], by simp [h3], by simp, h4⟩
    | succ i =>
      rw [List.getElem?_cons_succ] at h
      obtain ⟨k1, d', k2, k3, k4, k5, k6⟩ := WRel.at_ i w h6 h
      have e : (i + 1) * 4 = i * 4 + 4 := by omega
      refine ⟨k1, d', ?_, ?_, ?_, ?_, k6⟩
      · rw [e]; simpa using k2
      · rw [e, show i * 4 + 4 + 1 = i * 4 + 1 + 4 by omega]; simpa using k3
      · rw [e, show i * 4 + 4 + 2 = i * 4 + 2 + 4 by omega]; simpa using k4
      · rw [e, show i * 4 + 4 + 3 = i * 4 + 3 + 4 by omega]; simpa using k5
def clampK (k : Int) (n : Nat) : Nat := min k.toNat n
def crashF (s : Dk) (k t : Int) : FL :=
  let F := nowF s.safe (s.wait.take (clampK k s.wait.length))
  match s.wait[clampK k s.wait.length]? with
  | none => F
  | some c => if 0 < t ∧ c.kind = 0 then ({ c with b := c.b.take t.toNat } : Chg).act F else F
def Dk.crash (s : Dk) (k t : Int) : Dk := ⟨s.room, crashF s k t, [], s.work⟩
theorem crash_keys {s : Dk} (h : DkOk s) (k t : Int) : KeysA (crashF s k t) := by
  unfold crashF
  dsimp only
  split
  · exact nowF_keys _ _ h.keys
  · split
    · exact act_keys (nowF_keys _ _ h.keys)
    · exact nowF_keys _ _ h.keys
theorem crash_tot {s : Dk} (h : DkOk s) (k t : Int) : tot (crashF s k t) ≤ s.room := by
  unfold crashF
  dsimp only
  split
  · exact h.tots _
  · rename_i c hc
    split
    · rename_i ht
      obtain ⟨kind, n, d, b⟩ := c
      obtain ⟨h1, h2⟩ := ht
      dsimp only at h2
      subst h2
      have hlt := (List.getElem?_eq_some_iff.1 hc).1
      have := h.tots (clampK k s.wait.length + 1)
      rw [List.take_add_one, hc] at this
      change tot (nowF s.safe (s.wait.take (clampK k s.wait.length) ++ [_])) ≤ _ at this
      rw [nowF_snoc, act_write_tot] at this
      dsimp only
      rw [act_write_tot, List.length_take]
      omega
    · exact h.tots _
theorem DkOk.crash {s : Dk} (h : DkOk s) (k t : Int) : DkOk (s.crash k t) where
  room := h.room
  keys := crash_keys h k t
  tots j := by
    show tot (nowF (crashF s k t) (([] : List Chg).take j)) ≤ s.room
    rw [List.take_nil]
    exact crash_tot h k t
  parts _ hm := absurd hm (List.not_mem_nil)
end Go.Proofs.YtgakacingdlgpaaSep
