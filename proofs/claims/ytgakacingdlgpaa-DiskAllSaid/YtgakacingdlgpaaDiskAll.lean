/- Own work: the law DiskAll, at all inputs: what the walk needs, plain. -/
import Derived.Test.YtgakacingdlgpaaDiskL
import Derived.Test.YtgakacingdlgpaaDiskSafe
namespace Go.Proofs.YtgakacingdlgpaaSep
open Go.RowKit Go.Lib Go.Proofs Go.Shelf

structure AllOk (i : Nat) (s : Dk) : Prop where
  safe : ∀ p ∈ s.safe, p.1.length ≤ 100
  wait : ∀ c ∈ s.wait, c.name.length ≤ 100 ∧ c.dst.length ≤ 100
  work : s.work ≤ i
  len : s.safe.length + s.wait.length ≤ i
theorem mem_set {x : List UInt8} {v : List UInt8} : ∀ {F : FL} {p : List UInt8 × List UInt8}, p ∈ setA F x v → p.1 = x ∨ p ∈ F
  | [], p, h => by rw [setA, List.mem_singleton] at h; exact .inl (by rw [h])
  | q :: F, p, h => by
    rw [setA] at h
    split at h
    · rcases List.mem_cons.1 h with h | h
      · exact .inl (by rw [h])
      · exact .inr (List.mem_cons_of_mem _ h)
    · rcases List.mem_cons.1 h with h | h
      · exact .inr (by rw [h]; exact List.mem_cons_self ..)
      · rcases mem_set h with h | h
        · exact .inl h
        · exact .inr (List.mem_cons_of_mem _ h)
theorem act_names {c : Chg} {F : FL} (hc : c.name.length ≤ 100 ∧ c.dst.length ≤ 100) (hF : ∀ p ∈ F, p.1.length ≤ 100) : ∀ p ∈ c.act F, p.1.length ≤ 100 := by
  intro p hp
  unfold Chg.act at hp
  split at hp
  · rcases mem_set hp with h | h
    · rw [h]; exact hc.1
    · exact hF p h
  · split at hp
    · rcases mem_set ((del_sub _ _).subset hp) with h | h
      · rw [h]; exact hc.2
      · exact hF p h
    · exact hF p ((del_sub _ _).subset hp)
theorem now_names : ∀ (ws : List Chg) (F : FL), (∀ c ∈ ws, c.name.length ≤ 100 ∧ c.dst.length ≤ 100) → (∀ p ∈ F, p.1.length ≤ 100) → ∀ p ∈ nowF F ws, p.1.length ≤ 100
  | [], _, _, h => h
  | c :: ws, F, hw, h => now_names ws (c.act F) (fun c hc => hw c (List.mem_cons_of_mem _ hc)) (act_names (hw c (List.mem_cons_self ..)) h)
section
variable {i : Nat} {s : Dk}
theorem AllOk.more (h : AllOk i s) : AllOk (i + 1) s := ⟨h.safe, h.wait, by have := h.work; omega, by have := h.len; omega⟩
theorem AllOk.now (h : AllOk i s) : s.now.length ≤ i ∧ ∀ p ∈ s.now, p.1.length ≤ 100 :=
  ⟨Nat.le_trans (nowF_len ..) h.len, now_names _ _ h.wait h.safe⟩
theorem AllOk.take (h : AllOk i s) {c : Chg} (hc : c.name.length ≤ 100 ∧ c.dst.length ≤ 100) : AllOk (i + 1) (s.take c) where
  safe := h.safe
  wait x hx := by
    rcases List.mem_append.1 hx with hx | hx
    · exact h.wait x hx
    · rw [List.mem_singleton.1 hx]; exact hc
  work := by have := h.work; show s.work + 1 ≤ _; omega
  len := by have := h.len; show s.safe.length + (s.wait ++ [c]).length ≤ _; rw [List.length_append]; simp; omega
theorem AllOk.wr (h : AllOk i s) {n b : List UInt8} (hn : n.length ≤ 100) : AllOk (i + 1) (s.wr n b) := by
  unfold Dk.wr
  split
  · exact h.take ⟨hn, Nat.zero_le _⟩
  · exact h.more
theorem AllOk.dr (h : AllOk i s) {n : List UInt8} (hn : n.length ≤ 100) : AllOk (i + 1) (s.dr n) := by
  unfold Dk.dr
  split
  · exact h.take ⟨hn, Nat.zero_le _⟩
  · exact h.more
theorem AllOk.mv (h : AllOk i s) {n t : List UInt8} (hn : n.length ≤ 100) (ht : t.length ≤ 100) : AllOk (i + 1) (s.mv n t) := by
  unfold Dk.mv
  split
  · split
    · exact ⟨h.safe, h.wait, by have := h.work; show s.work + 1 ≤ _; omega, by have := h.len; show s.safe.length + s.wait.length ≤ _; omega⟩
    · exact h.take ⟨hn, ht⟩
  · exact h.more
theorem AllOk.sync (h : AllOk i s) : AllOk (i + 1) s.sync where
  safe := h.now.2
  wait _ hx := absurd hx (List.not_mem_nil)
  work := by have := h.work; show s.work + 1 ≤ _; omega
  len := by have := h.now.1; show s.now.length + 0 ≤ _; omega
theorem sync_crash (s : Dk) (t : Int) : s.sync.crash 0 t = s.sync := rfl
theorem crash_all (s : Dk) (k t : Int) (h : (s.wait.length : Int) ≤ k) : (s.crash k t).now = s.now := by
  show crashF s k t = s.now
  unfold crashF
  have hk : clampK k s.wait.length = s.wait.length := by unfold clampK; omega
  rw [hk, List.take_length, List.getElem?_eq_none (Nat.le_refl _)]
  rfl
theorem AllOk.crash0 (h : AllOk i s) : (s.crash 0 0).now.length ≤ i ∧ ∀ p ∈ (s.crash 0 0).now, p.1.length ≤ 100 := by
  have hc : (s.crash 0 0).now = s.safe := by
    show crashF s 0 0 = s.safe
    unfold crashF
    have hk : clampK 0 s.wait.length = 0 := by unfold clampK; omega
    rw [hk]
    dsimp only
    split
    · rfl
    · rw [if_neg (fun h => by have := h.1; omega)]
      rfl
  rw [hc]
  exact ⟨by have := h.len; omega, h.safe⟩
theorem rd_alike {s s2 : Dk} (h : s.now = s2.now) (n : List UInt8) : drE s n = drE s2 n ∧ rdC s n = rdC s2 n := by
  unfold drE rdC
  rw [h]
  exact ⟨rfl, rfl⟩
theorem namesF_len (F : FL) : (namesF F).length = F.length := by
  unfold namesF keysF
  rw [List.length_mergeSort, List.length_map]
end
end Go.Proofs.YtgakacingdlgpaaSep
