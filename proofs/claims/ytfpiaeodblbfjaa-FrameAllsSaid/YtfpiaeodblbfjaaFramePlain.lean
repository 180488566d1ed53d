/- Own work: frames one behind the other, cut anywhere: the plain law. -/
import Derived.Test.YtfpiaeodblbfjaaFrameTurns
namespace Go.Proofs.YtfpiaeodblbfjaaSep
open Go.RowKit Go.Lib Go.Proofs

def catF (ds : List (List UInt8)) : List UInt8 := ds.flatMap frameF
def offs (ds : List (List UInt8)) (k : Nat) : Nat := (catF (ds.take k)).length
theorem catF_cons (d : List UInt8) (ds : List (List UInt8)) : catF (d :: ds) = frameF d ++ catF ds := by rw [catF, List.flatMap_cons]; rfl
theorem catF_append (a b : List (List UInt8)) : catF (a ++ b) = catF a ++ catF b := by rw [catF, List.flatMap_append]; rfl
theorem catF_step {ds : List (List UInt8)} {k : Nat} {d : List UInt8} (h : ds[k]? = some d) : catF (ds.take (k + 1)) = catF (ds.take k) ++ frameF d := by
  rw [List.take_add_one, h, catF_append, Option.toList_some, catF_cons, show catF [] = [] from rfl, List.append_nil]
theorem offs_zero (ds : List (List UInt8)) : offs ds 0 = 0 := by simp [offs, catF]
theorem offs_step {ds : List (List UInt8)} {k : Nat} {d : List UInt8} (h : ds[k]? = some d) : offs ds (k + 1) = offs ds k + (frameF d).length := by rw [offs, catF_step h, List.length_append]; rfl
theorem offs_all (ds : List (List UInt8)) : offs ds ds.length = (catF ds).length := by rw [offs, List.take_length]
theorem len_frameF_pos (d : List UInt8) : 5 ≤ (frameF d).length := by have := putN_ne d.length; rw [len_frameF]; omega
theorem catF_drop (ds : List (List UInt8)) (k : Nat) : (catF ds).drop (offs ds k) = catF (ds.drop k) := by
  conv => lhs; rw [← List.take_append_drop k ds]
  rw [catF_append]
  have : offs (ds.take k ++ ds.drop k) k = (catF (ds.take k)).length := by rw [List.take_append_drop, offs]
  rw [this, List.drop_left]
theorem nextF_frame (d t : List UInt8) (hd : d.length ≤ 2097152) : nextF (frameF d ++ t) = (d, (frameF d).length, 0) := by
  have e : frameF d ++ t = putN d.length ++ (four8 (sumF d) ++ (d ++ t)) := by rw [frameF, List.append_assoc, List.append_assoc]
  have hl : (four8 (sumF d) ++ (d ++ t)).length = 4 + d.length + t.length := by rw [List.length_append, len_four8, List.length_append]; omega
  rw [e, nextF, nextF_put _ hd]
  simp only
  rw [if_neg (by rw [hl]; rintro (h | ⟨_, h⟩) <;> omega), if_neg (by simp), List.drop_left' (len_four8 _), List.take_left' (len_four8 _), List.take_left' rfl, if_pos rfl, List.length_append, hl, len_frameF]
  congr 2
  omega
theorem more8_toNat (y : Nat) : (more8 y).toNat = y % 128 + 128 := by rw [more8, UInt8.toNat_ofNat']; omega
theorem numGo_part (most : Nat) : ∀ (y i n j : Nat), i + (putN y).length ≤ 9 → j < (putN y).length → numGo most i n ((putN y).take j) = (0, [], 8) := by
  intro y
  induction y using Nat.strongRecOn with
  | ind y ih =>
    intro i n j hi hj
    by_cases hy : y < 128
    · rw [putN_small hy] at hj
      obtain rfl : j = 0 := by simpa using hj
      rw [List.take_zero, numGo]
    · cases j with
      | zero => rw [List.take_zero, numGo]
      | succ j =>
        rw [putN_big hy, List.length_cons] at hi hj
        have hm := more8_toNat y
        rw [putN_big hy, List.take_succ_cons, numGo, if_neg (by omega), if_neg (by omega)]
        exact ih (y / 128) (by omega) _ _ j (by omega) (by omega)
theorem nextF_part (d : List UInt8) (j : Nat) (hd : d.length ≤ 200) (h : j < (frameF d).length) : (nextF ((frameF d).take j)).2.2 = 8 := by
  by_cases h1 : (putN d.length).length ≤ j
  · exact turns_short d (by omega) j h1 h
  · have hp := putN_length 1 d.length (by omega)
    rw [frameF, List.append_assoc, List.take_append_of_le_length (by omega), nextF, numGo_part _ _ _ _ _ (by omega) (by omega)]
    simp
theorem allG_cut (ds : List (List UInt8)) (hds : ∀ d ∈ ds, d.length ≤ 200) (cut : Nat) (hc : cut ≤ (catF ds).length) : ∀ f k, k ≤ ds.length → offs ds k ≤ cut → cut ≤ offs ds k + f →
    ∃ q, k ≤ q ∧ q ≤ ds.length ∧ offs ds q ≤ cut ∧ (q < ds.length → cut < offs ds (q + 1)) ∧ allG ((catF ds).take cut) f (offs ds k) = (List.range' k (q - k)).map (fun i => (offs ds (i + 1), ds.getD i [])) ∧
      (offs ds q < cut → (nextF (((catF ds).take cut).drop (offs ds q))).2.2 = 8) := by
  have hcl : ((catF ds).take cut).length = cut := by rw [List.length_take]; omega
  intro f
  have stay : ∀ k, k ≤ ds.length → offs ds k = cut → k < ds.length → cut < offs ds (k + 1) := by
    intro k _ he hk
    have := offs_step (List.getElem?_eq_getElem hk)
    have := len_frameF_pos ds[k]
    omega
  induction f with
  | zero => exact fun k hk h1 h2 => ⟨k, Nat.le_refl _, hk, h1, stay k hk (by omega), by simp [allG], fun h => by omega⟩
  | succ f ih =>
    intro k hk h1 h2
    by_cases hlt : offs ds k < cut
    · have hkn : k < ds.length := by
        refine Classical.byContradiction fun h => ?_
        obtain rfl : k = ds.length := by omega
        rw [offs_all] at hlt
        omega
      have hst := offs_step (List.getElem?_eq_getElem hkn)
      have hpos := len_frameF_pos ds[k]
      have hd := hds _ (List.getElem_mem hkn)
      have e : ((catF ds).take cut).drop (offs ds k) = (frameF ds[k] ++ catF (ds.drop (k + 1))).take (cut - offs ds k) := by
        rw [List.drop_take, catF_drop, List.drop_eq_getElem_cons hkn, catF_cons]
      by_cases h3 : offs ds (k + 1) ≤ cut
      · have hn : nextF (((catF ds).take cut).drop (offs ds k)) = (ds[k], (frameF ds[k]).length, 0) := by
          rw [e, List.take_append, List.take_of_length_le (by omega), nextF_frame _ _ (by omega)]
        obtain ⟨q, q1, q2, q3, q4, q5, q6⟩ := ih (k + 1) (by omega) h3 (by omega)
        refine ⟨q, by omega, q2, q3, q4, ?_, q6⟩
        rw [allG, hn, hcl, if_pos ⟨hlt, rfl⟩]
        simp only
        rw [← hst, q5, show q - k = (q - (k + 1)) + 1 by omega, List.range'_succ, List.map_cons]
        congr 2
        rw [List.getD_eq_getElem?_getD, List.getElem?_eq_getElem hkn]
        rfl
      · have hn : (nextF (((catF ds).take cut).drop (offs ds k))).2.2 = 8 := by
          rw [e, List.take_append_of_le_length (by omega)]
          exact nextF_part _ _ hd (by omega)
        refine ⟨k, Nat.le_refl _, hk, h1, fun _ => by omega, ?_, fun _ => hn⟩
        rw [allG, hn, if_neg (fun h => by simp at h)]
        simp
    · refine ⟨k, Nat.le_refl _, hk, h1, stay k hk (by omega), ?_, fun h => absurd h hlt⟩
      rw [allG, hcl, if_neg (fun h => hlt h.1)]
      simp
def frOf (ds : List (List UInt8)) (i : Nat) : Nat × List UInt8 := (offs ds (i + 1), ds.getD i [])
theorem allF_cut (ds : List (List UInt8)) (hds : ∀ d ∈ ds, d.length ≤ 200) (cut : Nat) (hc : cut ≤ (catF ds).length) :
    ∃ q, q ≤ ds.length ∧ offs ds q ≤ cut ∧ (q < ds.length → cut < offs ds (q + 1)) ∧ allF ((catF ds).take cut) = (List.range q).map (frOf ds) ∧ wholeF ((catF ds).take cut) = (if offs ds q < cut then (0, 8) else (q, 0)) := by
  have hcl : ((catF ds).take cut).length = cut := by rw [List.length_take]; omega
  obtain ⟨q, _, h1, h2, h3, h4, h5⟩ := allG_cut ds hds cut hc cut 0 (Nat.zero_le _) (by rw [offs_zero]; omega) (by omega)
  rw [offs_zero, Nat.sub_zero, ← List.range_eq_range'] at h4
  have hA : allF ((catF ds).take cut) = (List.range q).map (frOf ds) := by rw [allF, hcl]; exact h4
  have hE : endOf (allF ((catF ds).take cut)) = offs ds q := by
    rw [hA]
    cases q with
    | zero => rw [offs_zero]; rfl
    | succ q => rw [List.range_succ, List.map_append, List.map_cons, List.map_nil, endOf_snoc]; rfl
  refine ⟨q, h1, h2, h3, hA, ?_⟩
  rw [wholeF, hE, hcl]
  split
  · rename_i h; rw [h5 h]
  · rw [hA, List.length_map, List.length_range]
end Go.Proofs.YtfpiaeodblbfjaaSep
