/- Own work: tables as what is owned; dep.Note. -/
import Derived.Test.YtfhfinnjlihghaaDepA
import Derived.Test.YtfhfinnjlihghaaAllbool
import Derived.Test.YtfhfinnjlihghaaAllint
import Derived.Test.YtfhfinnjlihghaaLast
namespace Go.Proofs.YtfhfinnjlihghaaSep
open Go.RowKit Go.Lib Go.Proofs Go.Shelf
attribute [local go_sem] Oper.semAt_some

/-- A table as a thing that is owned. -/
def TabH (g T : Nat) (rest : List Value) (e : TypeId) (K : List (List UInt8)) (V : List Value) : HP := fun h => ∃ vk vv, (Row 9 1 vk K.length (SV K) * Row e 1 vv K.length V * Blk g (.cells (vk :: vv :: rest).toArray T)) h
section
variable {W0 w : World} {R : HP} {g T : Nat} {rest : List Value} {e : TypeId} {K : List (List UInt8)} {V : List Value}
theorem TabO.own (H : TabO W0 w R g T rest e K V) : Own W0 w (R * TabH g T rest e K V) := by
  obtain ⟨vk, vv, H⟩ := H
  rw [star_assoc R, star_assoc R] at H
  exact H.mono fun _ ⟨a, b, hd, he, hr, hx⟩ => ⟨a, b, hd, he, hr, ⟨vk, vv, hx⟩⟩
theorem Own.tab (H : Own W0 w (R * TabH g T rest e K V)) : TabO W0 w R g T rest e K V := by
  obtain ⟨q1, q2, q3, h, ⟨a, b, hd, rfl, ha, ⟨vk, vv, hb⟩⟩, hs⟩ := H
  refine ⟨vk, vv, ?_⟩
  rw [star_assoc R, star_assoc R]
  exact ⟨q1, q2, q3, _, ⟨a, b, hd, rfl, ha, hb⟩, hs⟩
theorem Own.tabNil {P : HP} (H : Own W0 w (P * Blk g (.cells #[.slice none 0 0, .slice none 0 0] T))) (e : TypeId) : Own W0 w (P * TabH g T [] e [] []) :=
  TabO.own ⟨.slice none 0 0, .slice none 0 0, ((H.nil 9 1).rot.nil e 1).rot⟩
end
/-- What is put behind all others. -/
theorem posF_all (x : List UInt8) : ∀ p : List (List UInt8), (∀ a ∈ p, ltB a x = true) → posF p x = p.length
  | [], _ => rfl
  | a :: p, h => by
    rw [posF, if_pos (h a (List.mem_cons_self ..)), posF_all x p (fun b hb => h b (List.mem_cons_of_mem _ hb)), List.length_cons]
theorem put_end {p r : List (List UInt8)} {x : List UInt8} {V : List Value} {u : Value} (hs : sortedK (p ++ x :: r)) (hV : V.length = p.length) : hasK p x = false ∧ putK p x = p ++ [x] ∧ putV p V x u = V ++ [u] := by
  have h1 : ∀ a ∈ p, ltB a x = true := fun a ha => (List.pairwise_append.1 hs).2.2 a ha x (List.mem_cons_self ..)
  have hp := posF_all x p h1
  have hh : hasK p x = false := by
    rw [hasK, hp]
    simp
  refine ⟨hh, ?_, ?_⟩
  · rw [putK, hh, hp]; simp
  · rw [putV, hh, hp, ← hV]; simp
/-- What a record is told: each source with its version. -/
def noteV (K : List (List UInt8)) (V : List Value) (S : List (List UInt8)) : List Value := S.map (ofV K V)
theorem keys_of {K : List (List UInt8)} {V : List Value} (hV : V.length = K.length) {pre : List KV} {x : KV} (h : KvOk K V pre x) : ∃ r, K = pre.map (·.1) ++ x.1 :: r := by
  obtain ⟨rest, h⟩ := h
  refine ⟨rest.map (·.1), ?_⟩
  have := congrArg (List.map (·.1)) h
  rw [List.map_fst_zip (by omega)] at this
  rw [this]
  simp
theorem ofV_int {K : List (List UInt8)} {V : List Value} (x : List UInt8) (hV : ∀ u ∈ V, ∃ i : Int, u = .int .i64 i) (hl : V.length = K.length) : ∃ i : Int, ofV K V x = .int .i64 i := by
  rw [ofV]
  split
  · rename_i h
    have := hasK_lt K x h
    rw [List.getD_eq_getElem?_getD, List.getElem?_eq_getElem (by omega)]
    exact hV _ (List.getElem_mem _)
  · exact ⟨0, rfl⟩
end Go.Proofs.YtfhfinnjlihghaaSep
