/- Own work: tables by numbers as things that are owned; Put. -/
import Derived.Test.YtllapldkcfhklaaDoorPathNum
import Derived.Test.YtllapldkcfhklaaDoorNTab
import Derived.Test.YtllapldkcfhklaaDoorNAll
namespace Go.Proofs.YtllapldkcfhklaaDoorSep
open Go.RowKit Go.Lib Go.Proofs Go.Shelf
attribute [local go_sem] Oper.semAt_some
theorem results_cell1 {fn : Func} {p : Tmp} {ty : TypeId} (h : fn.results = #[.cell p ty]) (tmps : Array Value) (P : Program) (w : World) :
    (results fn tmps).run P w = ((asAddr (tmps.getD p undef)).run P w).andThen fun a w₁ => (loadVar ty a).run P w₁ := by
  simp only [results, h]
  simp [Sem.run_bind, Result.andThen]
/-- A table as a thing that is owned. -/
def TabIH (g T : Nat) (rest : List Value) (e : TypeId) (K : List Int) (V : List Value) : HP := fun h => ∃ vk vv, (Row 3 1 vk K.length (IV K) * Row e 1 vv K.length V * Blk g (.cells (vk :: vv :: rest).toArray T)) h
section
variable {W0 w : World} {R : HP} {g T : Nat} {rest : List Value} {e : TypeId} {K : List Int} {V : List Value}
theorem TabI.own (H : TabI W0 w R g T rest e K V) : Own W0 w (R * TabIH g T rest e K V) := by
  obtain ⟨vk, vv, H⟩ := H
  rw [star_assoc R, star_assoc R] at H
  exact H.mono fun _ ⟨a, b, hd, he, hr, hx⟩ => ⟨a, b, hd, he, hr, ⟨vk, vv, hx⟩⟩
theorem Own.tabI (H : Own W0 w (R * TabIH g T rest e K V)) : TabI W0 w R g T rest e K V := by
  obtain ⟨q1, q2, q3, h, ⟨a, b, hd, rfl, ha, ⟨vk, vv, hb⟩⟩, hs⟩ := H
  refine ⟨vk, vv, ?_⟩
  rw [star_assoc R, star_assoc R]
  exact ⟨q1, q2, q3, _, ⟨a, b, hd, rfl, ha, hb⟩, hs⟩
theorem Own.tabINil {P : HP} (H : Own W0 w (P * Blk g (.cells #[.slice none 0 0, .slice none 0 0] T))) (e : TypeId) : Own W0 w (P * TabIH g T [] e [] []) :=
  TabI.own ⟨.slice none 0 0, .slice none 0 0, ((H.nil 3 1).rot.nil e 1).rot⟩
end
theorem put_num {W0 w : World} {R : HP} {g T : Nat} {rest : List Value} {K : List Int} {V : List Value} (H : Own W0 w (R * TabIH g T rest 9 K V)) (x : Int) (z : List UInt8) (hK : sortedI K) (hb : K.length ≤ 1000000) (hV : V.length = K.length) (hV1 : ∀ u ∈ V, u.oneCell' = true) :
    Calls Tryd.prog 15 #[.pointer (some ⟨g, 0, none⟩), .int .i64 x, .string (str z)] w fun e w' => e = .returned (.bool (!hasI K x)) ∧ Own W0 w' (R * TabIH g T rest 9 (putI K x) (putW K V x (.string (str z)))) := by
  rw [putI, putW]
  rcases hx : hasI K x with _ | _
  · exact (put_num_new H.tabI x z hK hb hV hV1 hx).mono fun _ _ ⟨he, h⟩ => ⟨he, h.own⟩
  · exact (put_num_there H.tabI x z hK hb hV hx).mono fun _ _ ⟨he, h⟩ => ⟨he, h.own⟩
end Go.Proofs.YtllapldkcfhklaaDoorSep
