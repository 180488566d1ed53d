/- Own work: dep.Versions over what is owned: Of, Turn, Drop. -/
import Derived.Test.YtfhfinnjlihghaaTabDint
namespace Go.Proofs.YtfhfinnjlihghaaSep
open Go.RowKit Go.Lib Go.Proofs

theorem TabO.drew {W0 w : World} {R : HP} {g T : Nat} {rest : List Value} {e : TypeId} {K : List (List UInt8)} {V : List Value} (H : TabO W0 w R g T rest e K V) : TabO W0 w.drew R g T rest e K V := by
  obtain ⟨vk, vv, H⟩ := H
  exact ⟨vk, vv, H.drew⟩
theorem TabO.cut {W0 w : World} {R : HP} {g T : Nat} {rest : List Value} {e : TypeId} {K : List (List UInt8)} {V : List Value} (H : TabO W0 w R g T rest e K V) : Own W0 w R := by
  obtain ⟨vk, vv, H⟩ := H
  exact H.drop.drop.drop
theorem put_int {W0 w : World} {R : HP} {g T : Nat} {rest : List Value} {K : List (List UInt8)} {V : List Value} (H : TabO W0 w R g T rest 3 K V) (x : List UInt8) (z : Int) (hK : sortedK K) (hb : K.length ≤ 1000000) (hV : V.length = K.length) (hV1 : ∀ u ∈ V, u.oneCell' = true) :
    Calls Try.prog 18 #[.pointer (some ⟨g, 0, none⟩), .string (str x), .int .i64 z] w fun e w' => e = .returned (.bool (!hasK K x)) ∧ TabO W0 w' R g T rest 3 (putK K x) (putV K V x (.int .i64 z)) := by
  rw [putK, putV]
  rcases hx : hasK K x with _ | _
  · exact put_int_new H x z hK hb hV hV1 hx
  · exact put_int_there H x z hK hb hV hx
/-- A list of versions: the keys, their numbers, the last number given. -/
def VersO (W0 w : World) (R : HP) (g : Nat) (K : List (List UInt8)) (V : List Value) (last : Int) : Prop := TabO W0 w R g 29 [.int .i64 last] 3 K V
def ofV (K : List (List UInt8)) (V : List Value) (x : List UInt8) : Value := if hasK K x then V.getD (posF K x) undef else .int .i64 0
set_option maxHeartbeats 1000000 in
theorem dep_Of {W0 w : World} {R : HP} {g : Nat} {K : List (List UInt8)} {V : List Value} {last : Int} (H : VersO W0 w R g K V last) (x : List UInt8) (hK : sortedK K) (hb : K.length ≤ 1000000) (hV : V.length = K.length) :
    Calls Try.prog 13 #[.pointer (some ⟨g, 0, none⟩), .string (str x)] w fun e w' => e = .returned (ofV K V x) ∧ w' = w := by
  have HG := get_int H x hK hb hV
  rw [← show ofV K V x = if hasK K x then V.getD (posF K x) undef else .int .i64 0 from rfl] at HG
  have HG := Kp.mk HG
  go_enter Try.func13, Try.ntmps13
  go_wp2_with fail
  refine HG.out.mono ?_
  rintro e w1 ⟨rfl, rfl⟩
  go_wp2
  go_ret
  exact ⟨rfl, rfl⟩
set_option maxHeartbeats 1000000 in
theorem dep_Drop {W0 w : World} {R : HP} {g : Nat} {K : List (List UInt8)} {V : List Value} {last : Int} (H : VersO W0 w R g K V last) (x : List UInt8) (hK : sortedK K) (hb : K.length ≤ 1000000) (hV1 : ∀ u ∈ V, u.oneCell' = true) :
    Calls Try.prog 12 #[.pointer (some ⟨g, 0, none⟩), .string (str x)] w fun e w' => e = .returned (.tuple #[]) ∧ VersO W0 w' R g (dropK K x) (dropV K V x) last := by
  have HG := Kp.mk (drop_int H x hK hb hV1)
  go_enter Try.func12, Try.ntmps12
  go_wp2_with fail
  refine HG.out.mono ?_
  rintro e w1 ⟨rfl, H1⟩
  have H1 := Kp.mk H1
  go_wp2
  go_end0
  exact ⟨rfl, H1.out⟩
set_option maxHeartbeats 1000000 in
theorem dep_Turn {W0 w : World} {R : HP} {g : Nat} {K : List (List UInt8)} {V : List Value} {last : Nat} (H : VersO W0 w R g K V last) (x : List UInt8) (hK : sortedK K) (hb : K.length ≤ 1000000) (hV : V.length = K.length) (hV1 : ∀ u ∈ V, u.oneCell' = true) (hl : last ≤ 1000000) :
    Calls Try.prog 8 #[.pointer (some ⟨g, 0, none⟩), .string (str x)] w fun e w' => e = .returned (.tuple #[]) ∧ VersO W0 w' R g (putK K x) (putV K V x (.int .i64 ((last : Int) + 1))) ((last : Int) + 1) := by
  obtain ⟨vk, vv, H⟩ := H
  have k2 := cell_blk (j := 2) (v := .int .i64 (last : Int)) H.blk rfl
  have z2 : w.frozen? ⟨g, 2, none⟩ = false := frz_blk H.blk
  have HS := H.set 2 (.int .i64 ((last : Int) + 1))
  rw [show (vk :: vv :: [Value.int .i64 (last : Int)]).toArray.setIfInBounds 2 (.int .i64 ((last : Int) + 1)) = (vk :: vv :: [.int .i64 ((last : Int) + 1)]).toArray by simp] at HS
  have HT : TabO W0 (w.setCell ⟨g, 2, none⟩ (.int .i64 ((last : Int) + 1))) R g 29 [.int .i64 ((last : Int) + 1)] 3 K V := ⟨vk, vv, HS⟩
  have k2b := cell_blk (j := 2) (v := .int .i64 ((last : Int) + 1)) HS.blk rfl
  have HP := Kp.mk (put_int HT.drew x ((last : Int) + 1) hK hb hV hV1)
  clear H HS HT
  go_enter Try.func8, Try.ntmps8
  go_wp2
  go_region_law (go_simp; (go_at_call 18; refine HP.out.mono ?_; rintro e w1 ⟨rfl, H1⟩; have H1 := Kp.mk H1))
  all_goals
    go_wp2
    go_end0
    exact ⟨rfl, H1.out⟩
end Go.Proofs.YtfhfinnjlihghaaSep
