/- Own work: the law's head (the document's example). -/
import Derived.Test.YtfhfinnjlihghaaDepV
namespace Go.Proofs.YtfhfinnjlihghaaSep
open Go.RowKit Go.Lib Go.Proofs

theorem put_bool {W0 w : World} {R : HP} {g T : Nat} {rest : List Value} {K : List (List UInt8)} {V : List Value} (H : TabO W0 w R g T rest 4 K V) (x : List UInt8) (z : Bool) (hK : sortedK K) (hb : K.length ≤ 1000000) (hV : V.length = K.length) (hV1 : ∀ u ∈ V, u.oneCell' = true) :
    Calls Try.prog 9 #[.pointer (some ⟨g, 0, none⟩), .string (str x), .bool z] w fun e w' => e = .returned (.bool (!hasK K x)) ∧ TabO W0 w' R g T rest 4 (putK K x) (putV K V x (.bool z)) := by
  rw [putK, putV]
  rcases hx : hasK K x with _ | _
  · exact put_bool_new H x z hK hb hV hV1 hx
  · exact put_bool_there H x z hK hb hV hx
theorem sorted_one (x : List UInt8) : sortedK [x] := List.pairwise_singleton _ _
/-- A table of one name. -/
theorem put_one {W0 w : World} {R : HP} {g : Nat} (H : Own W0 w (R * TabH g 34 [] 4 [] [])) (x : List UInt8) (z : Bool) :
    Calls Try.prog 9 #[.pointer (some ⟨g, 0, none⟩), .string (str x), .bool z] w fun e w' => e = .returned (.bool true) ∧ Own W0 w' (R * TabH g 34 [] 4 [x] [.bool z]) :=
  (put_bool H.tab x z List.Pairwise.nil (by simp) rfl (fun _ hu => absurd hu (List.not_mem_nil))).mono fun _ _ ⟨he, h⟩ => ⟨he, h.own⟩
theorem Own.verNil {W0 w : World} {P : HP} {g : Nat} (H : Own W0 w (P * Blk g (.cells #[.slice none 0 0, .slice none 0 0, .int .i64 0] 29))) : Own W0 w (P * VerM g (fun _ => 0) 0 0) := by
  have h : TabO W0 w P g 29 [.int .i64 0] 3 [] [] := ⟨.slice none 0 0, .slice none 0 0, ((H.nil 9 1).rot.nil 3 1).rot⟩
  exact h.own.toVer VerP.nil
set_option maxHeartbeats 2000000 in
theorem dep_head {W0 w : World} {R : HP} (H : Own W0 w R) : Calls Try.prog 7 #[] w fun e w' => e = .returned (.bool true) ∧ Own W0 w' R := by
  have H1 := (H.alloc (.cells #[.slice none 0 0, .slice none 0 0, .int .i64 0] 29)).verNil.alloc (.cells #[.slice none 0 0, .slice none 0 0] 34)
  rw [World.size_alloc] at H1
  have HP1 := Kp.mk (put_one (H1.tabNil 4) [97] false)
  clear H1
  go_enter Try.func7, Try.ntmps7
  go_wp2_with fail
  refine HP1.out.mono ?_
  rintro e w1 ⟨rfl, H1⟩
  clear HP1
  obtain ⟨b, hb⟩ : ∃ b, Kp (w.heap.size = b) := ⟨_, ⟨rfl⟩⟩
  rw [hb.out] at H1 ⊢
  clear hb
  have HN := Kp.mk (ver_Note H1 (by decide) (sorted_one _) (by decide) rfl)
  clear H1
  go_wp2_with fail
  refine HN.out.mono ?_
  rintro e w2 ⟨go, rfl, H2⟩
  clear HN
  have HF := Kp.mk (ver_Fresh H2.rot.drop (by decide) (by decide))
  clear H2
  go_wp2_with fail
  refine HF.out.mono ?_
  rintro e w3 ⟨r, rfl, hr, H3⟩
  clear HF
  obtain rfl : r = true := hr.2 (fun _ _ => rfl)
  clear hr
  have HT := Kp.mk (ver_Turn (last := 0) H3.rot [97] (by decide) (by decide))
  clear H3
  go_wp2_with fail
  refine HT.out.mono ?_
  rintro e w4 ⟨rfl, H4⟩
  clear HT
  have HF := Kp.mk (ver_Fresh H4.rot (by decide) (by decide))
  clear H4
  go_wp2_with fail
  refine HF.out.mono ?_
  rintro e w5 ⟨r, rfl, hr, H5⟩
  clear HF
  obtain rfl : r = false := by
    rcases r with _ | _
    · rfl
    · exact absurd ((hr.1 rfl) [97] (List.mem_singleton.2 rfl)) (by decide)
  clear hr
  have HO := Kp.mk (ver_Of H5.rot [97] (by decide))
  rw [show putM (fun _ => 0) [97] (((0 : Nat) : Int) + 1) [97] = 1 from rfl] at HO
  replace H5 := Kp.mk H5.drop.drop
  go_wp2_with fail
  refine HO.out.mono ?_
  rintro e w6 ⟨rfl, rfl⟩
  clear HO
  go_wp2
  go_ret
  exact ⟨rfl, H5.out⟩
end Go.Proofs.YtfhfinnjlihghaaSep
