/- Own work: the law DepOnce, at all inputs. -/
import Derived.Test.YtfhfinnjlihghaaDepApart
namespace Go.Proofs.YtfhfinnjlihghaaSep
open Go.RowKit Go.Lib Go.Proofs

theorem cat_x (l : List UInt8) : ({ data := #[120] } : ByteArray) ++ str l = str (120 :: l) := by
  apply ByteArray.ext
  simp [str, ByteArray.data_append]
theorem same_q {m : List UInt8 → Int} {q : List UInt8} : SameOn [q] (putM m q (((0 : Nat) : Int) + 1)) (putM m q (((0 : Nat) : Int) + 1)) := fun _ _ => rfl
theorem not_same_at {m m2 : List UInt8 → Int} {q : List UInt8} (h : SameOn [q] m (putM m2 q (((0 : Nat) : Int) + 1))) (h2 : m q ≠ 1) : False := by
  have := h q (List.mem_singleton.2 rfl)
  rw [putM_same] at this
  exact h2 this
set_option maxHeartbeats 4000000 in
theorem depOnce_core (l : List UInt8) (hl : (str l).size ≤ 140737488351232) (t : Int) (dr : Bool) (w : World) :
    Calls Try.prog 3 #[.string (str l), .int .i64 t, .bool dr] w fun e w' => e = .returned (.bool true) ∧ Below w.heap.size w w' := by
  have hs1 : ({ data := #[120] } : ByteArray).size = 1 := rfl
  have hs2 : (1 : Int) + ((str l).size : Int) ≤ 9223372036854775807 := by omega
  have hs3 : 1 + (str l).size ≤ 9223372036854775807 := by omega
  have HH := Kp.mk (dep_head (own_start w))
  obtain ⟨q, hq⟩ : ∃ q, ({ data := #[120] } : ByteArray) ++ str l = str q := ⟨_, cat_x l⟩
  obtain ⟨N, hN, hand⟩ := and_i64 t 15 (by decide)
  have hand : bits .and .i64 t 15 = (N : Int) := hand
  go_enter Try.func3, Try.ntmps3
  go_wp2_with fail
  refine HH.out.mono ?_
  rintro e w1 ⟨rfl, H1⟩
  clear HH
  have HT := Kp.mk (ver_Turn (last := 0) (H1.alloc (.cells #[.slice none 0 0, .slice none 0 0, .int .i64 0] 29)).verNil q (by decide) (by decide))
  obtain ⟨g, hg⟩ : ∃ g, Kp (w1.heap.size = g) := ⟨_, ⟨rfl⟩⟩
  rw [hg.out] at HT
  clear H1
  go_wp2_with fail
  rw [hg.out]
  refine HT.out.mono ?_
  rintro e w2 ⟨rfl, H2⟩
  clear HT
  have HP := Kp.mk (put_one ((H2.alloc (.cells #[.slice none 0 0, .slice none 0 0] 34)).tabNil 4) q true)
  clear H2
  obtain ⟨gr, hgr⟩ : ∃ g, Kp (w2.heap.size = g) := ⟨_, ⟨rfl⟩⟩
  rw [hgr.out] at HP
  go_wp2_with fail
  rw [hgr.out]
  refine HP.out.mono ?_
  rintro e w3 ⟨rfl, H3⟩
  clear HP hgr hg
  have HN := Kp.mk (ver_Note H3 (by decide) (sorted_one _) (by simp) rfl)
  clear H3
  go_wp2_with fail
  refine HN.out.mono ?_
  rintro e w4 ⟨go, rfl, H4⟩
  clear HN
  have HF := Kp.mk (ver_Fresh H4.rot.drop (by decide) (by simp))
  clear H4
  go_wp2_with fail
  refine HF.out.mono ?_
  rintro e w5 ⟨r, rfl, hr, H5⟩
  clear HF
  obtain rfl : r = true := hr.2 same_q
  clear hr
  rcases dr with _ | _
  case' false =>
    obtain ⟨m0, H6⟩ : ∃ m0, Kp (Own w w5 (Old w * VerM g m0 (((0 : Nat) : Int) + 1) (0 + 1) * RecM go [q] (putM (fun _ => 0) q (((0 : Nat) : Int) + 1)))) := ⟨_, ⟨H5⟩⟩
    clear H5
    go_wp2
  case' true =>
    have HD := Kp.mk (ver_Drop H5.rot q (by decide))
    clear H5
    go_wp2_with fail
    refine HD.out.mono ?_
    rintro e w6 ⟨rfl, H6⟩
    clear HD
    have HF := Kp.mk (ver_Fresh H6.rot (by decide) (by simp))
    clear H6
    go_wp2_with fail
    refine HF.out.mono ?_
    rintro e w7 ⟨r, rfl, hr, H7⟩
    clear HF
    obtain rfl : r = false := by
      rcases r with _ | _
      · rfl
      · exact (not_same (hr.1 rfl)).elim
    clear hr
    obtain ⟨m0, H6⟩ : ∃ m0, Kp (Own w w7 (Old w * VerM g m0 (((0 : Nat) : Int) + 1) (0 + 1) * RecM go [q] (putM (fun _ => 0) q (((0 : Nat) : Int) + 1)))) := ⟨_, ⟨H7⟩⟩
    clear H7
    go_wp2
  all_goals
    go_loopg [10] (N + 1) (fun gk v wr => ∃ (k : Nat) (m : List UInt8 → Int), v = .int .i64 k ∧ k ≤ N + 1 ∧ Kp (gk + k = N + 1) ∧ Kp (k = 0 ∨ m q = ((k + 1 : Nat) : Int)) ∧ Kp (Own w wr (Old w * VerM g m ((k + 1 : Nat) : Int) (k + 1) * RecM go [q] (putM (fun _ => 0) q (((0 : Nat) : Int) + 1)))))
    case atStart => exact ⟨0, m0, rfl, Nat.zero_le _, ⟨by omega⟩, ⟨.inl rfl⟩, H6⟩
    case round =>
      clear H6
      obtain ⟨k, m, rfl, hk, hgk, hma, HO⟩ := hrel
      by_cases hlt : k ≤ N
      · have HT := Kp.mk (ver_Turn (last := k + 1) HO.out.rot q (by omega) (by omega))
        clear HO
        go_wp2_with fail
        refine HT.out.mono ?_
        rintro e w8 ⟨rfl, H8⟩
        clear HT
        have HF := Kp.mk (ver_Fresh H8.rot (by omega) (by simp))
        clear H8
        go_wp2_with fail
        refine HF.out.mono ?_
        rintro e w9 ⟨r, rfl, hr, H9⟩
        clear HF
        obtain rfl : r = false := by
          rcases r with _ | _
          · rfl
          · exact (not_same_at (hr.1 rfl) (by rw [putM_same]; omega)).elim
        clear hr
        replace H9 := Kp.mk H9
        go_wp2
        go_roundg (N + 1 - (k + 1))
        case rel => exact ⟨k + 1, _, by go_num, by omega, ⟨by omega⟩, ⟨.inr (putM_same _ _ _)⟩, H9⟩
        case measure => have := hgk.out; omega
      · obtain rfl : k = N + 1 := by omega
        have HO2 := Kp.mk (ver_Of HO.out.rot q (by omega))
        have hm : m q = (N : Int) + 2 := by
          rcases hma.out with h | h
          · omega
          · omega
        rw [hm] at HO2
        clear hma hm hgk hlt
        go_wp2_with fail
        refine HO2.out.mono ?_
        rintro e w8 ⟨rfl, rfl⟩
        clear HO2
        go_wp2
        go_ret
        exact ⟨rfl, HO.out.drop.drop.old⟩
theorem depOnce_walk (a : ByteArray) (ha : a.size ≤ 140737488351232) (t : Int) (_ : (Lit.int .i64 t).wf = true) (dr : Bool) (w : World) :
    Calls Try.prog 3 #[.string a, .int .i64 t, .bool dr] w fun e w' => e = .returned (.bool true) ∧ Below w.heap.size w w' := by
  have h := depOnce_core a.data.toList (by rw [str_of]; exact ha) t dr w
  rwa [str_of] at h
end Go.Proofs.YtfhfinnjlihghaaSep
