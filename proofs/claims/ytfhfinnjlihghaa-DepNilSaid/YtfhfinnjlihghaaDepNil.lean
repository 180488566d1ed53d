/- Own work: the law DepNil, at all inputs. -/
import Derived.Test.YtfhfinnjlihghaaDepK
import Derived.Test.YtfhfinnjlihghaaDepOnce
namespace Go.Proofs.YtfhfinnjlihghaaSep
open Go.RowKit Go.Lib Go.Proofs

set_option maxHeartbeats 4000000 in
theorem depNil_core (l : List UInt8) (w : World) :
    Calls Try.prog 6 #[.string (str l)] w fun e w' => e = .returned (.bool true) ∧ Below w.heap.size w w' := by
  have HH := Kp.mk (dep_head (own_start w))
  go_enter Try.func6, Try.ntmps6
  go_wp2_with fail
  refine HH.out.mono ?_
  rintro e w1 ⟨rfl, H1⟩
  clear HH
  have HT := Kp.mk (nil_Turn w1 (.string (str l)))
  go_wp2_with fail
  refine HT.out.mono ?_
  rintro e w2 ⟨rfl, rfl⟩
  clear HT
  have HT := Kp.mk (nil_Drop w2 (.string (str l)))
  go_wp2_with fail
  refine HT.out.mono ?_
  rintro e w3 ⟨rfl, rfl⟩
  clear HT
  have HP := Kp.mk (put_rec1 ((H1.alloc (.cells #[.slice none 0 0, .slice none 0 0] 47)).tabNil 36) l none)
  clear H1
  obtain ⟨g, hg⟩ : ∃ g, Kp (w3.heap.size = g) := ⟨_, ⟨rfl⟩⟩
  rw [hg.out] at HP
  go_wp2_with fail
  rw [hg.out]
  refine HP.out.mono ?_
  rintro e w4 ⟨rfl, H4⟩
  clear HP hg
  have HS := Kp.mk (dep_Stale (pv := none) (fun _ => false) H4 (by simp) rfl (fun G z w hz h => by
    rw [List.mem_singleton.1 hz]
    exact fresh_nil h))
  clear H4
  go_wp2_with fail
  refine HS.out.mono ?_
  rintro e w5 ⟨v, rfl, H5⟩
  clear HS
  rw [show staleN (fun _ => false) ([l].zip [Value.pointer none]) = [l] from rfl] at H5
  obtain ⟨ga, ca, rfl, _⟩ := H5.at0 (Nat.zero_lt_one)
  have HO := Kp.mk (nil_Of w5 (.string (str l)))
  go_wp2_with fail
  refine HO.out.mono ?_
  rintro e w6 ⟨rfl, rfl⟩
  clear HO
  have HF := Kp.mk (fresh_nil (pv := none) H5)
  clear H5
  go_wp2_with fail
  refine HF.out.mono ?_
  rintro e w7 ⟨rfl, H7⟩
  clear HF
  have k0 : w7.cell? ⟨ga, 0, none⟩ = some (.string (str l)) := H7.cellR 0 _ rfl
  have HU := Kp.mk (dep_Users (fun _ => false) l H7.rot (by simp) rfl (fun z hz => .inl ⟨List.mem_singleton.1 hz, rfl⟩))
  clear H7
  have hll : (str l).toList = l := ByteArray.toList_mk l
  go_wp2_with fail
  refine HU.out.mono ?_
  rintro e w8 ⟨v8, rfl, H8⟩
  clear HU
  rw [show staleN (fun v => !(fun _ => false) v) ([l].zip [Value.pointer none]) = [] from rfl] at H8
  obtain ⟨A8, c8, rfl, _⟩ := (H8.sl (by decide)).2
  have HN := Kp.mk (note_nil H8.drop)
  clear H8
  go_wp2_with fail
  refine HN.out.mono ?_
  rintro e w9 ⟨go, rfl, H9⟩
  clear HN
  have HE := Kp.mk (fresh_empty H9)
  clear H9
  go_wp2_with fail
  refine HE.out.mono ?_
  rintro e w10 ⟨rfl, H10⟩
  clear HE
  have H10 := Kp.mk H10.drop.drop
  go_wp2
  go_ret
  exact ⟨rfl, H10.out.old⟩
theorem depNil_walk (a : ByteArray) (_ : a.size ≤ 140737488351232) (w : World) :
    Calls Try.prog 6 #[.string a] w fun e w' => e = .returned (.bool true) ∧ Below w.heap.size w w' := by
  have h := depNil_core a.data.toList w
  rwa [str_of] at h
end Go.Proofs.YtfhfinnjlihghaaSep
