/- Own work: nil tables: whatever is asked of one. -/
import Derived.Test.YtllapldkcfhklaaDoorAllO
import Derived.Test.YtllapldkcfhklaaDoorQuiet
namespace Go.Proofs.YtllapldkcfhklaaDoorSep
open Go.RowKit Go.Lib Go.Proofs Go.Shelf
attribute [local go_sem] Oper.semAt_some

theorem tnil_Get (w : World) (s : Value) : Calls Tryd.prog 18 #[.pointer none, s] w fun e w' => e = .returned (.tuple #[.int .i64 0, .bool false]) ∧ w' = w := by
  go_enter Tryd.func18, Tryd.ntmps18
  go_wp2
  go_ret2
  exact ⟨rfl, rfl⟩
theorem tnil_Put (w : World) (s v : Value) : Calls Tryd.prog 17 #[.pointer none, s, v] w fun e w' => e = .returned (.bool false) ∧ w' = w := by
  go_enter Tryd.func17, Tryd.ntmps17
  go_wp2
  go_ret
  exact ⟨rfl, rfl⟩
theorem tnil_Drop (w : World) (s : Value) : Calls Tryd.prog 19 #[.pointer none, s] w fun e w' => e = .returned (.bool false) ∧ w' = w := by
  go_enter Tryd.func19, Tryd.ntmps19
  go_wp2
  go_ret
  exact ⟨rfl, rfl⟩
theorem tnil_Len (w : World) : Calls Tryd.prog 21 #[.pointer none] w fun e w' => e = .returned (.int .i64 0) ∧ w' = w := by
  go_enter Tryd.func21, Tryd.ntmps21
  go_wp2
  go_ret
  exact ⟨rfl, rfl⟩
theorem tnil_Clone (w : World) : Calls Tryd.prog 20 #[.pointer none] w fun e w' => e = .returned (.pointer none) ∧ w' = w := by
  go_enter Tryd.func20, Tryd.ntmps20
  go_wp2
  go_ret
  exact ⟨rfl, rfl⟩
theorem tnil_Keys (w : World) : Calls Tryd.prog 23 #[.pointer none] w fun e w' => e = .returned (.slice none 0 0) ∧ w' = w := by
  go_enter Tryd.func23, Tryd.ntmps23
  go_wp2
  go_ret
  exact ⟨rfl, rfl⟩
theorem allnil_int {W0 w : World} {R : HP} (H : Own W0 w R) : Calls Tryd.prog 22 #[.pointer none] w fun e w' => ∃ B, e = .returned (.func (.func 40) #[] #[.pointer (some ⟨B, 0, none⟩)]) ∧ Own W0 w' (R * Blk B (.cells #[.pointer none] 39)) := by
  go_enter Tryd.func22, Tryd.ntmps22
  go_wp2
  go_ret
  exact ⟨_, rfl, H.alloc _⟩
/-- The iterator of a nil table hands nothing. -/
theorem all1_nil_int (W0 : World) (n : Nat) (B : Nat) :
    Seqs W0 Fence.wide n Tryd.prog 40 #[.pointer (some ⟨B, 0, none⟩)] encKV (fun _ => emp) (fun _ _ => False) (fun xs => xs = []) (fun W => W.cell? ⟨B, 0, none⟩ = some (.pointer none)) := by
  intro lp J Jx W hneed hY h0
  have b0 := hneed _ _ h0
  have h0 := Kp.mk h0
  clear hneed hY
  refine callsIn_of_wp Tryd.func40 rfl trivial ?_ rfl
  simp only [Tryd.ntmps40, List.size_toArray, List.length_cons, List.length_nil, Nat.reduceAdd, Nat.reduceSub, Array.replicate_succ, Array.replicate_zero, List.push_toArray, List.append_toArray, List.nil_append, List.cons_append]
  gi_wp2
  refine bodyPost_ret (results_none rfl _ _ _) rfl ?_
  exact ⟨⟨_, rfl⟩, .inl h0.out⟩
end Go.Proofs.YtllapldkcfhklaaDoorSep
