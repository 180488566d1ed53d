/- Own work: dom.New, slices.Clone of nothing, Stack.Push, by walks. -/
import Derived.Test.YtbijlkbfndkdcaaDoorOpA
import Derived.Test.YtbijlkbfndkdcaaDoorMore
namespace Go.Proofs.YtbijlkbfndkdcaaDoorSep
open Go.RowKit Go.Lib Go.Proofs
def pageN : NodeM := ⟨1, 0, [], -1⟩
def tplT : List UInt8 := [116, 101, 109, 112, 108, 97, 116, 101]
def addF (L : List NodeM) (sp : Int) (n : List UInt8) : List NodeM := if sp = 0 ∧ n = tplT then L ++ [⟨2, 0, n, ((L.length + 1 : Nat) : Int)⟩, pageN] else L ++ [⟨2, sp, n, -1⟩]
def docO (nv : Value) : Obj := .cells #[nv, .bool false] 73
def nodeO (x : NodeM) : Obj := .cells #[.int .i64 x.k, .int .i64 x.sp, .string (str x.name), .string ⟨#[]⟩, .slice none 0 0, .string ⟨#[]⟩, .string ⟨#[]⟩, .int .i64 (-1), .slice none 0 0, .int .i64 x.inner] 65
theorem info_node : (Tryd.prog.info? 65).map (fun i => (i.zero, i.size, i.bytes)) = some (some (.agg #[.int .i64 0, .int .i64 0, .string ByteArray.empty, .string ByteArray.empty, .slice none 0 0, .string ByteArray.empty, .string ByteArray.empty, .int .i64 0, .slice none 0 0, .int .i64 0]), 10, 144) := by kernel_rfl
theorem info_int : (Tryd.prog.info? 3).map (fun i => (i.zero, i.size, i.bytes)) = some (some (.int .i64 0), 1, 8) := by kernel_rfl
theorem dom_New {W0 w : World} {R : HP} (H : Own W0 w R) :
    Calls Tryd.prog 21 #[] w fun e w' => ∃ d A c, e = .returned (.pointer (some ⟨d, 0, none⟩)) ∧ Own W0 w' (R * Row 65 10 (.slice A 1 c) 1 (nodesC [pageN]) * Blk d (docO (.slice A 1 c))) := by
  have H1 := ((H.alloc (nodeO pageN)).made (sz := 10) (cap := 1) 1 (by decide) (by decide) rfl).alloc (docO (.slice (some ⟨w.heap.size, 0, none⟩) 1 1))
  rw [World.size_alloc] at H1
  replace H1 := Kp.mk H1
  go_enter Tryd.func21, Tryd.ntmps21
  go_wp2
  go_ret
  exact ⟨_, rfl, _, _, H1.out⟩
theorem clone_attrs (w : World) :
    Calls Tryd.prog 38 #[.slice none 0 0] w fun e w' => e = .returned (.slice none 0 0) ∧ w' = w := by
  have hq := fun w => run_eql_slice_nil (P := Tryd.prog) w 38 42 none 0 0 0 0 Tryd.underlying38
  go_enter Tryd.func38, Tryd.ntmps38
  go_wp2
  go_ret
  exact ⟨rfl, rfl⟩
/-- A stack of elements. -/
def stO (d : Nat) (v : Value) : Obj := .cells #[.pointer (some ⟨d, 0, none⟩), v] 36
def IV (l : List Nat) : List Value := l.map fun (x : Nat) => Value.int .i64 (x : Int)
theorem IV_len (l : List Nat) : (IV l).length = l.length := by simp [IV]
theorem IV_one (l : List Nat) : ∀ u ∈ IV l, u.oneCell' = true := by
  intro u hu
  simp only [IV, List.mem_map] at hu
  obtain ⟨b, _, rfl⟩ := hu
  rfl
theorem stack_Push {W0 w : World} {R : HP} {s d : Nat} {v : Value} {l : List Nat} (H : Own W0 w (R * Row 3 1 v l.length (IV l) * Blk s (stO d v))) (hl : l.length ≤ 100000) (n : Nat) :
    Calls Tryd.prog 24 #[.pointer (some ⟨s, 0, none⟩), .int .i64 n] w fun e w' => e = .returned (.tuple #[]) ∧ ∃ v', Own W0 w' (R * Row 3 1 v' (l ++ [n]).length (IV (l ++ [n])) * Blk s (stO d v')) := by
  obtain ⟨_, A, c, rfl, _⟩ := (H.rot.sl (by decide))
  have k1 := cell_blk (j := 1) (v := .slice A l.length c) H.blk rfl
  have HB := (H.box (.cells #[.int .i64 (n : Int)] 3))
  have hsl : Sl (w.alloc (.cells #[.int .i64 (n : Int)] 3)) (.slice (some ⟨w.heap.size, 0, none⟩) 1 1) 1 1 [.int .i64 (n : Int)] := sl_box w #[.int .i64 (n : Int)] 3 1 1 rfl (by decide)
  replace HB := Kp.mk HB
  replace hsl := Kp.mk hsl
  clear H
  go_enter Tryd.func24, Tryd.ntmps24
  go_wp2_with (at_builtin; go_must (refine own_append (v := .slice A l.length c) (vx := .slice (some ⟨w.heap.size, 0, none⟩) 1 1) HB.out rfl (.tmp 10) (.tmp 12) 34 (.int .i64 0) 8 1 [.int .i64 (n : Int)] rfl Tryd.underlying34 info_int rfl (by decide) rfl rfl hsl.out (by simp [Value.oneCell']) ?c2 ?c3 ?_))
  case c2 => unfold maxLen; omega
  case c3 => omega
  intro v2 w2 H2 hz2 _
  obtain ⟨_, A2, c2, hv2, _⟩ := H2.sl (by decide)
  subst hv2
  have f1 := frz_blk (j := 1) (H2.focB s).blk
  have k2 := cell_blk (j := 1) (v := .slice A l.length c) (H2.focB s).blk rfl
  have H3 := Kp.mk ((H2.focB s).set 1 (.slice A2 (l.length + 1) c2))
  clear H2 HB hsl
  go_wp2
  go_end0
  refine ⟨rfl, .slice A2 (l.length + 1) c2, ?_⟩
  have e1 : IV (l ++ [n]) = IV l ++ [.int .i64 (n : Int)] := by simp [IV]
  rw [e1, List.length_append, List.length_singleton]
  exact H3.out
end Go.Proofs.YtbijlkbfndkdcaaDoorSep
