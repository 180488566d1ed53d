/- Own work: the disk's leaves: slices.Clone of bytes, step, maps.Clone. -/
import Derived.Test.YtgakacingdlgpaaProg
import Derived.Test.YtgakacingdlgpaaDiskP
import Derived.Test.YtgakacingdlgpaaBig
import Derived.Test.YtgakacingdlgpaaQuiet
import Derived.Test.YtgakacingdlgpaaMore
import Derived.Test.YtgakacingdlgpaaLast
import Derived.Shelf.SlMaps.Clone
import Derived.Lib.SliceRun
namespace Go.Proofs.YtgakacingdlgpaaSep
open Go.RowKit Go.Lib Go.Proofs Go.Shelf

theorem info_u8 : (Try.prog.info? 5).map (fun i => (i.zero, i.size, i.bytes)) = some (some (.int .u8 0), 1, 1) := by kernel_rfl
set_option maxHeartbeats 1000000 in
theorem clone_bytes {W0 w : World} {R : HP} {v : Value} {l : List UInt8} (hs : Held W0 R v 1 l.length (U l)) (H : Own W0 w R) (hl : l.length ≤ 1000000000) :
    Calls Try.prog 26 #[v] w fun e w' => ∃ v', e = .returned v' ∧ Own W0 w' (R * Row 5 1 v' l.length (U l)) := by
  obtain ⟨hlc, A, c, rfl, h1, h2, h4, h3⟩ := hs.sl H
  rcases A with _ | ad
  · have hc := h4 rfl
    subst hc
    have hl0 : l = [] := List.eq_nil_of_length_eq_zero (by omega)
    subst hl0
    have HN := Kp.mk (H.nil 5 1)
    clear h1 h2 h3 h4 hlc
    have hq := fun w => run_eql_slice_nil (P := Try.prog) w 28 5 none 0 0 0 0 Try.underlying28
    go_enter Try.func26, Try.ntmps26
    go_wp2
    go_ret
    exact ⟨_, rfl, HN.out⟩
  · clear h3 h4 hlc
    have hq := fun w => run_eql_slice_nil (P := Try.prog) w 28 5 (some ad) l.length c 0 0 Try.underlying28
    have hs1 := Kp.mk (hs.sl (H.box (.cells #[] 5)))
    go_enter Try.func26, Try.ntmps26
    go_wp2_with (at_builtin; go_must (refine own_append (v := .slice (some ⟨w.heap.size, 0, none⟩) 0 0) (vx := .slice (some ad) l.length c) ((H.box (.cells #[] 5)).zero 5 1 w.heap.size 0) rfl (.tmp 5) (.tmp 6) 28 (.int .u8 0) 1 l.length (U l) rfl Try.underlying28 info_u8 rfl (by decide) rfl rfl hs1.out (U_one _) ?c2 ?c3 ?_))
    case c2 => unfold maxLen; omega
    case c3 => omega
    intro v2 w2 H2 hz2 _
    have H2 := Kp.mk H2
    go_wp2
    go_ret
    exact ⟨_, rfl, H2.out⟩
set_option maxHeartbeats 1000000 in
theorem disk_step {W0 w : World} {R : HP} {g T : Nat} {a b c d : Value} {k : Nat} (H : Own W0 w (R * Blk g (.cells #[a, b, c, d, .int .i64 0, .bool false, .int .i64 k] T))) (hk : k ≤ 1000000000) :
    Calls Try.prog 27 #[.pointer (some ⟨g, 0, none⟩)] w fun e w' => e = .returned (.int .i64 0) ∧ Own W0 w' (R * Blk g (.cells #[a, b, c, d, .int .i64 0, .bool false, .int .i64 (k + 1 : Nat)] T)) := by
  have k4 := cell_blk (j := 4) H.blk rfl
  have k6 := cell_blk (j := 6) H.blk rfl
  have f6 : w.frozen? ⟨g, 6, none⟩ = false := frz_blk H.blk
  have HS := H.set 6 (.int .i64 (k + 1 : Nat))
  have HS := Kp.mk HS
  clear H
  go_enter Try.func27, Try.ntmps27
  go_wp2
  go_ret
  exact ⟨rfl, HS.out⟩
set_option maxHeartbeats 1000000 in
theorem maps_clone {W0 w : World} {R : HP} {b : Nat} {L : AL} (H : Own W0 w (R * MapH b L)) :
    Calls Try.prog 28 #[.map (some b)] w fun e w' => ∃ b', e = .returned (.map (some b')) ∧ Own W0 w' (R * MapH b L * MapH b' L) := by
  obtain ⟨es, clock, T, hm, rfl, H2⟩ := H.map
  have hq := fun w => run_eql_map_nil_sl (P := Try.prog) w 47 _ _ (some b) Try.underlying47
  go_enter Try.func28, Try.ntmps28
  go_wp2
  rw [run_callFunc_extern Try.func32 (by kernel_rfl) (by kernel_rfl) (by kernel_rfl) (e := Extern.MapsClone.clone) (by kernel_rfl), run_maps_clone_sl w 47 H2.blk]
  simp only [Result.andThen]
  rw [Oper.upon_value]
  go_wp2
  rw [run_typeAssert_map_sl _ 47 _ _ _ _ Try.underlying47]
  simp only [Result.andThen]
  rw [Oper.upon_value]
  go_wp2
  go_ret
  exact ⟨_, rfl, ((H2.alloc _).rot.toMap hm rfl).rot.toMap hm rfl⟩
end Go.Proofs.YtgakacingdlgpaaSep
