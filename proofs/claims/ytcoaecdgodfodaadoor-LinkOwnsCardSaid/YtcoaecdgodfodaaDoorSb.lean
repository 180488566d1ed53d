/- Own work: strings.Builder over what is owned, by walks. -/
import Derived.Test.YtcoaecdgodfodaaDoorQuiet
import Derived.Test.YtcoaecdgodfodaaDoorStr
import Derived.Test.YtcoaecdgodfodaaDoorProg
import Derived.Lib.Builder
import Derived.Lib.UnsafeStr
import Derived.Laws.CopyRow
import Derived.Laws.Externs
import Derived.Shelf.RegionOpenPlain
namespace Go.Proofs.YtcoaecdgodfodaaDoorSep
open Go.RowKit Go.Lib Go.Proofs

section
variable {P : Program} {W0 w : World} {R : HP} {e n : Nat} {v : Value} {cs : List Value}
/-- 'append(v, ""...)'. -/
theorem run_append_empty (t u ty : TypeId) (ht : P.underlying t = some (.slice e)) (hu : P.underlying u = some .string) (hinfo : (P.info? e).map (fun i => (i.zero, i.size, i.bytes)) = some (some (.int .u8 0), 1, 1))
    (H : Own W0 w (R * Row e 1 v n cs)) (hv : n = 0 → v = .slice none 0 0) : (Builtin.append_ #[t, u] ty #[v, .string ⟨#[]⟩]).run P w = .ok v w := by
  obtain ⟨i, hi, hzz⟩ := Option.map_eq_some_iff.1 hinfo
  simp only [Prod.mk.injEq] at hzz
  obtain ⟨hz0, hz1, hz2⟩ := hzz
  have hf := run_firstCells_string (P := P) w 1 ⟨#[]⟩
  have hm : (⟨#[]⟩ : ByteArray).size = 0 := rfl
  rw [hm] at hf
  rcases Nat.eq_zero_or_pos n with h0 | h0
  · rw [hv h0]
    simp [Builtin.append_, run_underlying ht, run_underlying hu, sizeOf, typeInfo, hi, hz1, Builtin.lenOf, hm, hf]
  · rcases H.split with HB | ⟨⟨h1, _, _⟩, _⟩
    · obtain ⟨hl, hr⟩ := HB.row
      rcases hr with ⟨_, h1⟩ | ⟨g, cap, cur, rfl, _, hg, hnc, hcm, hcs, htake⟩
      · omega
      · have := run_append_room_string (P := P) w t u ty e i ht hu hi hz1 g n cap cur hg ⟨#[]⟩ (by rw [hm]; omega) (by omega)
        rw [this, hm]
        have hs : strCells ⟨#[]⟩ = [] := rfl
        rw [hs, List.append_nil, Nat.add_zero, List.take_append_drop, Array.toArray_toList, setRow_self w g cur e (0, 0) hg]
    · omega
end
theorem own_append_eq {P : Program} {w w' : World} {ops : Array Oper} {rest : List Oper} {o : Oper} {a : Act} {Q : Exit → Act → World → Prop} {v vx v' : Value} (hgd : o.guard = none) (s x : Operand) (t u : TypeId)
    (ho : o.op = .call { callee := .builtin .append, args := #[s, x], argTypes := #[t, u] }) (hs : a.eval s = v) (hx : a.eval x = vx) (hr : (Builtin.append_ #[t, u] o.type #[v, vx]).run P w = .ok v' w')
    (h : wpList P ops Q rest (a.put o.dst v') w') : wpList P ops Q (o :: rest) a w := by
  refine wpList_plain hgd fun K hK => ?_
  unfold Oper.wp execOp
  simp only [ho, resolve, invoke, builtin, Sem.run_bind, Sem.run_pure, Result.andThen_ok, List.map_toArray, List.map_cons, List.map_nil, hs, hx, hr]
  exact hK _ _ h
theorem sb_info_u8 : (Tryd.prog.info? 5).map (fun i => (i.zero, i.size, i.bytes)) = some (some (.int .u8 0), 1, 1) := by kernel_rfl
/-- A builder that holds bytes. -/
def sbO (p vb : Value) : Obj := .cells #[p, vb] 60
def sbP (g : Nat) (p : Value) : Prop := p = .pointer none ∨ p = .pointer (some ⟨g, 0, none⟩)
def SbAt (W0 w : World) (R : HP) (g : Nat) (l : List UInt8) : Prop := ∃ p vb, sbP g p ∧ (l.length = 0 → vb = .slice none 0 0) ∧ Own W0 w (R * Row 5 1 vb l.length (U l) * Blk g (sbO p vb))
theorem sb_new {W0 w : World} {R : HP} (H : Own W0 w R) : SbAt W0 (w.alloc (sbO (.pointer none) (.slice none 0 0))) R w.heap.size [] :=
  ⟨_, _, .inl rfl, fun _ => rfl, (H.nil 5 1).alloc _⟩
theorem SbAt.drop {W0 w : World} {R : HP} {g : Nat} {l : List UInt8} (h : SbAt W0 w R g l) : Own W0 w R := by
  obtain ⟨p, vb, _, _, H⟩ := h
  exact H.drop.drop
set_option maxHeartbeats 1000000 in
theorem sb_check {W0 w : World} {R : HP} {g : Nat} {p vb : Value} (H : Own W0 w (R * Blk g (sbO p vb))) (hp : sbP g p) :
    Calls Tryd.prog 53 #[.pointer (some ⟨g, 0, none⟩)] w fun e w' => e = .returned (.tuple #[]) ∧ Own W0 w' (R * Blk g (sbO (.pointer (some ⟨g, 0, none⟩)) vb)) := by
  unfold sbO at *
  have c0 := cell_blk (j := 0) (v := p) H.blk rfl
  have z0 : w.frozen? ⟨g, 0, none⟩ = false := frz_blk H.blk
  have hsh : w.shape? g = some (60, 2) := by simp [World.shape?, H.blk]
  have HS : Own W0 (w.setCell ⟨g, 0, none⟩ (.pointer (some ⟨g, 0, none⟩))) (R * Blk g (.cells #[.pointer (some ⟨g, 0, none⟩), vb] 60)) := H.set 0 (.pointer (some ⟨g, 0, none⟩))
  obtain ⟨j, hj, hjs⟩ : ∃ j, Tryd.prog.info? 60 = some j ∧ j.size = 2 := Option.map_eq_some_iff.1 (show (Tryd.prog.info? 60).map (·.size) = some 2 by kernel_rfl)
  have hc1 := Lib.run_to_unsafe (src := 58) (dst := 72) w ⟨g, 0, none⟩ Tryd.underlying58 Tryd.underlying72 hj (by rw [hjs]; decide) hsh (show 0 < 2 by omega)
  have hc2 := Lib.run_from_unsafe (src := 72) (dst := 58) w ⟨g, 0, none⟩ Tryd.underlying72 Tryd.underlying58 hj hsh (by kernel_rfl)
  have hne := Lib.run_neq_ptr_same (P := Tryd.prog) (w := w) (tp := 58) ⟨g, 0, none⟩ Tryd.underlying58 hj
  have hex := run_callFunc_extern Tryd.func60 (by kernel_rfl) (by kernel_rfl) (by kernel_rfl) (e := Extern.AbiNoEscape.same) (by kernel_rfl) #[.pointer (some ⟨g, 0, none⟩)] w
  rw [Lib.run_noEscape] at hex
  have H := Kp.mk H
  have HS := Kp.mk HS
  clear hj
  rcases hp with rfl | rfl
  · go_enter Tryd.func53, Tryd.ntmps53
    go_wp2
    go_end0
    exact ⟨rfl, HS.out⟩
  · go_enter Tryd.func53, Tryd.ntmps53
    go_wp2
    go_end0
    exact ⟨rfl, H.out⟩
set_option maxHeartbeats 2000000 in
theorem sb_write {W0 w : World} {R : HP} {g : Nat} {l : List UInt8} (H : SbAt W0 w R g l) (s : ByteArray) (hs : l.length + s.size ≤ 140737488355328) :
    Calls Tryd.prog 44 #[.pointer (some ⟨g, 0, none⟩), .string s] w fun e w' => e = .returned (.tuple #[.int .i64 (s.size : Int), .nilIface]) ∧ SbAt W0 w' R g (l ++ s.data.toList) := by
  obtain ⟨p, vb, hp, hv, H⟩ := H
  obtain ⟨A, cc, rfl, _⟩ := (H.rot.sl (by decide)).2
  have HC := Kp.mk (sb_check H hp)
  have hv := Kp.mk hv
  unfold sbO at HC
  go_enter Tryd.func44, Tryd.ntmps44
  go_wp2_with fail
  refine HC.out.mono ?_
  rintro e w1 ⟨rfl, H1⟩
  have c1 := cell_blk (j := 1) (v := .slice A l.length cc) H1.blk rfl
  have H1 := Kp.mk H1
  clear HC
  by_cases h0 : s.size = 0
  · have hse : s = ⟨#[]⟩ := by
      cases s with
      | mk d =>
        have : d = #[] := Array.eq_empty_of_size_eq_zero h0
        rw [this]
    subst hse
    have z1 : w1.frozen? ⟨g, 1, none⟩ = false := frz_blk H1.out.blk
    have hap := run_append_empty 47 9 47 Tryd.underlying47 Tryd.underlying9 sb_info_u8 H1.out.drop hv.out
    have hz : (⟨#[]⟩ : ByteArray).size = 0 := rfl
    have H2 : Own W0 (w1.setCell ⟨g, 1, none⟩ (.slice A l.length cc)) (R * Row 5 1 (.slice A l.length cc) l.length (U l) * Blk g (.cells #[.pointer (some ⟨g, 0, none⟩), .slice A l.length cc] 60)) := H1.out.set 1 _
    have H2 := Kp.mk H2
    have hap := Kp.mk hap
    clear H1
    go_wp2_with (at_builtin; go_must (refine own_append_eq rfl (.tmp 12) (.tmp 13) 47 9 rfl rfl rfl hap.out ?_))
    go_ret2
    refine ⟨rfl, ?_⟩
    exact ⟨_, _, .inr rfl, hv.out, H2.out⟩
  · go_wp2_with (at_builtin; go_must (refine own_append_str (v := .slice A l.length cc) H1.out rfl (.tmp 12) (.tmp 13) 47 9 s rfl Tryd.underlying47 Tryd.underlying9 sb_info_u8 rfl rfl ?c1 ?_))
    case c1 => exact hs
    intro v2 w2 H2 hz2 _
    rw [U_str, ← U_append] at H2
    obtain ⟨A2, cc2, rfl, _⟩ := (H2.sl (by decide)).2
    have H2 := H2.rot
    have c1' := cell_blk (j := 1) (v := .slice A l.length cc) H2.blk rfl
    have z1 : w2.frozen? ⟨g, 1, none⟩ = false := frz_blk H2.blk
    have H3 : Own W0 (w2.setCell ⟨g, 1, none⟩ (.slice A2 (l.length + s.size) cc2)) (R * Row 5 1 (.slice A2 (l.length + s.size) cc2) (l.length + s.size) (U (l ++ s.data.toList)) * Blk g (.cells #[.pointer (some ⟨g, 0, none⟩), .slice A2 (l.length + s.size) cc2] 60)) := H2.set 1 _
    have H3 := Kp.mk H3
    clear H1 H2
    go_wp2
    go_ret2
    refine ⟨rfl, .pointer (some ⟨g, 0, none⟩), .slice A2 (l.length + s.size) cc2, .inr rfl, fun h => ?_, ?_⟩
    · rw [List.length_append, data_length] at h; omega
    · rw [List.length_append, data_length]; exact H3.out
set_option maxHeartbeats 2000000 in
theorem sb_string {W0 w : World} {R : HP} {g : Nat} {l : List UInt8} (H : SbAt W0 w R g l) (hl : l.length ≤ 140737488355328) :
    Calls Tryd.prog 45 #[.pointer (some ⟨g, 0, none⟩)] w fun e w' => e = .returned (.string (str l)) ∧ Own W0 w' R := by
  obtain ⟨p, vb, hp, hv, H⟩ := H
  unfold sbO at H
  rcases Nat.eq_zero_or_pos l.length with h0 | h0
  · obtain rfl : l = [] := List.eq_nil_of_length_eq_zero h0
    rw [hv rfl] at H
    have c1 := cell_blk (j := 1) (v := .slice none 0 0) H.drew.blk rfl
    have c1' := cell_blk (j := 1) (v := .slice none 0 0) H.blk rfl
    have hUS := fun w => Lib.run_unsafeString_none (P := Tryd.prog) w 67 3 9 none
    have hSD : (Builtin.unsafeSliceData_ #[47] 67 #[.slice none 0 0]).run Tryd.prog w.drew = .ok (.pointer none) w.drew := rfl
    have HR := Kp.mk H.drop.drop
    clear H
    have mixed : Tryd.prog.follows .mixedOrders = true := by kernel_rfl
    go_enter Tryd.func45, Tryd.ntmps45
    go_wp2
    go_region_o
    all_goals (go_wp2; go_ret; exact ⟨rfl, HR.out.drew⟩)
  · rcases H.rot.split with HB | ⟨⟨h1, _, _⟩, _⟩
    rotate_left
    · omega
    obtain ⟨hlen, hr⟩ := HB.row
    rcases hr with ⟨_, h1⟩ | ⟨q, cap, cur, rfl, _, hg, hnc, hcm, hcs, htake⟩
    · omega
    have c1 := cell_blk (j := 1) (v := .slice (some ⟨q, 0, none⟩) l.length cap) H.drew.blk rfl
    have c1' := cell_blk (j := 1) (v := .slice (some ⟨q, 0, none⟩) l.length cap) H.blk rfl
    have hSD : (Builtin.unsafeSliceData_ #[47] 67 #[.slice (some ⟨q, 0, none⟩) l.length cap]).run Tryd.prog w.drew = .ok (.pointer (some ⟨q, 0, none⟩)) w.drew :=
      Lib.run_unsafeSliceData_row _ _ _ _ _ _ (by omega)
    have hUS : (Builtin.unsafeString_ #[67, 3] 9 #[.pointer (some ⟨q, 0, none⟩), .int .i64 l.length]).run Tryd.prog w.drew = .ok (.string ⟨l.toArray⟩) (w.drew.freeze ⟨q, 0, none⟩ l.length) := by
      refine Lib.run_unsafeString_row w.drew _ _ _ 5 Tryd.underlying67 (by kernel_rfl) q cur.size (by have hg' : w.drew.heap[q]? = some (.cells cur 5 (0, 0)) := hg; simp [World.shape?, hg']) l (by rintro rfl; simp at h0) (by omega) (by omega) ?_
      intro j x hx
      have := HB.row.cells (g := q) rfl j (.int .u8 x.toNat) (by simp [U, hx])
      exact this
    have HR : Own W0 (w.drew.freeze ⟨q, 0, none⟩ l.length) R := by
      obtain ⟨ha, ⟨_, hA⟩, hsa, hf⟩ := HB.drew.frame
      have hone : ∀ k, k ≠ q → ha k = none := by
        rcases hA with ⟨h, _, _⟩ | ⟨g2, cap2, cur2, h, h2, _⟩
        · cases h
        · injection h with h3 _ _
          injection h3 with h3
          injection h3 with h3 _ _
          subst h3
          intro k hk
          rw [h2, one, if_neg hk]
      have hq : ha q ≠ none := by
        rcases hA with ⟨h, _, _⟩ | ⟨g2, cap2, cur2, h, h2, _⟩
        · cases h
        · injection h with h3 _ _
          injection h3 with h3
          injection h3 with h3 _ _
          subst h3
          rw [h2, one, if_pos rfl]
          simp
      refine Own.drop (Own.drop (P := R * Blk g (.cells #[p, .slice (some ⟨q, 0, none⟩) l.length cap] 60)) (A := emp) ?_)
      refine hf _ (fun _ => none) emp (fun _ => rfl) (fun k o h => by cases h) (fun k o h1 h2 => ?_) (fun k h => absurd rfl h) ?_ ?_ ?_
      · have hkq : k ≠ q := fun e => hq (e ▸ h2)
        unfold World.freeze
        rw [if_neg (by omega)]
        simp only [Array.getElem?_modify]
        rw [if_neg (fun e => hkq e.symm)]
        exact h1
      · unfold World.freeze; rw [if_neg (by omega)]
      · unfold World.freeze; rw [if_neg (by omega)]
      · unfold World.freeze; rw [if_neg (by omega)]
    have HR := Kp.mk HR
    clear H HB hlen hg htake hv hp
    have mixed : Tryd.prog.follows .mixedOrders = true := by kernel_rfl
    go_enter Tryd.func45, Tryd.ntmps45
    go_wp2
    go_region_o
    all_goals (go_wp2; go_ret; exact ⟨rfl, HR.out⟩)
end Go.Proofs.YtcoaecdgodfodaaDoorSep
