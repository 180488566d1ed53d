/- Own work: all of a table, by walks: numbers and texts. -/
import Derived.Test.YtllapldkcfhklaaDoorNAllO
namespace Go.Proofs.YtllapldkcfhklaaDoorSep
open Go.RowKit Go.Lib Go.Proofs Go.Shelf
attribute [local go_sem] Oper.semAt_some

set_option maxHeartbeats 4000000 in
theorem all1_num (W0 : World) (n : Nat) (hn : 3 ≤ n) (B g : Nat) (vk vv : Value) (K : List Int) (V : List Value) (hV : V.length = K.length) (hb : K.length ≤ 1000000) :
    Seqs W0 Fence.wide n Tryd.prog 34 #[.pointer (some ⟨B, 0, none⟩)] encNV (fun _ => emp) (NvOk K V) (fun xs => xs = K.zip V) (NvNeed B g vk vv K V) := by
  intro lp J Jx W hneed hY h0
  have hY := Kp.mk hY
  have HN := Kp.mk hneed
  obtain ⟨A, c, rfl, _⟩ := (hneed _ _ h0).keys.2
  obtain ⟨A2, c2, rfl, _⟩ := (hneed _ _ h0).vals.2
  have b0 := (hneed _ _ h0).box
  have b1 := (hneed _ _ h0).fk
  clear hneed
  refine callsIn_of_wp Tryd.func34 rfl trivial ?_ rfl
  simp only [Tryd.ntmps34, List.size_toArray, List.length_cons, List.length_nil, Nat.reduceAdd, Nat.reduceSub, Array.replicate_succ, Array.replicate_zero, List.push_toArray, List.append_toArray, List.nil_append, List.cons_append]
  gi_wp2
  gi_loopw [12] (fun v wr => ∃ k : Nat, v = .int .i64 k ∧ k ≤ K.length ∧ Kp (Own W0 wr (J ((K.zip V).take k))))
    (fun v _ => leftNV K.length v)
  case atStart => exact ⟨0, rfl, Nat.zero_le _, ⟨h0⟩⟩
  case round =>
    obtain ⟨k, rfl, hk, HO⟩ := hrel
    have hNN := HN.out _ _ HO.out
    by_cases hlt : k < K.length
    · have hzl : (K.zip V).length = K.length := by rw [List.length_zip, hV]; exact Nat.min_self _
      obtain ⟨kx, hkx⟩ : ∃ kx, K[k] = kx := ⟨_, rfl⟩
      obtain ⟨vx, hvx⟩ : ∃ vx, V[k]'(by omega) = vx := ⟨_, rfl⟩
      have hz : Kp ((K.zip V).take (k + 1) = (K.zip V).take k ++ [(kx, vx)]) := ⟨by
        have h1 : (K.zip V)[k]? = some (kx, vx) := by
          rw [List.getElem?_eq_getElem (by omega), List.getElem_zip, hkx, hvx]
        rw [List.take_add_one, h1]
        rfl⟩
      have hok : Kp (NvOk K V ((K.zip V).take k) (kx, vx)) := ⟨⟨(K.zip V).drop (k + 1), by
        have := List.take_append_drop (k + 1) (K.zip V)
        rw [hz.out, List.append_assoc] at this
        exact this.symm⟩⟩
      obtain ⟨Ak, ck, hk1, hk2⟩ := hNN.keys.at_ k hlt
      obtain ⟨Av, cv, hv1, hv2⟩ := hNN.vals.at_ k hlt
      injection hk1 with q1 q2 q3
      injection hv1 with r1 r2 r3
      subst q1 q3 r1 r3
      rw [show (IV K).getD k undef = .int .i64 kx by rw [IV, List.getD_eq_getElem?_getD, List.getElem?_map, List.getElem?_eq_getElem hlt, hkx]; rfl] at hk2
      rw [show V.getD k undef = vx by rw [List.getD_eq_getElem?_getD, List.getElem?_eq_getElem (by omega), hvx]; rfl] at hv2
      have c0 := hNN.box
      have c1 := hNN.fk
      have c3 := hNN.fv
      clear hNN b0 b1 hkx hvx
      obtain ⟨fn, tmps, assign, body, hy, hR⟩ := hY.out ((K.zip V).take k) (kx, vx) wr HO.out.emp hok.out
      rw [show encNV (kx, vx) = #[.int .i64 kx, vx] from rfl] at hy
      rw [← hz.out] at hR
      replace hR := Kp.mk hR
      gi_wp2
      refine ⟨fun _ => by omega, hR.out.mono ?_⟩
      clear hR hy
      rintro e W3 (⟨rfl, HJ⟩ | ⟨rfl, HJ⟩)
      · have HJ := Kp.mk HJ
        gi_wp2
        go_roundw
        case rel => exact ⟨k + 1, by go_num, by omega, HJ⟩
        case measure => simp [leftNV]; omega
      · have HJ := Kp.mk HJ
        gi_wp2
        refine bodyPost_ret (results_none rfl _ _ _) rfl ?_
        exact ⟨⟨_, rfl⟩, .inr ⟨_, HJ.out⟩⟩
    · obtain rfl : k = K.length := by omega
      have hg : (K.zip V).take K.length = K.zip V := List.take_of_length_le (by rw [List.length_zip]; omega)
      rw [hg] at HO
      clear hNN b0 b1 hlt
      gi_wp2
      go_end0
      exact ⟨⟨_, rfl⟩, .inl ⟨_, rfl, HO.out⟩⟩
theorem tab_All_num {W0 w : World} {R : HP} {g : Nat} (H : Own W0 w R) : Calls Tryd.prog 16 #[.pointer (some ⟨g, 0, none⟩)] w fun e w' => ∃ B, e = .returned (.func (.func 34) #[] #[.pointer (some ⟨B, 0, none⟩)]) ∧ Own W0 w' (R * Blk B (.cells #[.pointer (some ⟨g, 0, none⟩)] 29)) := by
  go_enter Tryd.func16, Tryd.ntmps16
  go_wp2
  go_ret
  exact ⟨_, rfl, H.alloc _⟩
end Go.Proofs.YtllapldkcfhklaaDoorSep
