/- Own work: a disk's names, in order. -/
import Derived.Test.YtgakacingdlgpaaDiskK
import Derived.Test.YtgakacingdlgpaaIter
import Derived.TacticsInMore
namespace Go.Proofs
open Go.RowKit Go.Maps Go.Sort Go.Shelf
theorem Try.sorts30 (m : Nat) : AnyZ.SortsIn Try.prog Try.sorted30_ren Fence.wide m :=
  ⟨fun blk off cap ss W hH hblk hsz => callsIn_wide.2 (AnyM.slices_Sort_string Try.sort34 blk off cap ss W hH hblk hsz),
   fun p cap W => callsIn_wide.2 (AnyM.slices_Sort_string_none Try.sort34 p cap W)⟩

theorem Try.maps_Keys_31 (mb : Option Nat) (W : World) : CallsIn Fence.wide 5 Try.prog 31 #[.map mb] W fun e w' => e = .returned (.func (.func 35) #[] #[.pointer (some ⟨W.heap.size, 0, none⟩)]) ∧ w' = W.alloc (.cells #[.map mb] 47) :=
  AnyZ.keys_in Try.keys31 Fence.wide 5 trivial rfl mb W

set_option maxHeartbeats 1000000 in
theorem Try.slices_Sorted_keys_30_31 {H : Type} (b nn : Nat) (D0 : DataW H) (R : Value → Option (DataW H × List MemPlace)) (w : World) (hown : w.ownsMap Try.prog 9 R b nn D0) (hmax : Maps.size D0 ≤ maxLen) (hbytes : Maps.size D0 * 16 ≤ 140737488355328) :
    CallsIn Fence.wide 5 Try.prog 30 #[.func (.func 35) #[] #[.pointer (some ⟨w.heap.size, 0, none⟩)]] (w.alloc (.cells #[.map (some b)] 47)) fun e w' => ∃ (v : Value) (ss : List (List UInt8)), e = .returned v ∧ ss.Perm (strKeys D0) ∧
      w'.ownsRow (w.alloc (.cells #[.map (some b)] 47)).heap.size 9 1 v ss.length ((ss.mergeSort (fun x y => decide (x ≤ y))).map encStr) ∧ (v = .slice none 0 0 ↔ ss = []) ∧ Below (w.alloc (.cells #[.map (some b)] 47)).heap.size (w.alloc (.cells #[.map (some b)] 47)) w' := by
  have hbl := hown.lt
  have hseq : SeqGives Fence.wide 2 Try.prog 35 #[.pointer (some ⟨w.heap.size, 0, none⟩)] encStr (fun ss => ss.Perm (strKeys D0)) (Maps.size D0) (w.alloc (.cells #[.map (some b)] 47)) :=
    AnyZ.keys_gives (ρ := Try.keys31_ren) { Try.keys31 with } Fence.wide _ trivial rfl (by omega) w.heap.size b nn D0 _ (by simp) (by simp) (by
      obtain ⟨es, clock, hb, Ft, hs, hD⟩ := hown
      exact ⟨es, clock, (Below.heap_alloc _ _ b hbl).trans hb, Ft, hs, hD⟩)
  exact AnyZ.sorted_in Try.sorted30 Fence.wide 5 trivial trivial trivial trivial rfl (by omega) (Try.sorts30 _) (enters_of Try.func34 (by kernel_rfl) rfl) 35 #[.pointer (some ⟨w.heap.size, 0, none⟩)] trivial (enters_of Try.func35 (by kernel_rfl) rfl) _ _ hmax hbytes _ hseq

end Go.Proofs
namespace Go.Proofs.YtgakacingdlgpaaSep
open Go.RowKit Go.Lib Go.Proofs Go.Shelf Go.ChangeShapes Go.WideShapes Go.Maps Go.Sort Go.WideElems

def Rt : Value → Option (DataW Unit × List MemPlace) := fun _ => some (.lit (.bool true), [])
/-- A map's keys, as names. -/
def keysF (F : FL) : List (List UInt8) := F.map (·.1)
def namesF (F : FL) : List (List UInt8) := (keysF F).mergeSort leB
theorem lex_trans (a b c : List UInt8) (h1 : leB a b = true) (h2 : leB b c = true) : leB a c = true := decide_eq_true (List.le_trans (of_decide_eq_true h1) (of_decide_eq_true h2))
theorem lex_total (a b : List UInt8) : (leB a b || leB b a) = true := by
  rcases List.le_total a b with h | h
  · rw [show leB a b = true from decide_eq_true h]; rfl
  · rw [show leB b a = true from decide_eq_true h, Bool.or_true]
theorem sort_perm {a b : List (List UInt8)} (h : a.Perm b) : a.mergeSort leB = b.mergeSort leB := by
  have h1 := List.pairwise_mergeSort (le := leB) lex_trans lex_total a
  have h2 := List.pairwise_mergeSort (le := leB) lex_trans lex_total b
  have h3 : (a.mergeSort leB).Perm (b.mergeSort leB) := (List.mergeSort_perm a leB).trans (h.trans (List.mergeSort_perm b leB).symm)
  exact h3.eq_of_pairwise (fun x y _ _ h4 h5 => List.le_antisymm (of_decide_eq_true h4) (of_decide_eq_true h5)) h1 h2
section
variable {W0 w : World} {R : HP} {b : Nat} {L : AL}
theorem Own.ownsM (H : Own W0 w (R * MapH b L)) (hl : L.length ≤ 1000000) (hk : ∀ p ∈ L, p.1.length ≤ 1000000) :
    ∃ D : DataW Unit, w.ownsMap Try.prog 9 Rt b L.length D ∧ Maps.size D = L.length ∧ (strKeys D).Perm (L.map (·.1)) := by
  obtain ⟨es, clock, T, hm, rfl, H2⟩ := H.map
  have hrd : ∀ t ∈ T, WideElems.rd Try.prog 9 Rt (mkE t) = some (.string t.1.1, .lit (.bool true)) := by
    intro t ht
    have h1 := hk t.1 (List.mem_map.2 ⟨t, ht, rfl⟩)
    have h2 : keyOf Try.prog 9 (.string (str t.1.1)) = some (.string t.1.1) := by
      have h3 : (str t.1.1).size ≤ maxLen := by rw [str_size]; unfold maxLen; omega
      simp only [keyOf, Try.underlying9, mapKey]
      rw [if_pos h3]
      simp [str]
    show ((keyOf Try.prog 9 (.string (str t.1.1))).bind fun key => (Rt t.1.2).map fun y => (key, y.1)) = _
    rw [h2]
    rfl
  have hsz : es.size = T.length := by
    have := congrArg List.length hm.eq
    rwa [List.length_map, Array.length_toList] at this
  have hborn : es.toList.map (·.born) = T.map (·.2) := by rw [hm.eq, List.map_map]; rfl
  have hkey : es.toList.map (·.key) = T.map (fun t => Value.string (str t.1.1)) := by rw [hm.eq, List.map_map]; rfl
  have hF : Fit Try.prog 9 Rt es clock := by
    refine ⟨?_, ⟨?_, ?_, ?_⟩, ?_⟩
    · rw [hsz]; rw [List.length_map] at hl; unfold maxLen; omega
    · intro x hx
      rw [hm.eq] at hx
      obtain ⟨t, ht, rfl⟩ := List.mem_map.1 hx
      exact hm.lt t ht
    · rw [hborn]; exact hm.born
    · rw [hkey]
      have h1 := hm.keys
      unfold KeysA at h1
      rw [List.map_map] at h1
      refine List.pairwise_map.2 ((List.pairwise_map.1 h1).imp fun {x y} hne he => hne ?_)
      injection he with he
      exact str_inj.1 he
    · intro x hx
      rw [hm.eq] at hx
      obtain ⟨t, ht, rfl⟩ := List.mem_map.1 hx
      exact ⟨_, hrd t ht⟩
  have hrg : es.toList.map (rg Try.prog 9 Rt) = T.map fun t => (Lit.string t.1.1, (DataW.lit (.bool true) : DataW Unit)) := by
    rw [hm.eq, List.map_map]
    refine List.map_congr_left fun t ht => ?_
    show rg Try.prog 9 Rt (mkE t) = _
    rw [rg, hrd t ht]
    rfl
  refine ⟨_, ⟨es, clock, H2.blk, hF, ?_, rfl⟩, ?_, ?_⟩
  · rw [hsz, List.length_map]; exact Nat.le_refl _
  · rw [Maps.size_eq, length_sorted, List.length_map, Array.length_toList, hsz, List.length_map]
  · have h1 := (sorted_perm (es.toList.map (rg Try.prog 9 Rt))).map (fun p => strOf p.1)
    refine h1.trans ?_
    rw [hrg, List.map_map, List.map_map]
    exact List.Perm.of_eq (List.map_congr_left fun t _ => rfl)
theorem Own.newRow {e sz n base : Nat} {v : Value} {cs : List Value} {w' : World} (H : Own W0 w R) (hb : Below base w w') (hbase : base = w.heap.size) (hr : w'.ownsRow base e sz v n cs) : Own W0 w' (R * Row e sz v n cs) := by
  subst hbase
  refine Own.row_step (H.nilB e sz) ⟨hb.os, hb.tape, hb.output, hb.size, fun k hk _ => hb.block k hk⟩ hr (fun k hk => .inr ?_)
  rcases hr.2 with ⟨rfl, _⟩ | ⟨g, cap, cur, rfl, hg, _⟩
  · simp [Value.ownBlock] at hk
  · simp [Value.ownBlock] at hk
    omega
variable {g : Nat} {s : Dk}
set_option maxHeartbeats 4000000 in
theorem disk_Names (H : Own W0 w (R * DskH g s)) (hl : s.now.length ≤ 1000000) (hk : ∀ p ∈ s.now, p.1.length ≤ 1000000) :
    Calls Try.prog 18 #[.pointer (some ⟨g, 0, none⟩)] w fun e w' => ∃ v, e = .returned v ∧ Own W0 w' (R * DskH g s * Row 9 1 v (namesF s.now).length (NV (namesF s.now))) := by
  have c5 := H.dskCell.2.2
  obtain ⟨G, bn, bs, L1, L2, vw, cs, h1, h2, h3, h4, h⟩ := H.dsk
  unfold DskB at h
  simp only [← star_assoc] at h
  have c1 := cell_blk (j := 1) h.blk rfl
  have hkeys : L1.map (·.1) = keysF s.now := by
    have : ∀ {L : AL} {F : FL}, FRel G L F → L.map (·.1) = F.map (·.1) := by
      intro L
      induction L with
      | nil => intro F h; cases F with
        | nil => rfl
        | cons _ _ => exact h.elim
      | cons p L ih => intro F h; cases F with
        | nil => exact h.elim
        | cons q F => rw [List.map_cons, List.map_cons, h.1, ih h.2.2]
    exact this h2
  obtain ⟨D, hD, hDs, hDk⟩ := (h.foc (MapH bn L1)).ownsM (by rw [h2.len]; exact hl) (fun p hp => by
    have : p.1 ∈ keysF s.now := by rw [← hkeys]; exact List.mem_map.2 ⟨p, hp, rfl⟩
    obtain ⟨q, hq, he⟩ := List.mem_map.1 this
    rw [← he]
    exact hk q hq)
  rw [hkeys] at hDk
  have hLn : L1.length ≤ 1000000 := by rw [h2.len]; exact hl
  have HH := Kp.mk H
  replace hDk := Kp.mk hDk
  have hS := Kp.mk (Try.slices_Sorted_keys_30_31 bn L1.length D Rt w hD (by rw [hDs]; unfold maxLen; omega) (by rw [hDs]; omega))
  clear h h1 h2 h3 h4 hkeys hD hDs H hl hk
  refine (callsIn_wide (n := 6)).1 ?_
  refine callsIn_of_wp Try.func18 rfl trivial ?_ rfl
  simp only [Try.ntmps18, List.size_toArray, List.length_cons, List.length_nil, Nat.reduceAdd, Nat.reduceSub, Array.replicate_succ, Array.replicate_zero, List.push_toArray, List.append_toArray, List.nil_append, List.cons_append]
  gi_wp2_with fail
  refine ⟨trivial, (Try.maps_Keys_31 _ _).mono ?_⟩
  rintro e w1 ⟨rfl, rfl⟩
  gi_wp2_with fail
  refine ⟨trivial, hS.out.mono ?_⟩
  rintro e w2 ⟨v, ss, rfl, hP, hrow, hnil, hb⟩
  have hss : ss.mergeSort (fun x y => decide (x ≤ y)) = namesF s.now := sort_perm (hP.trans hDk.out)
  have hlen : ss.length = (namesF s.now).length := by rw [← hss, List.length_mergeSort]
  rw [hss, hlen] at hrow
  have HE := Kp.mk (Own.newRow (HH.out.box _) hb rfl hrow)
  clear hrow hnil hb hP
  gi_wp2
  go_ret
  exact ⟨v, rfl, HE.out⟩
end
end Go.Proofs.YtgakacingdlgpaaSep
