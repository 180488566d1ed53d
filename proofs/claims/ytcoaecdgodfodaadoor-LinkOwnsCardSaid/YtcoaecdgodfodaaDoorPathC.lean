/- Own work: strings.Split over what is owned; path.Right, Hidden, Page, Dir by walks. -/
import Derived.Test.YtcoaecdgodfodaaDoorPathB
import Derived.Test.YtcoaecdgodfodaaDoorSV
namespace Go.Proofs.YtcoaecdgodfodaaDoorSep
open Go.RowKit Go.Lib Go.Proofs Go.Shelf

/-- The cell that the library's search reads stands. -/
def MaxL (W0 : World) (R : HP) (m : Int) : Prop := ∀ w, Own W0 w R → w.cell? ⟨0, 0, none⟩ = some (.int .i64 m)
theorem MaxL.more {W0 : World} {R Y : HP} {m : Int} (h : MaxL W0 R m) : MaxL W0 (R * Y) m := fun w H => h w H.drop
theorem path_Split {W0 w : World} {R : HP} {m : Int} (hm : MaxL W0 R m) (H : Own W0 w R) (l : List UInt8) (hl : l.length ≤ 100000) :
    Calls Tryd.prog 25 #[.string (str l), .string ⟨#[47]⟩] w fun e w' => ∃ v, e = .returned v ∧ Own W0 w' (R * Row 9 1 v (splitF l).length (SV (splitF l))) := by
  refine (Tryd.strings_Split (str l) ⟨#[47]⟩ m w (by rw [str_size]; omega) (hm w H) (by decide)).mono ?_
  rintro e w1 ⟨rfl, rfl⟩
  have hlen := splitF_len l
  have hB := splitB_F l
  have e47 : str [47] = ⟨#[47]⟩ := rfl
  rw [e47] at hlen hB
  rw [hB, ← hlen, List.map_map]
  have h2 := partsGo_len l []
  have e2 : ((splitF l).map (Value.string ∘ str)).toArray.toList = SV (splitF l) := by rw [SV]; rfl
  have h3 := (H.alloc (.cells ((splitF l).map (Value.string ∘ str)).toArray 9)).made (sz := 1) (cap := (splitF l).length) (splitF l).length (Nat.le_refl _) (by unfold maxLen; change (partsGo [] l).length ≤ _; omega) (by simp)
  rw [e2, Nat.mul_one, List.take_of_length_le (by rw [SV_length]; exact Nat.le_refl _)] at h3
  exact ⟨_, rfl, h3⟩
theorem SV_get (L : List (List UInt8)) (k : Nat) (h : k < L.length) (p : List UInt8) (hp : L[k] = p) : (SV L).getD k undef = .string (str p) := by
  rw [SV, List.getD_eq_getElem?_getD, List.getElem?_map, List.getElem?_eq_getElem h, hp]; rfl
theorem any_cut {α : Type} {l : List α} {p : α → Bool} {k : Nat} (h : k < l.length) (hp : (l.take k).any p = false) : (l.take (k + 1)).any p = p l[k] := by
  rw [List.take_add_one, List.getElem?_eq_getElem h, List.any_append, hp]
  simp
theorem any_hit {α : Type} {l : List α} {p : α → Bool} {k : Nat} (h : k < l.length) (hp : p l[k] = true) : l.any p = true := by
  rw [List.any_eq_true]
  exact ⟨_, List.getElem_mem h, hp⟩
set_option maxHeartbeats 4000000 in
theorem path_IndexFunc {W0 w : World} {R : HP} {v : Value} (L : List (List UInt8)) (hL : L.length ≤ 100000) (hp : ∀ p ∈ L, p.length ≤ 1000) (H : Own W0 w (R * Row 9 1 v L.length (SV L))) :
    Calls Tryd.prog 42 #[v, .func (.func 27) #[] #[]] w fun e w' => ∃ r : Int, e = .returned (.int .i64 r) ∧ decide (0 ≤ r) = L.any (fun p => !partF p) ∧ Own W0 w' (R * Row 9 1 v L.length (SV L)) := by
  obtain ⟨_, A, c, rfl, _⟩ := H.sl (by decide)
  have H := Kp.mk H
  go_enter Tryd.func42, Tryd.ntmps42
  go_wp2
  go_loopg [8] L.length (fun gk v wr => ∃ pos : Nat, v = .int .i64 pos ∧ pos ≤ L.length ∧ Kp (gk + pos = L.length) ∧ Kp ((L.take pos).any (fun p => !partF p) = false) ∧ Kp (Own W0 wr (R * Row 9 1 (.slice A L.length c) L.length (SV L))))
  case atStart => exact ⟨0, rfl, Nat.zero_le _, ⟨by omega⟩, ⟨by simp⟩, H⟩
  case round =>
    obtain ⟨pos, rfl, hpos, hgk, hany, HO⟩ := hrel
    by_cases hlt : pos < L.length
    · obtain ⟨p, hpp⟩ : ∃ p, L[pos] = p := ⟨_, rfl⟩
      obtain ⟨Ak, ck, hk1, hk2⟩ := (HO.out.sl (by decide)).at_ pos hlt
      injection hk1 with q1 q2 q3
      subst q1 q3
      rw [SV_get L pos hlt p hpp] at hk2
      have hple : p.length ≤ 1000 := hp p (hpp ▸ List.getElem_mem hlt)
      have hcut := any_cut (p := fun p => !partF p) hlt hany.out
      have hhit := any_hit (p := fun p => !partF p) hlt
      rw [hpp] at hcut hhit
      generalize hq : partF p = q at hcut hhit
      replace hq := Kp.mk hq
      replace hcut := Kp.mk hcut
      replace hhit := Kp.mk hhit
      replace hp := Kp.mk hp
      clear hpp
      go_wp2_with fail
      refine (path_part1 HO.out p hple).mono ?_
      rintro e w1 ⟨rfl, H1⟩
      rw [hq.out]
      replace H1 := Kp.mk H1
      rcases q with _ | _
      · go_wp2
        go_ret
        exact ⟨pos, rfl, by rw [hhit.out rfl]; exact decide_eq_true (by omega), H1.out⟩
      · go_wp2
        go_roundg (L.length - (pos + 1))
        case rel => exact ⟨pos + 1, by go_num, by omega, ⟨by omega⟩, hcut, H1⟩
        case measure => have := hgk.out; omega
    · obtain rfl : pos = L.length := by omega
      rw [List.take_length] at hany
      go_wp2
      go_ret
      exact ⟨-1, rfl, by rw [hany.out]; rfl, HO.out⟩
theorem path_ContainsFunc {W0 w : World} {R : HP} {v : Value} (L : List (List UInt8)) (hL : L.length ≤ 100000) (hp : ∀ p ∈ L, p.length ≤ 1000) (H : Own W0 w (R * Row 9 1 v L.length (SV L))) :
    Calls Tryd.prog 26 #[v, .func (.func 27) #[] #[]] w fun e w' => e = .returned (.bool (L.any (fun p => !partF p))) ∧ Own W0 w' (R * Row 9 1 v L.length (SV L)) := by
  replace H := Kp.mk H
  replace hp := Kp.mk hp
  go_enter Tryd.func26, Tryd.ntmps26
  go_wp2_with fail
  refine (path_IndexFunc L hL hp.out H.out).mono ?_
  rintro e w1 ⟨r, rfl, hr, H1⟩
  replace H1 := Kp.mk H1
  obtain ⟨q, hq⟩ : ∃ q, L.any (fun p => !partF p) = q := ⟨_, rfl⟩
  rw [hq] at hr
  replace hq := Kp.mk hq
  go_wp2
  go_ret
  exact ⟨by rw [hq.out]; rfl, H1.out⟩
end Go.Proofs.YtcoaecdgodfodaaDoorSep
