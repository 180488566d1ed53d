/- Own work: path.part by a walk: which texts are parts. -/
import Derived.Test.YtcoaecdgodfodaaDoorPathA
import Derived.Test.YtcoaecdgodfodaaDoorQuiet
import Derived.Test.YtcoaecdgodfodaaDoorShelf
import Derived.Laws.RangeAny
namespace Go.Proofs.YtcoaecdgodfodaaDoorSep
open Go.RowKit Go.Lib Go.Proofs Go.Shelf

theorem str_at (l : List UInt8) (k : Nat) (h : k < (str l).size) : (str l)[k] = l[k]'(by rwa [str_size] at h) := by
  simp [str, ByteArray.getElem_eq_getElem_data]
theorem ok_high (l : List UInt8) (k : Nat) (h : k < l.length) (y : UInt8) (hy : l[k] = y) : okN (Utf8.decode (str l) k).1 = okN y.toNat ∧ (okN y.toNat = true → (Utf8.decode (str l) k).2 = 1) := by
  have h2 : k < (str l).size := by rwa [str_size]
  have hat : (str l)[k] = y := (str_at l k h2).trans hy
  by_cases ha : y.toNat < 128
  · rw [decode_ascii _ k h2 (by rw [hat]; exact ha), hat]
    exact ⟨rfl, fun _ => rfl⟩
  · have := decode_high (str l) k h2 (by rw [hat]; omega)
    have h3 : okN y.toNat = false := by simp [okN]; omega
    refine ⟨?_, fun h5 => by rw [h3] at h5; cases h5⟩
    rw [h3]
    simp [okN]; omega
theorem all_cut {l : List UInt8} {p : UInt8 → Bool} {k : Nat} (h : k < l.length) (hp : (l.take k).all p = true) : (l.take (k + 1)).all p = p l[k] := by
  rw [List.take_add_one, List.getElem?_eq_getElem h, List.all_append, hp]
  simp
theorem all_bad {l : List UInt8} {p : UInt8 → Bool} {k : Nat} (h : k < l.length) (hp : p l[k] = false) : l.all p = false := by
  rw [List.all_eq_false]
  exact ⟨_, List.getElem_mem h, by simp [hp]⟩
theorem ok_cases (x : Nat) : x < 45 ∨ x = 45 ∨ x = 46 ∨ x = 47 ∨ (48 ≤ x ∧ x ≤ 57) ∨ (58 ≤ x ∧ x ≤ 64) ∨ (65 ≤ x ∧ x ≤ 90) ∨ (91 ≤ x ∧ x ≤ 94) ∨ x = 95 ∨ x = 96 ∨ (97 ≤ x ∧ x ≤ 122) ∨ 123 ≤ x := by omega
theorem str_ne (a b : List UInt8) (h : a ≠ b) : ¬ (str a = str b) := fun e => h (by have := congrArg (fun s : ByteArray => s.data.toList) e; simpa [str] using this)
set_option maxHeartbeats 4000000 in
theorem path_part {W0 w : World} {R : HP} (H : Own W0 w R) (l : List UInt8) (hlen : l.length ≤ 1000) :
    Calls Tryd.prog 28 #[.string (str l)] w fun e w' => e = .returned (.bool (partF l)) ∧ Own W0 w' R := by
  have hsz : (str l).size = l.length := str_size l
  have H := Kp.mk H
  obtain ⟨b0, hb0⟩ : ∃ b, decide (l = []) = b := ⟨_, rfl⟩
  obtain ⟨b1, hb1⟩ : ∃ b, decide (l = [46]) = b := ⟨_, rfl⟩
  obtain ⟨b2, hb2⟩ : ∃ b, decide (l = [46, 46]) = b := ⟨_, rfl⟩
  have t0 : (str l).toList.isEmpty = b0 := by rw [str_toList, ← hb0]; cases l <;> simp
  have t1 : ((str l).toList == [46]) = b1 := by rw [str_toList, ← hb1, Bool.eq_iff_iff]; simp
  have t2 : ((str l).toList == [46, 46]) = b2 := by rw [str_toList, ← hb2, Bool.eq_iff_iff]; simp
  have hn : partF l = (!(b0 || b1 || b2) && l.all fun c => okN c.toNat) := by
    rw [partF, hb0, hb1, hb2]
    rfl
  clear hb0 hb1 hb2
  by_cases hb : (b0 || b1 || b2) = true
  · have e : partF l = false := by rw [hn, hb]; rfl
    rw [e]
    clear e hn hsz hlen
    go_enter Tryd.func28, Tryd.ntmps28
    rcases b0 with _ | _ <;> rcases b1 with _ | _ <;> rcases b2 with _ | _ <;> first | (cases hb; done) | skip
    all_goals
      clear hb
      go_wp2
      go_ret
      exact ⟨rfl, H.out⟩
  obtain ⟨rfl, rfl, rfl⟩ : b0 = false ∧ b1 = false ∧ b2 = false := by
    revert hb; cases b0 <;> cases b1 <;> cases b2 <;> simp
  rw [hn, show (!(false || false || false) && l.all fun c => okN c.toNat) = l.all fun c => okN c.toNat from rfl]
  clear hn hb
  replace hsz := Kp.mk hsz
  go_enter Tryd.func28, Tryd.ntmps28
  go_wp2
  go_loopw [2] (fun v wr => v = .bool false ∧ ∃ pos, wr = w.iter (str l) pos ∧ pos ≤ l.length ∧ Kp ((l.take pos).all (fun c => okN c.toNat) = true)) (fun _ wr => l.length - wr.iterPos w.heap.size)
  case atStart => exact ⟨rfl, 0, rfl, Nat.zero_le _, ⟨by simp⟩⟩
  case round =>
    obtain ⟨rfl, pos, rfl, hp, hall⟩ := hrel
    by_cases hlt : pos < l.length
    · have hnx : ∀ ty, (Instr.next (.pointer (some ⟨w.heap.size, 0, none⟩)) true ty).run Tryd.prog (w.iter (str l) pos) = _ := fun ty => run_next_any w (str l) pos ty (by rw [hsz.out]; exact hlt)
      obtain ⟨h1, h2⟩ := ok_high l pos hlt _ rfl
      obtain ⟨x, hx⟩ : ∃ x, (Utf8.decode (str l) pos).1 = x := ⟨_, rfl⟩
      obtain ⟨wd, hwd⟩ : ∃ x, (Utf8.decode (str l) pos).2 = x := ⟨_, rfl⟩
      rw [hx] at h1 hnx
      rw [hwd] at h2 hnx
      have hbad := fun hb => all_bad (p := fun c => okN c.toNat) hlt hb
      have hgood := all_cut hlt hall.out
      have hxb : x ≤ 2147483647 := by rw [← hx]; exact decode_le _ _
      rw [← h1] at hgood h2
      simp only [← h1] at hbad
      clear h1 hx hwd
      rcases ok_cases x with h | h | h | h | ⟨h, h'⟩ | ⟨h, h'⟩ | ⟨h, h'⟩ | ⟨h, h'⟩ | h | h | ⟨h, h'⟩ | h
      all_goals
        first
          | have e : okN x = false := by simp [okN]; omega
          | have e : okN x = true := by simp [okN]; omega
      all_goals
        try have p1 : decide ((97 : Int) ≤ (x : Int)) = true := decide_eq_true (by omega)
        try have p1 : decide ((97 : Int) ≤ (x : Int)) = false := decide_eq_false (by omega)
        try have p2 : decide ((x : Int) ≤ 122) = true := decide_eq_true (by omega)
        try have p2 : decide ((x : Int) ≤ 122) = false := decide_eq_false (by omega)
        try have q1 : decide ((65 : Int) ≤ (x : Int)) = true := decide_eq_true (by omega)
        try have q1 : decide ((65 : Int) ≤ (x : Int)) = false := decide_eq_false (by omega)
        try have q2 : decide ((x : Int) ≤ 90) = true := decide_eq_true (by omega)
        try have q2 : decide ((x : Int) ≤ 90) = false := decide_eq_false (by omega)
        try have p3 : decide ((48 : Int) ≤ (x : Int)) = true := decide_eq_true (by omega)
        try have p3 : decide ((48 : Int) ≤ (x : Int)) = false := decide_eq_false (by omega)
        try have p4 : decide ((x : Int) ≤ 57) = true := decide_eq_true (by omega)
        try have p4 : decide ((x : Int) ≤ 57) = false := decide_eq_false (by omega)
        try have p5 : ((x : Int) == 46) = true := by rw [beq_iff_eq]; omega
        try have p5 : ((x : Int) == 46) = false := by rw [beq_eq_false_iff_ne]; omega
        try have p6 : ((x : Int) == 45) = true := by rw [beq_iff_eq]; omega
        try have p6 : ((x : Int) == 45) = false := by rw [beq_eq_false_iff_ne]; omega
        try have p7 : ((x : Int) == 95) = true := by rw [beq_iff_eq]; omega
        try have p7 : ((x : Int) == 95) = false := by rw [beq_eq_false_iff_ne]; omega
        first
          | (have hw1 := Kp.mk (h2 e)
             rw [e] at hgood
             replace hgood := Kp.mk hgood
             clear hbad h2 e
             go_wp2
             go_roundw
             case rel => exact ⟨rfl, pos + 1, by rw [hw1.out], by omega, hgood⟩
             case measure => simp; have := hw1.out; omega)
          | (have hbad2 := Kp.mk (hbad e)
             clear hbad hgood h2 e
             go_wp2
             go_ret
             rw [hbad2.out]
             exact ⟨rfl, H.out.box _⟩)
    · have hnx : ∀ ty, (Instr.next (.pointer (some ⟨w.heap.size, 0, none⟩)) true ty).run Tryd.prog (w.iter (str l) pos) = _ := fun ty => run_next_end w (str l) pos ty (by rw [hsz.out]; exact hlt)
      obtain rfl : pos = l.length := by omega
      rw [List.take_length] at hall
      go_wp2
      go_ret
      rw [hall.out]
      exact ⟨rfl, H.out.box _⟩
theorem path_part1 {W0 w : World} {R : HP} (H : Own W0 w R) (l : List UInt8) (hlen : l.length ≤ 1000) :
    Calls Tryd.prog 27 #[.string (str l)] w fun e w' => e = .returned (.bool (!partF l)) ∧ Own W0 w' R := by
  have H := Kp.mk H
  go_enter Tryd.func27, Tryd.ntmps27
  go_wp2_with fail
  refine (path_part H.out l hlen).mono ?_
  rintro e w1 ⟨rfl, H1⟩
  replace H1 := Kp.mk H1
  go_wp2
  go_ret
  exact ⟨rfl, H1.out⟩
end Go.Proofs.YtcoaecdgodfodaaDoorSep
