/- Own work: which texts are names: the disk's Named, the law's named, by walks. -/
import Derived.Test.YtgakacingdlgpaaDiskA
import Derived.Laws.RangeAny
namespace Go.Proofs.YtgakacingdlgpaaSep
open Go.RowKit Go.Lib Go.Proofs Go.Shelf

def nmN (x : Nat) : Bool := decide (97 ≤ x ∧ x ≤ 122) || decide (48 ≤ x ∧ x ≤ 57) || decide (x = 46) || decide (x = 45)
def namedF (l : List UInt8) : Bool := decide (1 ≤ l.length ∧ l.length ≤ 80) && l.all fun c => nmN c.toNat
theorem str_at (l : List UInt8) (k : Nat) (h : k < (str l).size) : (str l)[k] = l[k]'(by rwa [str_size] at h) := by
  simp [str, ByteArray.getElem_eq_getElem_data]
theorem str_high (l : List UInt8) (k : Nat) (h : k < l.length) (y : UInt8) (hy : l[k] = y) : nmN (Utf8.decode (str l) k).1 = nmN y.toNat ∧ (nmN y.toNat = true → (Utf8.decode (str l) k).2 = 1) := by
  have h2 : k < (str l).size := by rwa [str_size]
  have hat : (str l)[k] = y := (str_at l k h2).trans hy
  by_cases ha : y.toNat < 128
  · rw [decode_ascii _ k h2 (by rw [hat]; exact ha), hat]
    exact ⟨rfl, fun _ => rfl⟩
  · have := decode_high (str l) k h2 (by rw [hat]; omega)
    have h3 : nmN y.toNat = false := by simp [nmN]; omega
    refine ⟨?_, fun h5 => by rw [h3] at h5; cases h5⟩
    rw [h3]
    simp [nmN]; omega
theorem all_cut {l : List UInt8} {p : UInt8 → Bool} {k : Nat} (h : k < l.length) (hp : (l.take k).all p = true) : (l.take (k + 1)).all p = p l[k] := by
  rw [List.take_add_one, List.getElem?_eq_getElem h, List.all_append, hp]
  simp
theorem all_bad {l : List UInt8} {p : UInt8 → Bool} {k : Nat} (h : k < l.length) (hp : p l[k] = false) : l.all p = false := by
  rw [List.all_eq_false]
  exact ⟨_, List.getElem_mem h, by simp [hp]⟩
theorem nm_cases (x : Nat) : x < 45 ∨ x = 45 ∨ x = 46 ∨ x = 47 ∨ (48 ≤ x ∧ x ≤ 57) ∨ (58 ≤ x ∧ x ≤ 96) ∨ (97 ≤ x ∧ x ≤ 122) ∨ 123 ≤ x := by omega
set_option maxHeartbeats 4000000 in
theorem disk_Named {W0 w : World} {R : HP} (H : Own W0 w R) (l : List UInt8) :
    Calls Try.prog 11 #[.string (str l)] w fun e w' => e = .returned (.bool (namedF l)) ∧ Own W0 w' R := by
  have hsz : (str l).size = l.length := str_size l
  have H := Kp.mk H
  by_cases h0 : l.length = 0
  · have hn : namedF l = false := by simp [namedF]; omega
    rw [hn]
    rw [h0] at hsz
    clear h0 hn
    go_enter Try.func11, Try.ntmps11
    go_wp2
    go_ret
    exact ⟨rfl, H.out⟩
  by_cases h8 : 80 < l.length
  · have hn : namedF l = false := by rw [namedF, show decide (1 ≤ l.length ∧ l.length ≤ 80) = false from decide_eq_false (fun h => by omega), Bool.false_and]
    rw [hn]
    have t1 : decide (((str l).size : Int) = 0) = false := decide_eq_false (by omega)
    have t1' : (((str l).size : Int) == 0) = false := by rw [beq_eq_false_iff_ne]; omega
    have t3 : ¬ (str l = ByteArray.empty) := fun e => by rw [e] at hsz; change 0 = l.length at hsz; omega
    have t2 : decide ((80 : Int) < ((str l).size : Int)) = true := decide_eq_true (by omega)
    have t2' : decide (80 < (str l).size) = true := decide_eq_true (by omega)
    clear h0 hn hsz h8
    go_enter Try.func11, Try.ntmps11
    go_wp2
    go_ret
    exact ⟨rfl, H.out⟩
  have hlen : l.length ≤ 80 := by omega
  have hn : namedF l = l.all fun c => nmN c.toNat := by
    rw [namedF, show decide (1 ≤ l.length ∧ l.length ≤ 80) = true from decide_eq_true ⟨by omega, by omega⟩, Bool.true_and]
  rw [hn]
  have t1 : decide (((str l).size : Int) = 0) = false := decide_eq_false (by omega)
  have t1' : (((str l).size : Int) == 0) = false := by rw [beq_eq_false_iff_ne]; omega
  have t3 : ¬ (str l = ByteArray.empty) := fun e => by rw [e] at hsz; change 0 = l.length at hsz; omega
  have t2 : decide ((80 : Int) < ((str l).size : Int)) = false := decide_eq_false (by omega)
  have t2' : decide (80 < (str l).size) = false := decide_eq_false (by omega)
  clear hn h0 h8
  replace hsz := Kp.mk hsz
  go_enter Try.func11, Try.ntmps11
  go_wp2
  go_loopw [2] (fun v wr => v = .bool false ∧ ∃ pos, wr = w.iter (str l) pos ∧ pos ≤ l.length ∧ Kp ((l.take pos).all (fun c => nmN c.toNat) = true)) (fun _ wr => l.length - wr.iterPos w.heap.size)
  case atStart => exact ⟨rfl, 0, rfl, Nat.zero_le _, ⟨by simp⟩⟩
  case round =>
    obtain ⟨rfl, pos, rfl, hp, hall⟩ := hrel
    by_cases hlt : pos < l.length
    · have hnx : ∀ ty, (Instr.next (.pointer (some ⟨w.heap.size, 0, none⟩)) true ty).run Try.prog (w.iter (str l) pos) = _ := fun ty => run_next_any w (str l) pos ty (by rw [hsz.out]; exact hlt)
      obtain ⟨h1, h2⟩ := str_high l pos hlt _ rfl
      obtain ⟨x, hx⟩ : ∃ x, (Utf8.decode (str l) pos).1 = x := ⟨_, rfl⟩
      obtain ⟨wd, hwd⟩ : ∃ x, (Utf8.decode (str l) pos).2 = x := ⟨_, rfl⟩
      rw [hx] at h1 hnx
      rw [hwd] at h2 hnx
      have hbad := fun hb => all_bad (p := fun c => nmN c.toNat) hlt hb
      have hgood := all_cut hlt hall.out
      have hxb : x ≤ 2147483647 := by rw [← hx]; exact decode_le _ _
      rw [← h1] at hgood h2
      simp only [← h1] at hbad
      clear h1 hx hwd
      have hN : Kp (nmN x = true ∨ nmN x = false) := ⟨by cases nmN x <;> simp⟩
      rcases nm_cases x with h | h | h | h | ⟨h, h'⟩ | ⟨h, h'⟩ | ⟨h, h'⟩ | h
      case' inl => have e : nmN x = false := by simp [nmN]; omega
      case' inr.inl => have e : nmN x = true := by simp [nmN]; omega
      case' inr.inr.inl => have e : nmN x = true := by simp [nmN]; omega
      case' inr.inr.inr.inl => have e : nmN x = false := by simp [nmN]; omega
      case' inr.inr.inr.inr.inl => have e : nmN x = true := by simp [nmN]; omega
      case' inr.inr.inr.inr.inr.inl => have e : nmN x = false := by simp [nmN]; omega
      case' inr.inr.inr.inr.inr.inr.inl => have e : nmN x = true := by simp [nmN]; omega
      case' inr.inr.inr.inr.inr.inr.inr => have e : nmN x = false := by simp [nmN]; omega
      all_goals
        try have p1 : decide ((97 : Int) ≤ (x : Int)) = true := decide_eq_true (by omega)
        try have p1 : decide ((97 : Int) ≤ (x : Int)) = false := decide_eq_false (by omega)
        try have p2 : decide ((x : Int) ≤ 122) = true := decide_eq_true (by omega)
        try have p2 : decide ((x : Int) ≤ 122) = false := decide_eq_false (by omega)
        try have p3 : decide ((48 : Int) ≤ (x : Int)) = true := decide_eq_true (by omega)
        try have p3 : decide ((48 : Int) ≤ (x : Int)) = false := decide_eq_false (by omega)
        try have p4 : decide ((x : Int) ≤ 57) = true := decide_eq_true (by omega)
        try have p4 : decide ((x : Int) ≤ 57) = false := decide_eq_false (by omega)
        try have p5 : ((x : Int) == 46) = true := by rw [beq_iff_eq]; omega
        try have p5 : ((x : Int) == 46) = false := by rw [beq_eq_false_iff_ne]; omega
        try have p6 : ((x : Int) == 45) = true := by rw [beq_iff_eq]; omega
        try have p6 : ((x : Int) == 45) = false := by rw [beq_eq_false_iff_ne]; omega
        first
          | (have hw1 := Kp.mk (h2 e)
             rw [e] at hgood
             replace hgood := Kp.mk hgood
             clear hbad h2 hN e
             go_wp2
             go_roundw
             case rel => exact ⟨rfl, pos + 1, by rw [hw1.out], by omega, hgood⟩
             case measure => simp; have := hw1.out; omega)
          | (have hbad2 := Kp.mk (hbad e)
             clear hbad hgood h2 hN e
             go_wp2
             go_ret
             rw [hbad2.out]
             exact ⟨rfl, H.out.box _⟩)
    · have hnx : ∀ ty, (Instr.next (.pointer (some ⟨w.heap.size, 0, none⟩)) true ty).run Try.prog (w.iter (str l) pos) = _ := fun ty => run_next_end w (str l) pos ty (by rw [hsz.out]; exact hlt)
      obtain rfl : pos = l.length := by omega
      rw [List.take_length] at hall
      go_wp2
      go_ret
      rw [hall.out]
      exact ⟨rfl, H.out.box _⟩
set_option maxHeartbeats 4000000 in
theorem law_named {W0 w : World} {R : HP} (H : Own W0 w R) (l : List UInt8) :
    Calls Try.prog 12 #[.string (str l)] w fun e w' => e = .returned (.bool (namedF l)) ∧ Own W0 w' R := by
  have hsz : (str l).size = l.length := str_size l
  have H := Kp.mk H
  by_cases h0 : l.length < 1
  · have hn : namedF l = false := by simp [namedF]; omega
    rw [hn]
    have t1 : decide (((str l).size : Int) < 1) = true := decide_eq_true (by omega)
    have t1' : decide ((str l).size < 1) = true := decide_eq_true (by omega)
    clear h0 hn hsz
    go_enter Try.func12, Try.ntmps12
    go_wp2
    go_ret
    exact ⟨rfl, H.out⟩
  have t1 : decide (((str l).size : Int) < 1) = false := decide_eq_false (by omega)
  have t1' : decide ((str l).size < 1) = false := decide_eq_false (by omega)
  by_cases h8 : 80 < l.length
  · have hn : namedF l = false := by rw [namedF, show decide (1 ≤ l.length ∧ l.length ≤ 80) = false from decide_eq_false (fun h => by omega), Bool.false_and]
    rw [hn]
    have t2 : decide ((80 : Int) < ((str l).size : Int)) = true := decide_eq_true (by omega)
    have t2' : decide (80 < (str l).size) = true := decide_eq_true (by omega)
    clear h0 hn hsz h8
    go_enter Try.func12, Try.ntmps12
    go_wp2
    go_ret
    exact ⟨rfl, H.out⟩
  have hlen : l.length ≤ 80 := by omega
  have hn : namedF l = l.all fun c => nmN c.toNat := by
    rw [namedF, show decide (1 ≤ l.length ∧ l.length ≤ 80) = true from decide_eq_true ⟨by omega, by omega⟩, Bool.true_and]
  rw [hn]
  have t2 : decide ((80 : Int) < ((str l).size : Int)) = false := decide_eq_false (by omega)
  have t2' : decide (80 < (str l).size) = false := decide_eq_false (by omega)
  clear hn h0 h8
  replace hsz := Kp.mk hsz
  go_enter Try.func12, Try.ntmps12
  go_wp2
  go_loopg [3] l.length (fun gk v wr => ∃ pos : Nat, v = .int .i64 pos ∧ wr = w ∧ pos ≤ l.length ∧ Kp (gk + pos = l.length) ∧ Kp ((l.take pos).all (fun c => nmN c.toNat) = true))
  case atStart => exact ⟨0, rfl, rfl, Nat.zero_le _, ⟨by omega⟩, ⟨by simp⟩⟩
  case round =>
    obtain ⟨pos, rfl, rfl, hp, hgk, hall⟩ := hrel
    by_cases hlt : pos < l.length
    · have u1 : decide ((pos : Int) < ((str l).size : Int)) = true := decide_eq_true (by rw [hsz.out]; omega)
      have u1' : pos < (str l).size := by rw [hsz.out]; exact hlt
      have hat := str_at l pos u1'
      generalize hy : l[pos]'hlt = y at hat
      have hbad : nmN y.toNat = false → (l.all fun c => nmN c.toNat) = false := fun hb => all_bad (p := fun c => nmN c.toNat) hlt (by show nmN (l[pos]'hlt).toNat = false; rw [hy]; exact hb)
      have hgood : (l.take (pos + 1)).all (fun c => nmN c.toNat) = nmN y.toNat := (all_cut hlt hall.out).trans (by show nmN (l[pos]'hlt).toNat = _; rw [hy])
      clear hy
      obtain ⟨x, hx⟩ : ∃ x, y.toNat = x := ⟨_, rfl⟩
      have hxb : x < 256 := by rw [← hx]; exact y.toNat_lt
      rw [hx] at hbad hgood
      rcases nm_cases x with h | h | h | h | ⟨h, h'⟩ | ⟨h, h'⟩ | ⟨h, h'⟩ | h
      case' inl => have e : nmN x = false := by simp [nmN]; omega
      case' inr.inl => have e : nmN x = true := by simp [nmN]; omega
      case' inr.inr.inl => have e : nmN x = true := by simp [nmN]; omega
      case' inr.inr.inr.inl => have e : nmN x = false := by simp [nmN]; omega
      case' inr.inr.inr.inr.inl => have e : nmN x = true := by simp [nmN]; omega
      case' inr.inr.inr.inr.inr.inl => have e : nmN x = false := by simp [nmN]; omega
      case' inr.inr.inr.inr.inr.inr.inl => have e : nmN x = true := by simp [nmN]; omega
      case' inr.inr.inr.inr.inr.inr.inr => have e : nmN x = false := by simp [nmN]; omega
      all_goals
        try have p1 : decide ((97 : Int) ≤ (x : Int)) = true := decide_eq_true (by omega)
        try have p1 : decide ((97 : Int) ≤ (x : Int)) = false := decide_eq_false (by omega)
        try have p2 : decide ((x : Int) ≤ 122) = true := decide_eq_true (by omega)
        try have p2 : decide ((x : Int) ≤ 122) = false := decide_eq_false (by omega)
        try have p3 : decide ((48 : Int) ≤ (x : Int)) = true := decide_eq_true (by omega)
        try have p3 : decide ((48 : Int) ≤ (x : Int)) = false := decide_eq_false (by omega)
        try have p4 : decide ((x : Int) ≤ 57) = true := decide_eq_true (by omega)
        try have p4 : decide ((x : Int) ≤ 57) = false := decide_eq_false (by omega)
        try have p5 : ((x : Int) == 46) = true := by rw [beq_iff_eq]; omega
        try have p5 : ((x : Int) == 46) = false := by rw [beq_eq_false_iff_ne]; omega
        try have p7 : ((x : Int) != 46) = true := by rw [bne_iff_ne]; omega
        try have p7 : ((x : Int) != 46) = false := by rw [bne_eq_false_iff_eq]; omega
        try have p6 : ((x : Int) == 45) = true := by rw [beq_iff_eq]; omega
        try have p6 : ((x : Int) == 45) = false := by rw [beq_eq_false_iff_ne]; omega
        try have p8 : ((x : Int) != 45) = true := by rw [bne_iff_ne]; omega
        try have p8 : ((x : Int) != 45) = false := by rw [bne_eq_false_iff_eq]; omega
        first
          | (rw [e] at hgood
             replace hgood := Kp.mk hgood
             clear hbad e
             go_wp2
             go_roundg (l.length - (pos + 1))
             case rel => exact ⟨pos + 1, by go_num, rfl, by omega, ⟨by omega⟩, hgood⟩
             case measure => have := hgk.out; omega)
          | (have hbad2 := Kp.mk (hbad e)
             clear hbad hgood e
             go_wp2
             go_ret
             rw [hbad2.out]
             exact ⟨rfl, H.out⟩)
    · have u1 : decide ((pos : Int) < ((str l).size : Int)) = false := decide_eq_false (by rw [hsz.out]; omega)
      have u1' : ¬ pos < (str l).size := by rw [hsz.out]; exact hlt
      obtain rfl : pos = l.length := by omega
      rw [List.take_length] at hall
      go_wp2
      go_ret
      rw [hall.out]
      exact ⟨rfl, H.out⟩
end Go.Proofs.YtgakacingdlgpaaSep
