/- Own work: OpenAlike: the walk (printed by wip/genAlike.py). -/
import Derived.Test.YtbijlkbfndkdcaaDoorOfH
import Derived.Test.YtbijlkbfndkdcaaDoorOpU
namespace Go.Proofs.YtbijlkbfndkdcaaDoorSep
open Go.RowKit Go.Lib Go.Proofs
theorem str_app (a b : List UInt8) : str a ++ str b = str (a ++ b) := by
  rw [← str_of (str a ++ str b), ByteArray.data_append, Array.toList_append, str_data, str_data]
theorem FormsH.base {W0 w : World} {R : HP} {g : Nat} {fv : Value} {fs : List FormM} (H : Own W0 w (FormsH R g fv fs)) : Own W0 w R := (show Own W0 w (R * _ * _) from H).drop.drop
theorem held_none {W0 w : World} {R : HP} {g : Nat} {fv : Value} (_ : Own W0 w (FormsH R g fv [])) : HeldFs W0 R [] := fun _ hf => absurd hf (List.not_mem_nil)
theorem own_left {W0 w : World} {A X : HP} (H : Own W0 w (X * A)) : Own W0 w A := (H.eq (star_comm _ _)).drop
theorem fv_three {a b c : FormM} (h1 : ∃ x y z, a.av = .slice x y z) (h2 : ∃ x y z, b.av = .slice x y z) (h3 : ∃ x y z, c.av = .slice x y z) : FvH [a, b, c] := fun f hf => by
  simp only [List.mem_cons, List.not_mem_nil, or_false] at hf
  rcases hf with rfl | rfl | rfl <;> assumption
theorem fv_four {a b c d : FormM} (h1 : ∃ x y z, a.av = .slice x y z) (h2 : FvH [b, c, d]) : FvH [a, b, c, d] := fun f hf => by
  rcases List.mem_cons.1 hf with rfl | h
  · exact h1
  · exact h2 f h
theorem fv_five {a b c d e : FormM} (h1 : ∃ x y z, a.av = .slice x y z) (h2 : FvH [b, c, d, e]) : FvH [a, b, c, d, e] := fun f hf => by
  rcases List.mem_cons.1 hf with rfl | h
  · exact h1
  · exact h2 f h
theorem FormsH.fresh {W0 w : World} {R : HP} (H : Own W0 w R) : Own W0 (w.alloc (formsO (.slice none 0 0))) (FormsH R w.heap.size (.slice none 0 0) []) := (H.nil 55 11).alloc (formsO (.slice none 0 0))
def turnB (b : Nat) (v : List UInt8) : HP := Blk b (.cells #[.string ⟨#[98]⟩, .string ⟨#[99]⟩, .string ⟨#[97]⟩, .string (str v)] 42)
theorem add_turn {W0 w : World} {R : HP} {g b8 : Nat} {fv : Value} {fs : List FormM} (H : Own W0 w (FormsH R g fv fs)) (hl : fs.length ≤ 1000) (HF : HeldFs W0 R fs) (i : Int) (nm v : List UInt8) (hB : Held W0 R (.slice (some ⟨b8, 0, none⟩) 2 2) 2 2 (attrC (tagT v))) :
    Calls Tryd.prog 15 #[.pointer (some ⟨g, 0, none⟩), .int .i64 i, .agg #[.int .i64 2, .string (str nm), .slice (some ⟨b8, 0, none⟩) 2 2, .bool false, .string ⟨#[]⟩, .string ⟨#[]⟩, .string ⟨#[]⟩, .bool false, .bool false, .bool false]] w fun e w' => e = .returned (.tuple #[]) ∧ ∃ fv', Own W0 w' (FormsH R g fv' (formAdd fs (xT i nm b8 v))) :=
  forms_Add H hl HF (xT i nm b8 v) (fun f hf => by rw [List.mem_singleton.1 hf]; exact ⟨hB, Nat.le_of_ble_eq_true rfl, rfl⟩)
theorem held_turn {W0 : World} {R : HP} {b8 : Nat} (i : Int) (nm v : List UInt8) (hB : Held W0 R (.slice (some ⟨b8, 0, none⟩) 2 2) 2 2 (attrC (tagT v))) : HeldFs W0 R [xT i nm b8 v] := fun f hf => by
  rw [List.mem_singleton.1 hf]
  exact ⟨hB, Nat.le_of_ble_eq_true rfl, rfl⟩
theorem mark_call {W0 w : World} {R : HP} {g : Nat} {fv : Value} {fs : List FormM} (H : Own W0 w (FormsH R g fv fs)) (hl : fs.length ≤ 1000) :
    Calls Tryd.prog 16 #[.pointer (some ⟨g, 0, none⟩)] w fun e w' => e = .returned (.tuple #[]) ∧ ∃ fv', Own W0 w' (FormsH R g fv' (fs ++ [markM])) := forms_Mark H hl
/-- What lies ahead of the law's lists. -/
def AlikeH (W : World) (gn b8 g8 : Nat) (nm v : List UInt8) : HP := Old W * Blk gn (.cells #[.string (str nm)] 9) * turnB b8 v * Blk g8 (.cells #[.int .i64 2, .string (str nm), .slice (some ⟨b8, 0, none⟩) 2 2, .bool false, .string ⟨#[]⟩, .string ⟨#[]⟩, .string ⟨#[]⟩, .bool false, .bool false, .bool false] 40)
set_option maxRecDepth 100000 in
set_option maxHeartbeats 8000000 in
theorem openAlike_core (nm v ot : List UInt8) (w : World) (h1 : nm.length ≤ 20) (h2 : v.length ≤ 20) (h3 : ot.length ≤ 20) (u : Value) (hU : Usual w (Old w) u) :
    Calls Tryd.prog 4 #[.string (str nm), .string (str v), .string (str ot)] w fun e w' => e = .returned (.bool true) ∧ Below w.heap.size w w' := by
  have z1 : (str nm).size = nm.length := str_size nm
  have z2 : (str v).size = v.length := str_size v
  have z3 : (str ot).size = ot.length := str_size ot
  have t1 : decide ((20 : Int) < ((str nm).size : Int)) = false := decide_eq_false (by omega)
  have t1' : ¬ 20 < (str nm).size := by omega
  have t2 : decide ((20 : Int) < ((str v).size : Int)) = false := decide_eq_false (by omega)
  have t2' : ¬ 20 < (str v).size := by omega
  have t3 : decide ((20 : Int) < ((str ot).size : Int)) = false := decide_eq_false (by omega)
  have t3' : ¬ 20 < (str ot).size := by omega
  have hxs : (ByteArray.mk #[120]).size = 1 := rfl
  obtain ⟨v1, hv1⟩ : ∃ v1, v ++ [120] = v1 := ⟨_, rfl⟩
  obtain ⟨V, hV⟩ : ∃ V, v1 ++ ot = V := ⟨_, rfl⟩
  have hap1 : str v ++ ByteArray.mk #[120] = str v1 := by rw [← hv1]; exact str_app v [120]
  have hap2 : str v1 ++ str ot = str V := by rw [← hV]; exact str_app v1 ot
  have z4 : (str v1).size = v.length + 1 := by rw [str_size, ← hv1]; simp
  have n1 : ¬ 9223372036854775807 < (str v).size + 1 := by omega
  have n2 : ¬ 9223372036854775807 < (str v1).size + (str ot).size := by omega
  have hne : V ≠ v := fun h => by have := congrArg List.length h; rw [← hV, ← hv1] at this; simp at this
  clear hv1 hV
  have H0 := (own_start w).alloc (.cells #[.string (str nm)] 9)
  have HH := Kp.mk (law_head hU.more H0)
  obtain ⟨gn, hgn⟩ : ∃ gn, w.heap.size = gn := ⟨_, rfl⟩
  rw [hgn] at HH
  replace hgn := Kp.mk hgn
  clear H0 hU h1 h2 h3
  replace z1 := Kp.mk z1
  replace z2 := Kp.mk z2
  replace z3 := Kp.mk z3
  replace z4 := Kp.mk z4
  replace hne := Kp.mk hne
  replace hap1 := Kp.mk hap1
  replace hap2 := Kp.mk hap2
  go_enter Tryd.func4, Tryd.ntmps4
  go_wp2_with fail
  refine HH.out.mono ?_
  rintro e w1 ⟨rfl, H1⟩
  have kn : w1.cell? ⟨gn, 0, none⟩ = some (.string (str nm)) := cell_blk H1.blk rfl
  have H2 := (H1.alloc (.cells #[.string ⟨#[98]⟩, .string ⟨#[99]⟩, .string ⟨#[97]⟩, .string (str v)] 42))
  obtain ⟨b8, hb8⟩ : ∃ b8, Kp (w1.heap.size = b8) := ⟨_, ⟨rfl⟩⟩
  rw [hb8.out] at H2
  have H3 := H2.alloc (.cells #[.int .i64 2, .string (str nm), .slice (some ⟨b8, 0, none⟩) 2 2, .bool false, .string ⟨#[]⟩, .string ⟨#[]⟩, .string ⟨#[]⟩, .bool false, .bool false, .bool false] 40)
  rw [World.size_alloc, hb8.out] at H3
  replace H3 : Own w _ (AlikeH w gn b8 (b8 + 1) nm v) := H3
  have H4 := FormsH.fresh H3
  rw [World.size_alloc, World.size_alloc, hb8.out] at H4
  unfold formsO at H4
  rw [hgn.out]
  obtain ⟨R0, hR0⟩ : ∃ R0, R0 = AlikeH w gn b8 (b8 + 1) nm v := ⟨_, rfl⟩
  rw [← hR0] at H4
  have hNm : Kp (∀ w9, Own w w9 R0 → w9.cell? ⟨gn, 0, none⟩ = some (.string (str nm))) := ⟨fun w9 h => by rw [hR0] at h; exact cell_blk (show Own w w9 (Old w * Blk gn (.cells #[.string (str nm)] 9) * _ * _) from h).drop.drop.blk rfl⟩
  have hTk : Kp (∀ w9, Own w w9 R0 → w9.heap[b8 + 1]? = some (.cells #[.int .i64 2, .string (str nm), .slice (some ⟨b8, 0, none⟩) 2 2, .bool false, .string ⟨#[]⟩, .string ⟨#[]⟩, .string ⟨#[]⟩, .bool false, .bool false, .bool false] 40)) := ⟨fun w9 h => by rw [hR0] at h; exact (show Own w w9 (Old w * _ * _ * Blk (b8 + 1) (.cells #[.int .i64 2, .string (str nm), .slice (some ⟨b8, 0, none⟩) 2 2, .bool false, .string ⟨#[]⟩, .string ⟨#[]⟩, .string ⟨#[]⟩, .bool false, .bool false, .bool false] 40)) from h).blk⟩
  have hB8 : Kp (Held w R0 (.slice (some ⟨b8, 0, none⟩) 2 2) 2 2 (attrC (tagT v))) := ⟨fun w9 h => by rw [hR0] at h; exact held_blk (sz := 2) (m := 2) (by decide) rfl (by decide) w9 (show Own w w9 (Old w * _ * turnB b8 v * _) from h).drop⟩
  have hOld : Kp (∀ w9, Own w w9 R0 → Below w.heap.size w w9) := ⟨fun w9 h => by rw [hR0] at h; exact (show Own w w9 (Old w * _ * _ * _) from h).drop.drop.drop.old⟩
  have HF0 : HeldFs w R0 [] := fun f hf => absurd hf (List.not_mem_nil)
  have hS0 : ∀ w9, Own w w9 R0 → Own w w9 R0 := fun w9 h => h
  clear H1 H2 H3 HH hR0
  replace H4 := Kp.mk H4
  go_upto_region 8 with fail
  rw [hb8.out]
  clear kn
  generalize ((w1.alloc (.cells #[.string ⟨#[98]⟩, .string ⟨#[99]⟩, .string ⟨#[97]⟩, .string (str v)] 42)).alloc (.cells #[.int .i64 2, .string (str nm), .slice (some ⟨b8, 0, none⟩) 2 2, .bool false, .string ⟨#[]⟩, .string ⟨#[]⟩, .string ⟨#[]⟩, .bool false, .bool false, .bool false] 40)).alloc (.cells #[.slice none 0 0] 45) = w2 at H4 ⊢

  have HT1 := Kp.mk (law_tag H4.out nm v (fun w9 h => hNm.out w9 (hS0 w9 (FormsH.base h))))
  go_wp2_with fail
  refine HT1.out.mono ?_
  rintro e wt1 ⟨b1_, rfl, Ht1⟩
  have HA1 := add_tag Ht1 (Nat.le_of_ble_eq_true rfl) HF0 1 nm
  rw [add_1] at HA1
  have HF1 := HeldFs.add (HeldFs.more (Y := tagB b1_ v) HF0) (held_tag 1 nm b1_ v)
  rw [add_1] at HF1
  have hS1 := fun w9 (h : Own w w9 (_ * tagB b1_ v)) => hS0 w9 h.drop
  replace HA1 := Kp.mk HA1
  clear HT1 H4 HF0
  go_wp2_with fail
  refine HA1.out.mono ?_
  rintro e wa1 ⟨rfl, fv1, Hk1⟩
  clear HA1 Ht1
  have H1n := Kp.mk Hk1
  clear Hk1
  have hk2 := hTk.out _ (hS1 _ (FormsH.base H1n.out))
  have c2_0 := cell_blk (j := 0) hk2 rfl
  have c2_1 := cell_blk (j := 1) hk2 rfl
  have c2_2 := cell_blk (j := 2) hk2 rfl
  have c2_3 := cell_blk (j := 3) hk2 rfl
  have c2_4 := cell_blk (j := 4) hk2 rfl
  have c2_5 := cell_blk (j := 5) hk2 rfl
  have c2_6 := cell_blk (j := 6) hk2 rfl
  have c2_7 := cell_blk (j := 7) hk2 rfl
  have c2_8 := cell_blk (j := 8) hk2 rfl
  have c2_9 := cell_blk (j := 9) hk2 rfl
  have HA2 := add_turn H1n.out (Nat.le_of_ble_eq_true rfl) HF1 2 nm v (fun w9 h => hB8.out w9 (hS1 w9 h))
  rw [f_2] at HA2
  have HF2 := HeldFs.add HF1 (held_turn 2 nm v (fun w9 h => hB8.out w9 (hS1 w9 h)))
  rw [f_2] at HF2
  replace HA2 := Kp.mk HA2
  clear hk2 H1n HF1
  go_wp2_with fail
  refine HA2.out.mono ?_
  rintro e wa2 ⟨rfl, fv2, Hk2⟩
  clear HA2 c2_0 c2_1 c2_2 c2_3 c2_4 c2_5 c2_6 c2_7 c2_8 c2_9
  have H2n := Kp.mk Hk2
  clear Hk2
  have HT3 := Kp.mk (law_tag H2n.out nm v (fun w9 h => hNm.out w9 (hS1 w9 (FormsH.base h))))
  go_wp2_with fail
  refine HT3.out.mono ?_
  rintro e wt3 ⟨b3_, rfl, Ht3⟩
  have HA3 := add_tag Ht3 (Nat.le_of_ble_eq_true rfl) HF2 3 nm
  rw [f_3] at HA3
  have HF3 := HeldFs.add (HeldFs.more (Y := tagB b3_ v) HF2) (held_tag 3 nm b3_ v)
  rw [f_3] at HF3
  have hS3 := fun w9 (h : Own w w9 (_ * tagB b3_ v)) => hS1 w9 h.drop
  replace HA3 := Kp.mk HA3
  clear HT3 H2n HF2
  go_wp2_with fail
  refine HA3.out.mono ?_
  rintro e wa3 ⟨rfl, fv3, Hk3⟩
  clear HA3 Ht3
  have H3n := Kp.mk Hk3
  clear Hk3
  have HT4 := Kp.mk (law_tag H3n.out nm v (fun w9 h => hNm.out w9 (hS3 w9 (FormsH.base h))))
  go_wp2_with fail
  refine HT4.out.mono ?_
  rintro e wt4 ⟨b4_, rfl, Ht4⟩
  have HA4 := add_tag Ht4 (Nat.le_of_ble_eq_true rfl) HF3 4 nm
  rw [f_4] at HA4
  have HF4 := HeldFs.add (HeldFs.more (Y := tagB b4_ v) HF3) (held_tag 4 nm b4_ v)
  rw [f_4] at HF4
  have hS4 := fun w9 (h : Own w w9 (_ * tagB b4_ v)) => hS3 w9 h.drop
  replace HA4 := Kp.mk HA4
  clear HT4 H3n HF3
  go_wp2_with fail
  refine HA4.out.mono ?_
  rintro e wa4 ⟨rfl, fv4, Hk4⟩
  clear HA4 Ht4
  have H4n := Kp.mk Hk4
  clear Hk4
  have Hf4 := FormsH.fresh H4n.out
  unfold formsO at Hf4
  have hSf4 := fun w9 (h : Own w w9 (FormsH _ (b8 + 1 + 1) fv4 [xT 2 nm b8 v, xA 3 nm b3_ v, xA 4 nm b4_ v])) => hS4 w9 (FormsH.base h)
  go_upto_region 13 with fail
  generalize hw4 : wa4.alloc (.cells #[.slice none 0 0] 45) = wf4 at Hf4 ⊢
  generalize hg4 : wa4.heap.size = g2 at Hf4 ⊢
  clear hw4 hg4 H4n
  replace Hf4 := Kp.mk Hf4
  have HFf4 := held_none Hf4.out
  have HT5 := Kp.mk (law_tag Hf4.out nm v (fun w9 h => hNm.out w9 (hSf4 w9 (FormsH.base h))))
  go_wp2_with fail
  refine HT5.out.mono ?_
  rintro e wt5 ⟨b5_, rfl, Ht5⟩
  have HA5 := add_tag Ht5 (Nat.le_of_ble_eq_true rfl) HFf4 1 nm
  rw [add_1] at HA5
  have HF5 := HeldFs.add (HeldFs.more (Y := tagB b5_ v) HFf4) (held_tag 1 nm b5_ v)
  rw [add_1] at HF5
  have hS5 := fun w9 (h : Own w w9 (_ * tagB b5_ v)) => hSf4 w9 h.drop
  replace HA5 := Kp.mk HA5
  clear HT5 Hf4 HFf4
  go_wp2_with fail
  refine HA5.out.mono ?_
  rintro e wa5 ⟨rfl, fv5, Hk5⟩
  clear HA5 Ht5
  have H5n := Kp.mk Hk5
  clear Hk5
  have HA6 := Kp.mk (mark_call H5n.out (Nat.le_of_ble_eq_true rfl))
  have HF6 := HeldFs.append HF5 held_mark
  rw [show [xA 1 nm b5_ v] ++ [markM] = [xA 1 nm b5_ v, markM] from rfl] at HF6
  clear H5n HF5
  go_wp2_with fail
  refine HA6.out.mono ?_
  rintro e wa6 ⟨rfl, fv6, Hk6⟩
  clear HA6
  rw [show [xA 1 nm b5_ v] ++ [markM] = [xA 1 nm b5_ v, markM] from rfl] at Hk6
  have H6n := Kp.mk Hk6
  clear Hk6
  have hk7 := hTk.out _ (hS5 _ (FormsH.base H6n.out))
  have c7_0 := cell_blk (j := 0) hk7 rfl
  have c7_1 := cell_blk (j := 1) hk7 rfl
  have c7_2 := cell_blk (j := 2) hk7 rfl
  have c7_3 := cell_blk (j := 3) hk7 rfl
  have c7_4 := cell_blk (j := 4) hk7 rfl
  have c7_5 := cell_blk (j := 5) hk7 rfl
  have c7_6 := cell_blk (j := 6) hk7 rfl
  have c7_7 := cell_blk (j := 7) hk7 rfl
  have c7_8 := cell_blk (j := 8) hk7 rfl
  have c7_9 := cell_blk (j := 9) hk7 rfl
  have HA7 := add_turn H6n.out (Nat.le_of_ble_eq_true rfl) HF6 2 nm v (fun w9 h => hB8.out w9 (hS5 w9 h))
  rw [g_2] at HA7
  have HF7 := HeldFs.add HF6 (held_turn 2 nm v (fun w9 h => hB8.out w9 (hS5 w9 h)))
  rw [g_2] at HF7
  replace HA7 := Kp.mk HA7
  clear hk7 H6n HF6
  go_wp2_with fail
  refine HA7.out.mono ?_
  rintro e wa7 ⟨rfl, fv7, Hk7⟩
  clear HA7 c7_0 c7_1 c7_2 c7_3 c7_4 c7_5 c7_6 c7_7 c7_8 c7_9
  have H7n := Kp.mk Hk7
  clear Hk7
  have HT8 := Kp.mk (law_tag H7n.out nm v (fun w9 h => hNm.out w9 (hS5 w9 (FormsH.base h))))
  go_wp2_with fail
  refine HT8.out.mono ?_
  rintro e wt8 ⟨b8_, rfl, Ht8⟩
  have HA8 := add_tag Ht8 (Nat.le_of_ble_eq_true rfl) HF7 3 nm
  rw [g_3] at HA8
  have HF8 := HeldFs.add (HeldFs.more (Y := tagB b8_ v) HF7) (held_tag 3 nm b8_ v)
  rw [g_3] at HF8
  have hS8 := fun w9 (h : Own w w9 (_ * tagB b8_ v)) => hS5 w9 h.drop
  replace HA8 := Kp.mk HA8
  clear HT8 H7n HF7
  go_wp2_with fail
  refine HA8.out.mono ?_
  rintro e wa8 ⟨rfl, fv8, Hk8⟩
  clear HA8 Ht8
  have H8n := Kp.mk Hk8
  clear Hk8
  have HT9 := Kp.mk (law_tag H8n.out nm v (fun w9 h => hNm.out w9 (hS8 w9 (FormsH.base h))))
  go_wp2_with fail
  refine HT9.out.mono ?_
  rintro e wt9 ⟨b9_, rfl, Ht9⟩
  have HA9 := add_tag Ht9 (Nat.le_of_ble_eq_true rfl) HF8 4 nm
  rw [g_4] at HA9
  have HF9 := HeldFs.add (HeldFs.more (Y := tagB b9_ v) HF8) (held_tag 4 nm b9_ v)
  rw [g_4] at HF9
  have hS9 := fun w9 (h : Own w w9 (_ * tagB b9_ v)) => hS8 w9 h.drop
  replace HA9 := Kp.mk HA9
  clear HT9 H8n HF8
  go_wp2_with fail
  refine HA9.out.mono ?_
  rintro e wa9 ⟨rfl, fv9, Hk9⟩
  clear HA9 Ht9
  have H9n := Kp.mk Hk9
  clear Hk9
  have Hf9 := FormsH.fresh H9n.out
  unfold formsO at Hf9
  have hSf9 := fun w9 (h : Own w w9 (FormsH _ g2 fv9 [xA 1 nm b5_ v, markM, xT 2 nm b8 v, xA 3 nm b8_ v, xA 4 nm b9_ v])) => hS9 w9 (FormsH.base h)
  go_upto_region 19 with fail
  generalize hw9 : wa9.alloc (.cells #[.slice none 0 0] 45) = wf9 at Hf9 ⊢
  generalize hg9 : wa9.heap.size = g3 at Hf9 ⊢
  clear hw9 hg9 H9n
  replace Hf9 := Kp.mk Hf9
  have HFf9 := held_none Hf9.out
  have HT10 := Kp.mk (law_tag Hf9.out nm v (fun w9 h => hNm.out w9 (hSf9 w9 (FormsH.base h))))
  go_wp2_with fail
  refine HT10.out.mono ?_
  rintro e wt10 ⟨b10_, rfl, Ht10⟩
  have HA10 := add_tag Ht10 (Nat.le_of_ble_eq_true rfl) HFf9 1 nm
  rw [add_1] at HA10
  have HF10 := HeldFs.add (HeldFs.more (Y := tagB b10_ v) HFf9) (held_tag 1 nm b10_ v)
  rw [add_1] at HF10
  have hS10 := fun w9 (h : Own w w9 (_ * tagB b10_ v)) => hSf9 w9 h.drop
  replace HA10 := Kp.mk HA10
  clear HT10 Hf9 HFf9
  go_wp2_with fail
  refine HA10.out.mono ?_
  rintro e wa10 ⟨rfl, fv10, Hk10⟩
  clear HA10 Ht10
  have H10n := Kp.mk Hk10
  clear Hk10
  have ha1 := hap1.out
  have ha2 := hap2.out
  have HT11 := Kp.mk (law_tag H10n.out nm V (fun w9 h => hNm.out w9 (hS10 w9 (FormsH.base h))))
  go_wp2_with fail
  refine HT11.out.mono ?_
  rintro e wt11 ⟨b11_, rfl, Ht11⟩
  have HA11 := add_tag Ht11 (Nat.le_of_ble_eq_true rfl) HF10 2 nm
  rw [h_2 _ _ _ _ _ hne.out] at HA11
  have HF11 := HeldFs.add (HeldFs.more (Y := tagB b11_ V) HF10) (held_tag 2 nm b11_ V)
  rw [h_2 _ _ _ _ _ hne.out] at HF11
  have hS11 := fun w9 (h : Own w w9 (_ * tagB b11_ V)) => hS10 w9 h.drop
  replace HA11 := Kp.mk HA11
  clear HT11 H10n HF10
  go_wp2_with fail
  refine HA11.out.mono ?_
  rintro e wa11 ⟨rfl, fv11, Hk11⟩
  clear HA11 Ht11
  have H11n := Kp.mk Hk11
  clear Hk11
  have HT12 := Kp.mk (law_tag H11n.out nm v (fun w9 h => hNm.out w9 (hS11 w9 (FormsH.base h))))
  go_wp2_with fail
  refine HT12.out.mono ?_
  rintro e wt12 ⟨b12_, rfl, Ht12⟩
  have HA12 := add_tag Ht12 (Nat.le_of_ble_eq_true rfl) HF11 3 nm
  rw [h_3 _ _ _ _ _ _ hne.out] at HA12
  have HF12 := HeldFs.add (HeldFs.more (Y := tagB b12_ v) HF11) (held_tag 3 nm b12_ v)
  rw [h_3 _ _ _ _ _ _ hne.out] at HF12
  have hS12 := fun w9 (h : Own w w9 (_ * tagB b12_ v)) => hS11 w9 h.drop
  replace HA12 := Kp.mk HA12
  clear HT12 H11n HF11
  go_wp2_with fail
  refine HA12.out.mono ?_
  rintro e wa12 ⟨rfl, fv12, Hk12⟩
  clear HA12 Ht12
  have H12n := Kp.mk Hk12
  clear Hk12
  have HT13 := Kp.mk (law_tag H12n.out nm v (fun w9 h => hNm.out w9 (hS12 w9 (FormsH.base h))))
  go_wp2_with fail
  refine HT13.out.mono ?_
  rintro e wt13 ⟨b13_, rfl, Ht13⟩
  have HA13 := add_tag Ht13 (Nat.le_of_ble_eq_true rfl) HF12 4 nm
  rw [h_4 _ _ _ _ _ _ _ hne.out] at HA13
  have HF13 := HeldFs.add (HeldFs.more (Y := tagB b13_ v) HF12) (held_tag 4 nm b13_ v)
  rw [h_4 _ _ _ _ _ _ _ hne.out] at HF13
  have hS13 := fun w9 (h : Own w w9 (_ * tagB b13_ v)) => hS12 w9 h.drop
  replace HA13 := Kp.mk HA13
  clear HT13 H12n HF12
  go_wp2_with fail
  refine HA13.out.mono ?_
  rintro e wa13 ⟨rfl, fv13, Hk13⟩
  clear HA13 Ht13
  have H13n := Kp.mk Hk13
  clear Hk13
  have HZ := H13n.out
  clear H13n HF13 hS13
  unfold FormsH at HZ
  obtain ⟨_, A1, c1, hv1, _⟩ := HZ.slR fv4 (by decide)
  subst hv1
  obtain ⟨_, A2, c2, hv2, _⟩ := HZ.slR fv9 (by decide)
  subst hv2
  obtain ⟨_, A3, c3, hv3, _⟩ := HZ.slR fv13 (by decide)
  subst hv3
  have kf := cell_blk (j := 0) (HZ.focB (b8 + 1 + 1)).blk rfl
  have HA := Kp.mk (forms_At (HZ.focR (.slice A1 3 c1)) (Nat.le_of_ble_eq_true rfl) (fv_three ⟨_, _, _, rfl⟩ ⟨_, _, _, rfl⟩ ⟨_, _, _, rfl⟩) 1)
  rw [idF_f1] at HA
  go_wp2_with fail
  refine HA.out.mono ?_
  rintro e wz1 ⟨rfl, HZ1⟩
  clear HA kf HZ
  have kf := cell_blk (j := 0) (HZ1.focB (b8 + 1 + 1)).blk rfl
  have HA := Kp.mk (forms_At HZ1 (Nat.le_of_ble_eq_true rfl) (fv_three ⟨_, _, _, rfl⟩ ⟨_, _, _, rfl⟩ ⟨_, _, _, rfl⟩) 2)
  rw [idF_f2] at HA
  go_wp2_with fail
  refine HA.out.mono ?_
  rintro e wz2 ⟨rfl, HZ2⟩
  clear HA kf HZ1
  have kf := cell_blk (j := 0) (HZ2.focB (b8 + 1 + 1)).blk rfl
  have kn := hNm.out _ (own_left (HZ2.foc R0))
  have kg := cell_blk (j := 0) (HZ2.focB g2).blk rfl
  have HA := Kp.mk (forms_Last HZ2 (Nat.le_of_ble_eq_true rfl) nm)
  rw [show goL nm [xT 2 nm b8 v, xA 3 nm b3_ v, xA 4 nm b4_ v] [xT 2 nm b8 v, xA 3 nm b3_ v, xA 4 nm b4_ v].length = 4 from last_f nm v b8 b3_ b4_] at HA
  have HB := Kp.mk (forms_At (HZ2.focR (.slice A2 5 c2)) (Nat.le_of_ble_eq_true rfl) (fv_five ⟨_, _, _, rfl⟩ (fv_four ⟨_, _, _, rfl⟩ (fv_three ⟨_, _, _, rfl⟩ ⟨_, _, _, rfl⟩ ⟨_, _, _, rfl⟩))) 1)
  rw [idF_one] at HB
  go_wp2_with fail
  refine HA.out.mono ?_
  rintro e wz3 ⟨rfl, rfl⟩
  clear HA HZ2
  go_wp2_with fail
  refine HB.out.mono ?_
  rintro e wz4 ⟨rfl, HZ4⟩
  clear HB kf kn kg
  have kh := cell_blk (j := 0) (HZ4.focB g3).blk rfl
  have HB := Kp.mk (forms_At (HZ4.focR (.slice A3 4 c3)) (Nat.le_of_ble_eq_true rfl) (fv_four ⟨_, _, _, rfl⟩ (fv_three ⟨_, _, _, rfl⟩ ⟨_, _, _, rfl⟩ ⟨_, _, _, rfl⟩)) 1)
  rw [idF_one] at HB
  go_wp2_with fail
  refine HB.out.mono ?_
  rintro e wz5 ⟨rfl, HZ5⟩
  have hE := Kp.mk (hOld.out _ (own_left (HZ5.foc R0)))
  clear HB kh HZ4 HZ5
  go_wp2
  go_ret
  exact ⟨rfl, hE.out⟩
end Go.Proofs.YtbijlkbfndkdcaaDoorSep
