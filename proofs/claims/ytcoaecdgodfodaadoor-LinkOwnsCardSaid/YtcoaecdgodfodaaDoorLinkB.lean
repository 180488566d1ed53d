/- Own work: link.Own, by a walk: where a link leads to a file. -/
import Derived.Test.YtcoaecdgodfodaaDoorLinkA
import Derived.Test.YtcoaecdgodfodaaDoorUriEnc
import Derived.Test.YtcoaecdgodfodaaDoorPathDr
namespace Go.Proofs.YtcoaecdgodfodaaDoorSep
open Go.RowKit Go.Lib Go.Proofs Go.Shelf
/-- The reference that is published, ahead of its place. -/
def toO (f q : List UInt8) (bq : Bool) : Obj := .cells #[.string ⟨#[]⟩, .string ⟨#[]⟩, .string (str (47 :: f)), .string (str q), .string ⟨#[]⟩, .bool false, .bool false, .bool bq, .bool false] 28
def goalB (g : Nat) : HP := Blk g (.cells #[.string (str []), .string (str [])] 35)
def refB (g : Nat) (sc au pa qu fr : List UInt8) (bq bf : Bool) : HP := Blk g (.cells #[.string (str sc), .string (str au), .string (str pa), .string (str qu), .string (str fr), .bool false, .bool false, .bool bq, .bool bf] 28)
def toB (g : Nat) (f q : List UInt8) (bq : Bool) : HP := Blk g (.cells #[.string ⟨#[]⟩, .string ⟨#[]⟩, .string (str (47 :: f)), .string (str q), .string ⟨#[]⟩, .bool false, .bool false, .bool bq, .bool false] 28)
/-- A statement that ends usually, in one act but for an address, in worlds of one kind. -/
def QG (A0 : Nat → Act) (C : Nat → World → Prop) : Exit → Act → World → Prop
  | .normal, act, w => ∃ g, act = A0 g ∧ C g w
  | _, _, _ => False
set_option maxRecDepth 100000 in
set_option maxHeartbeats 4000000 in
theorem own_in {W0 w : World} {R : HP} {m : Int} (hm : MaxL W0 R m) (H : Own W0 w R) (l v : List UInt8) (hl : l.length ≤ 1000) (hv : v.length ≤ 3000) (ho : ((parseF v).hs || (parseF v).ha) = false)
    (f p : List UInt8) (h2 : targetF l (parseF v) = (f, p, 0)) (h3 : rightF f = true) :
    Calls Tryd.prog 13 #[.string (str l), .string (str v)] w (OwnEnd W0 R (ownF l v)) := by
  have hpl := parseF_len v
  have hql := parse_queryLen v
  have HPa := Kp.mk (uri_Parse (H.alloc (goalO [] [])) (str v) (by rw [str_size]; omega))
  rw [str_data] at HPa
  rw [ownF_in l v ho f p h2 h3]
  obtain ⟨x, hx⟩ : ∃ x, parseF v = x := ⟨_, rfl⟩
  rw [hx] at HPa ho hpl hql h2 ⊢
  clear hx
  obtain ⟨sc, au, pa, qu, fr, bs, ba, bq, bf⟩ := x
  have HI := fun w1 (R1 : HP) (h : Own W0 w1 R1) => uri_Inside h ⟨sc, au, pa, qu, fr, bs, ba, bq, bf⟩
  dsimp only at HI ho hpl hql
  obtain ⟨rfl, rfl⟩ : bs = false ∧ ba = false := by revert ho; cases bs <;> cases ba <;> simp
  have htl := target_len l ⟨sc, au, pa, qu, fr, false, false, bq, bf⟩
  have HTg := fun w1 (R1 : HP) (h : Own W0 w1 R1) => uri_Target decodeOk h l ⟨sc, au, pa, qu, fr, false, false, bq, bf⟩ (by omega) (by dsimp only; omega) (by dsimp only; omega)
  unfold TgtEnd at HTg
  rw [h2] at HTg htl
  dsimp only at HTg htl
  have hfl := right_len h3
  have hpp : p.length ≤ 3000 := by omega
  have HR := fun w1 (R1 : HP) (hm1 : MaxL W0 R1 m) (h : Own W0 w1 R1) => path_Right hm1 h f (by omega)
  rw [h3] at HR
  have HE1 := fun w1 (R1 : HP) (h : Own W0 w1 R1) => uri_Encode h (str f) true (by rw [str_size]; omega)
  have HE2 := fun w1 (R1 : HP) (h : Own W0 w1 R1) => uri_Encode h (str p) false (by rw [str_size]; omega)
  rw [str_data, enc_right (right_bytes h3)] at HE1
  rw [str_data] at HE2
  have htr := toR_eq h3 p ⟨sc, au, pa, qu, fr, false, false, bq, bf⟩
  dsimp only at htr
  rw [htr]
  have hep := encF_len false p
  have HT := fun w1 (R1 : HP) (g : List UInt8) (bg : Bool) (hg : g.length ≤ 10000) (h : Own W0 w1 R1) => ref_Text h ⟨[], [], 47 :: f, qu, g, false, false, bq, bg⟩ (by simp only [refLen, List.length_cons, List.length_nil]; omega)
  have hsf : (str f).size ≤ 200 := by rw [str_size]; omega
  have h47 : (ByteArray.mk #[47]).size = 1 := rfl
  have hno : ¬ 9223372036854775807 < 1 + (str f).size := by omega
  have hap : ByteArray.mk #[47] ++ str f = str (47 :: f) := str_app [47] f
  unfold refV at HPa HI HTg HT
  unfold goalO at HPa
  dsimp only at HPa HI HTg HT
  replace HI := Kp.mk HI
  replace HTg := Kp.mk HTg
  replace hm := Kp.mk hm
  replace HR := Kp.mk HR
  replace HE1 := Kp.mk HE1
  replace HE2 := Kp.mk HE2
  replace HT := Kp.mk HT
  replace hep : Kp ((encF false p).length ≤ 10000) := ⟨by omega⟩
  obtain ⟨res, hres⟩ : ∃ res, Kp (OwnM.mk (textF ⟨[], [], 47 :: f, qu, if p = [] then [] else encF false p, false, false, bq, !decide (p = [])⟩) f p true 0 = res) := ⟨_, ⟨rfl⟩⟩
  rw [hres.out]
  clear ho H htl hpl h2 htr hfl hpp hql
  go_enter Tryd.func13, Tryd.ntmps13
  go_wp2_with fail
  refine HPa.out.mono ?_
  rintro e w1 ⟨rfl, H1⟩
  have H3 := H1.alloc (refO sc au pa qu fr false false bq bf)
  have HY := Kp.mk (HI.out _ _ H3)
  unfold refO at HY
  clear HPa H1 HI H3
  generalize w.heap.size = g5 at HY ⊢
  obtain ⟨g, hg⟩ : ∃ g, Kp (w1.heap.size = g) := ⟨_, ⟨rfl⟩⟩
  rw [hg.out] at HY
  go_wp2_with fail
  refine HY.out.mono ?_
  rintro e w3 ⟨rfl, H4⟩
  rw [hg.out]
  have HX := Kp.mk (HTg.out _ _ H4)
  replace H4 := Kp.mk H4
  clear HY hg HTg
  go_wp2_with (refine own_load_row g H4.out rfl 28 (.tmp 8) rfl rfl _ Tryd.underlying28 rfl (by kernel_rfl) ?_)
  refine HX.out.mono ?_
  rintro e w4 ⟨rfl, H5⟩
  have HY := Kp.mk (HR.out _ _ hm.out.more.more H5)
  clear HX H4 HR H5
  go_wp2_with fail
  refine HY.out.mono ?_
  rintro e w6 ⟨rfl, H6⟩
  clear HY
  have k3 := cell_blk (j := 3) (v := .string (str qu)) H6.blk rfl
  have k7 := cell_blk (j := 7) (v := .bool bq) H6.blk rfl
  have b3 := cell_blk (j := 3) (v := .string (str qu)) ((H6.alloc (.cells #[.string ⟨#[]⟩, .string ⟨#[]⟩, .string ⟨#[]⟩, .string ⟨#[]⟩, .string ⟨#[]⟩, .bool false, .bool false, .bool false, .bool false] 28)).focB g).blk rfl
  have b7 := cell_blk (j := 7) (v := .bool bq) ((H6.alloc (.cells #[.string ⟨#[]⟩, .string ⟨#[]⟩, .string ⟨#[]⟩, .string ⟨#[]⟩, .string ⟨#[]⟩, .bool false, .bool false, .bool false, .bool false] 28)).focB g).blk rfl
  replace H6 := Kp.mk H6
  go_wp2
  refine Go.wp_mono (Q := QG ?A0 (fun gt wx => Kp (Own W0 wx (R * goalB g5 * refB g sc au pa qu fr bq bf * toB gt f qu bq)))) ?first ?rest
  case first =>
    go_region_law (go_simp; (go_at_call 29; refine (HE1.out _ _ (by first | exact H6.out.drew | exact H6.out.drew.alloc _)).mono ?_; rintro e w7 ⟨rfl, H7⟩; have k3' := cell_blk (j := 3) (v := .string (str qu)) (H7.focB g).blk rfl; have k7' := cell_blk (j := 7) (v := .bool bq) (H7.focB g).blk rfl; have c3' := cell_blk (j := 3) (v := .string (str qu)) ((H7.alloc (.cells #[.string ⟨#[]⟩, .string ⟨#[]⟩, .string ⟨#[]⟩, .string ⟨#[]⟩, .string ⟨#[]⟩, .bool false, .bool false, .bool false, .bool false] 28)).focB g).blk rfl; have c7' := cell_blk (j := 7) (v := .bool bq) ((H7.alloc (.cells #[.string ⟨#[]⟩, .string ⟨#[]⟩, .string ⟨#[]⟩, .string ⟨#[]⟩, .string ⟨#[]⟩, .bool false, .bool false, .bool false, .bool false] 28)).focB g).blk rfl; (try (have s0 : w7.cell? ⟨w6.heap.size, 0, none⟩ = some (.string ⟨#[]⟩) := cell_blk H7.blk rfl; have s1 : w7.cell? ⟨w6.heap.size, 1, none⟩ = some (.string ⟨#[]⟩) := cell_blk H7.blk rfl; have s2 : w7.cell? ⟨w6.heap.size, 2, none⟩ = some (.string ⟨#[]⟩) := cell_blk H7.blk rfl; have s3 : w7.cell? ⟨w6.heap.size, 3, none⟩ = some (.string ⟨#[]⟩) := cell_blk H7.blk rfl; have s4 : w7.cell? ⟨w6.heap.size, 4, none⟩ = some (.string ⟨#[]⟩) := cell_blk H7.blk rfl; have s5 : w7.cell? ⟨w6.heap.size, 5, none⟩ = some (.bool false) := cell_blk H7.blk rfl; have s6 : w7.cell? ⟨w6.heap.size, 6, none⟩ = some (.bool false) := cell_blk H7.blk rfl; have s7 : w7.cell? ⟨w6.heap.size, 7, none⟩ = some (.bool false) := cell_blk H7.blk rfl; have s8 : w7.cell? ⟨w6.heap.size, 8, none⟩ = some (.bool false) := cell_blk H7.blk rfl; have zf : ∀ j, w7.frozen? ⟨w6.heap.size, j, none⟩ = false := fun j => frz_blk H7.blk)); replace H7 := Kp.mk H7))
    all_goals first
      | (have H8 := Kp.mk (((((((((H7.out.set 0 (.string ⟨#[]⟩)).set 1 (.string ⟨#[]⟩)).set 2 (.string (str (47 :: f)))).set 3 (.string (str qu))).set 4 (.string ⟨#[]⟩)).set 5 (.bool false)).set 6 (.bool false)).set 7 (.bool bq)).set 8 (.bool false))
         obtain ⟨gt, hgt⟩ : ∃ gt, gt = w6.heap.size := ⟨_, rfl⟩
         rw [← hgt]
         refine ⟨gt, ?_, ?_⟩
         · exact rfl
         · rw [hgt]; exact H8)
      | (have H8 := Kp.mk (H7.out.alloc (toO f qu bq))
         obtain ⟨gt, hgt⟩ : ∃ gt, gt = w7.heap.size := ⟨_, rfl⟩
         rw [← hgt]
         refine ⟨gt, ?_, ?_⟩
         · exact rfl
         · rw [hgt]; exact H8)
  case rest =>
    rintro (_ | _ | _ | _ | _ | _) act wx HQ
    all_goals first | (exact HQ.elim) | skip
    obtain ⟨gt, rfl, HO⟩ := HQ
    clear k3 k7 b3 b7 H6 HE1
    unfold goalB refB toB at HO
    by_cases h0 : p = []
    · have f1 : (str p).toList.isEmpty = true := by rw [str_toList, h0]; rfl
      have f2 : (str p).toList = [] := by rw [str_toList, h0]
      have hr2 := hres.out
      rw [if_pos h0, decide_eq_true h0] at hr2
      have HX := Kp.mk (HT.out wx _ [] false (by decide) HO.out)
      replace hr2 := Kp.mk hr2
      clear hres HT HE2 h0
      go_wp2_with (refine own_load_row gt HO.out rfl 28 (.tmp 12) rfl rfl _ Tryd.underlying28 rfl (by kernel_rfl) ?_)
      refine HX.out.mono ?_
      rintro e w8 ⟨rfl, H8⟩
      replace H8 := Kp.mk (H8.focB g5)
      clear HX HO
      go_wp2_with (refine own_store_row g5 #[.string (str f), .string (str p)] H8.out rfl 35 (.tmp 5) (.tmp 53) rfl rfl rfl (by kernel_rfl) (by rfl) (by simp [Value.oneCell']) ?_)
      intro w4 H5
      go_wp2
      refine bodyPost_ret (results_four rfl _ _ _ ⟨g5, 0, none⟩ rfl _ (run_loadVar_row _ g5 35 35 _ (0, 0) _ H5.blk Tryd.underlying35 rfl (by kernel_rfl))) rfl ?_
      rw [← hr2.out]
      exact ⟨rfl, H5.drop.drop.drop⟩
    · have f1 : (str p).toList.isEmpty = false := by rw [str_toList]; cases p <;> simp_all
      have hr2 := hres.out
      rw [if_neg h0, decide_eq_false h0] at hr2
      replace hr2 := Kp.mk hr2
      have HX := Kp.mk (HE2.out wx _ HO.out)
      clear hres HE2 h0 HO
      go_wp2_with fail
      refine HX.out.mono ?_
      rintro e w7 ⟨rfl, H7⟩
      clear HX
      have z7 : ∀ j, w7.frozen? ⟨gt, j, none⟩ = false := fun j => frz_blk H7.blk
      have o4 : w7.cell? ⟨gt, 4, none⟩ = some (.string ⟨#[]⟩) := cell_blk H7.blk rfl
      have o8 : w7.cell? ⟨gt, 8, none⟩ = some (.bool false) := cell_blk H7.blk rfl
      have H9 := (H7.set 4 (.string (str (encF false p)))).set 8 (.bool true)
      have HX := Kp.mk (HT.out _ _ (encF false p) true hep.out H9)
      replace H9 := Kp.mk H9
      clear H7
      go_upto_region 10 with fail
      generalize (w7.setCell ⟨gt, 4, none⟩ (.string (str (encF false p)))).setCell ⟨gt, 8, none⟩ (.bool true) = w8 at HX H9 ⊢
      clear z7 o4 o8
      go_wp2_with (refine own_load_row gt H9.out rfl 28 (.tmp 12) rfl rfl _ Tryd.underlying28 rfl (by kernel_rfl) ?_)
      refine HX.out.mono ?_
      rintro e w9 ⟨rfl, H8⟩
      replace H8 := Kp.mk (H8.focB g5)
      clear HX H9
      go_wp2_with (refine own_store_row g5 #[.string (str f), .string (str p)] H8.out rfl 35 (.tmp 5) (.tmp 53) rfl rfl rfl (by kernel_rfl) (by rfl) (by simp [Value.oneCell']) ?_)
      intro w4 H5
      go_wp2
      refine bodyPost_ret (results_four rfl _ _ _ ⟨g5, 0, none⟩ rfl _ (run_loadVar_row _ g5 35 35 _ (0, 0) _ H5.blk Tryd.underlying35 rfl (by kernel_rfl))) rfl ?_
      rw [← hr2.out]
      exact ⟨rfl, H5.drop.drop.drop⟩
end Go.Proofs.YtcoaecdgodfodaaDoorSep
