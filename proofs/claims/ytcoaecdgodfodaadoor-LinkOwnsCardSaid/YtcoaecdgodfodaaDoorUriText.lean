/- Own work: a reference as a text, by a walk. -/
import Derived.Test.YtcoaecdgodfodaaDoorSb
import Derived.Test.YtcoaecdgodfodaaDoorUriN
namespace Go.Proofs.YtcoaecdgodfodaaDoorSep
open Go.RowKit Go.Lib Go.Proofs

def textF (r : RefL) : List UInt8 := (if r.hs then r.scheme ++ [58] else []) ++ (if r.ha then 47 :: 47 :: r.auth else []) ++ r.path ++ (if r.hq then 63 :: r.query else []) ++ (if r.hf then 35 :: r.frag else [])
def refLen (r : RefL) : Nat := r.scheme.length + r.auth.length + r.path.length + r.query.length + r.frag.length
theorem app_data (a b : ByteArray) : (a ++ b).data.toList = a.data.toList ++ b.data.toList := by rw [ByteArray.data_append, Array.toList_append]
set_option maxHeartbeats 4000000 in
theorem ref_Text {W0 w : World} {R : HP} (H : Own W0 w R) (r : RefL) (hl : refLen r ≤ 1000000) :
    Calls Tryd.prog 30 #[.agg (refV r)] w fun e w' => e = .returned (.string (str (textF r))) ∧ Own W0 w' R := by
  obtain ⟨sc, au, pa, qu, fr, bs, ba, bq, bf⟩ := r
  unfold refLen at hl
  dsimp only at hl
  unfold refV
  dsimp only
  have s1 : (str sc).size = sc.length := str_size _
  have s2 : (str au).size = au.length := str_size _
  have s3 : (str pa).size = pa.length := str_size _
  have s4 : (str qu).size = qu.length := str_size _
  have s5 : (str fr).size = fr.length := str_size _
  have z1 : (⟨#[58]⟩ : ByteArray).size = 1 := rfl
  have z2 : (⟨#[47, 47]⟩ : ByteArray).size = 2 := rfl
  have z3 : (⟨#[63]⟩ : ByteArray).size = 1 := rfl
  have z4 : (⟨#[35]⟩ : ByteArray).size = 1 := rfl
  have n1 : ¬ 9223372036854775807 < sc.length + 1 := by omega
  have n2 : ¬ 9223372036854775807 < 2 + au.length := by omega
  have n3 : ¬ 9223372036854775807 < 1 + qu.length := by omega
  have n4 : ¬ 9223372036854775807 < 1 + fr.length := by omega
  have HA := H.alloc (refO sc au pa qu fr bs ba bq bf)
  have HS := sb_new HA
  unfold refO sbO at HS
  simp only [World.size_alloc] at HS
  have hend : Kp (textF ⟨sc, au, pa, qu, fr, bs, ba, bq, bf⟩ = (if bs then sc ++ [58] else []) ++ (if ba then 47 :: 47 :: au else []) ++ pa ++ (if bq then 63 :: qu else []) ++ (if bf then 35 :: fr else [])) := ⟨rfl⟩
  have HS := Kp.mk HS
  clear HA H
  cases bs <;> cases ba <;> cases bq <;> cases bf
  all_goals
    go_enter Tryd.func30, Tryd.ntmps30
    repeat (go_wp2_with fail; refine (sb_write HS.out _ (by simp only [List.length_append, data_length, ByteArray.size_append, s1, s2, s3, s4, s5, z1, z2, z3, z4, List.length_nil]; omega)).mono ?_; rintro e w1 ⟨rfl, HS1⟩; replace HS := Kp.mk HS1; clear HS1; have k0 := cell_blk (j := 0) (v := .string (str sc)) HS.out.drop.blk rfl; have k1 := cell_blk (j := 1) (v := .string (str au)) HS.out.drop.blk rfl; have k2 := cell_blk (j := 2) (v := .string (str pa)) HS.out.drop.blk rfl; have k3 := cell_blk (j := 3) (v := .string (str qu)) HS.out.drop.blk rfl; have k4 := cell_blk (j := 4) (v := .string (str fr)) HS.out.drop.blk rfl; have k5 := cell_blk (j := 5) HS.out.drop.blk rfl; have k6 := cell_blk (j := 6) HS.out.drop.blk rfl; have k7 := cell_blk (j := 7) HS.out.drop.blk rfl; have k8 := cell_blk (j := 8) HS.out.drop.blk rfl)
    go_wp2_with fail
    refine (sb_string HS.out (by simp only [List.length_append, data_length, ByteArray.size_append, s1, s2, s3, s4, s5, z1, z2, z3, z4, List.length_nil]; omega)).mono ?_
    rintro e w2 ⟨rfl, H2⟩
    have H2 := Kp.mk H2
    clear HS
    go_wp2
    go_ret
    rw [hend.out]
    refine ⟨?_, H2.out.drop⟩
    refine congrArg (fun l => Ending.returned (Value.string (str l))) ?_
    simp [app_data, str_data]
end Go.Proofs.YtcoaecdgodfodaaDoorSep
