/- Own work: the law's head, by a walk. -/
import Derived.Test.YtcoaecdgodfodaaUriQ
import Derived.Test.YtcoaecdgodfodaaUriM
import Derived.Test.YtcoaecdgodfodaaUriAt
namespace Go.Proofs.YtcoaecdgodfodaaSep
open Go.RowKit Go.Lib Go.Proofs

theorem decodeOk : DecodeOk := fun _ _ _ H s hs => uri_Decode H s hs
theorem str_lit (l : List UInt8) : (⟨l.toArray⟩ : ByteArray) = str l := rfl
set_option maxHeartbeats 1000000 in
theorem law_head {W0 w : World} {R : HP} (H : Own W0 w R) :
    Calls Try.prog 10 #[] w fun e w' => e = .returned (.bool true) ∧ Own W0 w' R := by
  have HP := Kp.mk (uri_Parse H (str [46, 46, 47, 103, 35, 115]) (by decide))
  rw [str_data] at HP
  obtain ⟨r, hr⟩ : ∃ r, Kp (parseF [46, 46, 47, 103, 35, 115] = r) := ⟨_, ⟨rfl⟩⟩
  have hT := head15
  rw [hr.out] at HP hT
  have hp1 : r.path.length ≤ 1000000 := by rw [← hr.out, head15_r]; decide
  have hp2 : r.frag.length ≤ 1000000 := by rw [← hr.out, head15_r]; decide
  have hT := Kp.mk hT
  clear hr
  go_enter Try.func10, Try.ntmps10
  go_wp2_with fail
  refine HP.out.mono ?_
  rintro e w1 ⟨rfl, H1⟩
  have HT := uri_Target decodeOk H1 [98, 47, 99, 47, 100, 46, 104, 116, 109, 108] r (by decide) hp1 hp2
  rw [hT.out] at HT
  have HT := Kp.mk HT
  clear HP hp1 hp2
  go_wp2_with fail
  refine HT.out.mono ?_
  rintro e w2 ⟨rfl, H2⟩
  have H2 := Kp.mk H2
  clear HT
  have e0 : (str [98, 47, 103]).toList = [98, 47, 103] := str_toList _
  have e1 : (str [115]).toList = [115] := str_toList _
  go_wp2
  go_ret
  exact ⟨rfl, H2.out⟩
end Go.Proofs.YtcoaecdgodfodaaSep
