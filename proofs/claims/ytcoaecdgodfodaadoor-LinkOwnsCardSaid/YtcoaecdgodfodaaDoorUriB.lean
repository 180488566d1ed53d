/- Own work: a text cut at a byte, by a walk. -/
import Derived.Test.YtcoaecdgodfodaaDoorUriA
import Derived.Test.YtcoaecdgodfodaaDoorShelf
namespace Go.Proofs.YtcoaecdgodfodaaDoorSep
open Go.RowKit Go.Lib Go.Proofs

def CutEnd (s : ByteArray) (c : UInt8) (w : World) (e : Ending) (w' : World) : Prop :=
  e = .returned (.tuple #[.string (str (cutAt c s.data.toList).1), .string (str (cutAt c s.data.toList).2.1), .bool (cutAt c s.data.toList).2.2]) ∧ ∃ n, w' = w.drewN n
set_option maxHeartbeats 1000000 in
theorem slite_Cut (s : ByteArray) (hs : s.size < 4611686018427387904) (c : UInt8) (w : World) : Calls Tryd.prog 34 #[.string s, .string ⟨#[c]⟩] w (CutEnd s c w) := by
  have HI := Kp.mk (Tryd.stringslite_Index_one s c w)
  rcases index_cut c s.data.toList with ⟨h1, h2⟩ | ⟨i, h1, h2, h3⟩
  · rw [h1] at HI
    have h2 := Kp.mk h2
    clear h1
    go_enter Tryd.func34, Tryd.ntmps34
    go_wp2_with fail
    refine HI.out.mono ?_
    rintro e w1 ⟨rfl, rfl⟩
    clear HI
    go_wp2
    go_ret3
    unfold CutEnd
    rw [h2.out, str_of]
    exact ⟨rfl, 0, rfl⟩
  · rw [h1] at HI
    have h3 := Kp.mk h3
    rw [data_length] at h2
    clear h1
    have hsz : (⟨#[c]⟩ : ByteArray).size = 1 := rfl
    have b1 : (i : Int) ≤ (s.size : Int) := by omega
    have b2 : i ≤ s.size := by omega
    have b3 : (i : Int) + 1 ≤ (s.size : Int) := by omega
    have b4 : i + 1 ≤ s.size := by omega
    have b5 : IntKind.i64.wrap ((i : Int) + 1) = (i : Int) + 1 := by rw [IntKind.wrap_i64]; omega
    go_enter Tryd.func34, Tryd.ntmps34
    go_wp2_with fail
    refine HI.out.mono ?_
    rintro e w1 ⟨rfl, rfl⟩
    clear HI
    go_wp2
    go_quiet (fail)
    go_wp2
    go_ret3
    unfold CutEnd
    rw [h3.out]
    exact ⟨by rw [← ext_take, ← ext_drop]; rfl, nq, rfl⟩
theorem strings_Cut1 (s : ByteArray) (hs : s.size < 4611686018427387904) (c : UInt8) (w : World) : Calls Tryd.prog 18 #[.string s, .string ⟨#[c]⟩] w (CutEnd s c w) := by
  have HC := Kp.mk (slite_Cut s hs c w)
  go_enter Tryd.func18, Tryd.ntmps18
  go_wp2_with fail
  refine HC.out.mono ?_
  rintro e w1 ⟨rfl, n, rfl⟩
  clear HC
  go_wp2
  go_ret3
  exact ⟨rfl, n, rfl⟩
end Go.Proofs.YtcoaecdgodfodaaDoorSep
