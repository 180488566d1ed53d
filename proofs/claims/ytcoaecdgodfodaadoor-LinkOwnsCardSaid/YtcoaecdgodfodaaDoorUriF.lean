/- Own work: uri.merge, by a walk. -/
import Derived.Test.YtcoaecdgodfodaaDoorUriE
namespace Go.Proofs.YtcoaecdgodfodaaDoorSep
open Go.RowKit Go.Lib Go.Proofs

def mergeF (b : RefL) (p : List UInt8) : List UInt8 := if b.ha = true ∧ b.path = [] then 47 :: p else b.path.take (Lib.lastIndexByte (str b.path) 47 + 1).toNat ++ p
theorem lastI_fit (l : List UInt8) : -1 ≤ Lib.lastIndexByte (str l) 47 ∧ Lib.lastIndexByte (str l) 47 < l.length := by
  rcases Lib.lastIdx_spec (str l) 47 (str l).size with ⟨h, _⟩ | ⟨i, h1, h2, _⟩
  · rw [Lib.lastIndexByte, h]; omega
  · rw [Lib.lastIndexByte, h2]; rw [str_size] at h1; omega
theorem slash_app (p : List UInt8) : (⟨#[47]⟩ : ByteArray) ++ str p = str (47 :: p) := str_app [47] p
set_option maxHeartbeats 1000000 in
theorem uri_merge {W0 w : World} {R : HP} (H : Own W0 w R) (r : RefL) (p : List UInt8) (h1 : r.path.length ≤ 1000000000) (h2 : p.length ≤ 1000000000) :
    Calls Tryd.prog 23 #[.agg (refV r), .string (str p)] w fun e w' => e = .returned (.string (str (mergeF r p))) ∧ Own W0 w' R := by
  obtain ⟨sc, au, pa, qu, fr, bs, ba, bq, bf⟩ := r
  unfold refV
  dsimp only at h1 ⊢
  have HA := H.alloc (.cells #[.string (str sc), .string (str au), .string (str pa), .string (str qu), .string (str fr), .bool bs, .bool ba, .bool bq, .bool bf] 28)
  have HA := Kp.mk HA
  have hpa : (str pa).toList = pa := str_toList pa
  have hsp : (str pa).size = pa.length := str_size pa
  have hsq : (str p).size = p.length := str_size p
  by_cases hm : ba = true ∧ pa = []
  · have hmf : Kp (mergeF ⟨sc, au, pa, qu, fr, bs, ba, bq, bf⟩ p = 47 :: p) := ⟨by rw [mergeF, if_pos hm]⟩
    have hb1 : ba = true := hm.1
    have hb2 : pa.isEmpty = true := by rw [hm.2]; rfl
    have h1s : (⟨#[47]⟩ : ByteArray).size = 1 := rfl
    have hno : ¬ 9223372036854775807 < 1 + p.length := by omega
    clear hm
    subst hb1
    go_enter Tryd.func23, Tryd.ntmps23
    go_wp2
    go_ret
    rw [hmf.out]
    exact ⟨congrArg (fun s => Ending.returned (.string s)) (slash_app p), HA.out.drop⟩
  · have hmf : Kp (mergeF ⟨sc, au, pa, qu, fr, bs, ba, bq, bf⟩ p = pa.take (Lib.lastIndexByte (str pa) 47 + 1).toNat ++ p) := ⟨by rw [mergeF, if_neg hm]⟩
    obtain ⟨x, hx⟩ : ∃ x, Kp (Lib.lastIndexByte (str pa) 47 = x) := ⟨_, ⟨rfl⟩⟩
    have hb := lastI_fit pa
    rw [hx.out] at hb hmf
    obtain ⟨n, rfl⟩ : ∃ n : Nat, x = (n : Int) - 1 := ⟨(x + 1).toNat, by omega⟩
    rw [show ((n : Int) - 1 + 1).toNat = n by omega] at hmf
    have HL : ∀ w1, Calls Tryd.prog 40 #[.string (str pa), .int .u8 47] w1 fun e w' => e = .returned (.int .i64 ((n : Int) - 1)) ∧ w' = w1 := fun w1 => by
      rw [← hx.out]
      exact Tryd.strings_LastIndexByte (str pa) 47 (by rw [str_size]; omega) w1
    have HL := Kp.mk HL
    have hn : n ≤ pa.length := by omega
    have b1 : (n : Int) ≤ (pa.length : Int) := by omega
    have b0 : (0 : Int) ≤ (n : Int) := by omega
    have b3 : (n : Int) - 1 + 1 = (n : Int) := by omega
    have b4 : IntKind.i64.wrap ((n : Int) - 1 + 1) = (n : Int) := by rw [IntKind.wrap_i64]; omega
    have hex : (str pa).extract 0 n = str (pa.take n) := by rw [ext_take, str_data]
    have hse : (str (pa.take n)).size = n := by rw [str_size, List.length_take]; omega
    have hno : ¬ 9223372036854775807 < n + p.length := by omega
    have hno2 : n + p.length ≤ 9223372036854775807 := by omega
    have happ : str (pa.take n) ++ str p = str (pa.take n ++ p) := str_app _ _
    rcases Bool.eq_false_or_eq_true ba with hb1 | hb1
    case' inl =>
      have hb2 : pa.isEmpty = false := by
        have : ¬ pa = [] := fun h => hm ⟨hb1, h⟩
        simp [this]
    all_goals
      clear hm hb hx
      subst hb1
      go_enter Tryd.func23, Tryd.ntmps23
      go_wp2
      go_quiet (first | (go_at_call 40; refine Calls.quiet_of_same (HL.out _)))
      go_wp2
      go_ret
      rw [hmf.out]
      exact ⟨rfl, (HA.out.drewN nq).drop⟩
end Go.Proofs.YtcoaecdgodfodaaDoorSep
