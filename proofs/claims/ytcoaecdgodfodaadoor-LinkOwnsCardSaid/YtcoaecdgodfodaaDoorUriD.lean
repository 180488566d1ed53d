/- Own work: a path without dots, by a walk. -/
import Derived.Test.YtcoaecdgodfodaaDoorUriC
namespace Go.Proofs.YtcoaecdgodfodaaDoorSep
open Go.RowKit Go.Lib Go.Proofs

def upF (l : List UInt8) : List UInt8 := l.take (Lib.lastIndexByte (str l) 47).toNat
def dotsStep (out inp : List UInt8) : List UInt8 × List UInt8 :=
  if Lib.hasPrefix inp [46, 46, 47] then (out, inp.drop 3)
  else if Lib.hasPrefix inp [46, 47] then (out, inp.drop 2)
  else if Lib.hasPrefix inp [47, 46, 47] then (out, inp.drop 2)
  else if inp = [47, 46] then (out, [47])
  else if Lib.hasPrefix inp [47, 46, 46, 47] then (upF out, inp.drop 3)
  else if inp = [47, 46, 46] then (upF out, [47])
  else if inp = [46] ∨ inp = [46, 46] then (out, [])
  else (out ++ inp.take (1 + (before 47 (inp.drop 1)).length), inp.drop (1 + (before 47 (inp.drop 1)).length))
def dotsN : Nat → List UInt8 → List UInt8 → List UInt8
  | 0, out, _ => out
  | f + 1, out, inp => if inp = [] then out else dotsN f (dotsStep out inp).1 (dotsStep out inp).2
def dotsF (l : List UInt8) : List UInt8 := dotsN l.length [] l
theorem upF_len (l : List UInt8) : (upF l).length ≤ l.length := by rw [upF, List.length_take]; omega
theorem dotsStep_len (out inp : List UInt8) (h : ¬ inp = []) : (dotsStep out inp).2.length < inp.length ∧ (dotsStep out inp).1.length + (dotsStep out inp).2.length ≤ out.length + inp.length := by
  have h0 : 0 < inp.length := List.length_pos_iff.2 h
  have hu := upF_len out
  have hp : ∀ p : List UInt8, Lib.hasPrefix inp p = true → p.length ≤ inp.length := fun p hp => (List.isPrefixOf_iff_prefix.1 hp).length_le
  rw [dotsStep]
  repeat' split
  all_goals simp only [List.length_drop, List.length_append, List.length_take, List.length_cons, List.length_nil]
  · have := hp _ (by assumption); simp only [List.length_cons, List.length_nil] at this; omega
  · have := hp _ (by assumption); simp only [List.length_cons, List.length_nil] at this; omega
  · have := hp _ (by assumption); simp only [List.length_cons, List.length_nil] at this; omega
  · have hx : inp = [47, 46] := by assumption
    rw [hx]; simp
  · have := hp _ (by assumption); simp only [List.length_cons, List.length_nil] at this; omega
  · have hx : inp = [47, 46, 46] := by assumption
    rw [hx]; simp only [List.length_cons, List.length_nil]; omega
  · omega
  · omega
set_option maxHeartbeats 1000000 in
theorem dots_up {W0 w : World} {R : HP} {b : Nat} {l : List UInt8} (H : Own W0 w (R * Blk b (.cells #[.string (str l)] 9))) (hl : l.length < 4611686018427387904) :
    Calls Tryd.prog 39 #[.pointer (some ⟨b, 0, none⟩)] w fun e w' => e = .returned (.tuple #[]) ∧ Own W0 w' (R * Blk b (.cells #[.string (str (upF l))] 9)) := by
  have c0 := cell_blk (j := 0) (v := .string (str l)) H.blk rfl
  have z0 : w.frozen? ⟨b, 0, none⟩ = false := frz_blk H.blk
  have H := Kp.mk H
  obtain ⟨x, hx⟩ : ∃ x, Kp (Lib.lastIndexByte (str l) 47 = x) := ⟨_, ⟨rfl⟩⟩
  have hb : -1 ≤ x ∧ x < l.length := by
    rw [← hx.out]
    rcases Lib.lastIdx_spec (str l) 47 (str l).size with ⟨h, _⟩ | ⟨i, h1, h2, _⟩
    · rw [Lib.lastIndexByte, h]; omega
    · rw [Lib.lastIndexByte, h2]; rw [str_size] at h1; omega
  have HL : ∀ w1, Calls Tryd.prog 40 #[.string (str l), .int .u8 47] w1 fun e w' => e = .returned (.int .i64 x) ∧ w' = w1 := fun w1 => by
    rw [← hx.out]
    exact Tryd.strings_LastIndexByte (str l) 47 (by rw [str_size]; exact hl) w1
  have HL := Kp.mk HL
  have hsz := str_size l
  go_enter Tryd.func39, Tryd.ntmps39
  go_wp2
  go_region_with (go_at_call 40; refine (HL.out _).mono ?_; rintro e w1 ⟨rfl, rfl⟩)
  all_goals
    have hE : (str l).extract 0 (max 0 x).toNat = str (upF l) := by rw [ext_take, str_data, upF, hx.out, show (max 0 x).toNat = x.toNat by omega]
    rw [hE]
    go_end0
    exact ⟨rfl, (H.out.set 0 _).drew⟩
end Go.Proofs.YtcoaecdgodfodaaDoorSep
