/- Own work: the head of link's laws: plain; goals are alike. -/
import Derived.Test.YtcoaecdgodfodaaDoorLinkS
import Derived.Laws.StructEq
namespace Go.Proofs.YtcoaecdgodfodaaDoorSep
open Go.RowKit Go.Lib Go.Proofs Go.Shelf
def aX : List UInt8 := [97, 47, 98, 46, 104, 116, 109, 108]
def vX : List UInt8 := [99, 46, 104, 116, 109, 108, 63, 120, 35, 112, 37, 50, 48, 113]
def cX : List UInt8 := [99, 46, 104, 116, 109, 108]
def acX : List UInt8 := [97, 47, 99, 46, 104, 116, 109, 108]
def pqX : List UInt8 := [112, 32, 113]
def sX : List UInt8 := [47, 97, 47, 99, 46, 104, 116, 109, 108, 63, 120, 35, 112, 37, 50, 48, 113]
theorem head18_r : parseF vX = ⟨[], [], cX, [120], [112, 37, 50, 48, 113], false, false, true, true⟩ := by
  rw [parseF, show cutAt 35 vX = ([99, 46, 104, 116, 109, 108, 63, 120], [112, 37, 50, 48, 113], true) by decide +kernel]
  simp only
  rw [show cutAt 63 [99, 46, 104, 116, 109, 108, 63, 120] = (cX, [120], true) by decide +kernel]
  simp only
  rw [parse2, show schemeF cX = none by decide +kernel]
  simp only
  rw [parse3, if_neg (by decide +kernel)]
theorem head18_d : decodeF [112, 37, 50, 48, 113] = some pqX := by
  rw [decode_plain 112 _ (by decide), decode_two, if_pos (by decide), decode_plain 113 _ (by decide)]
  rw [decodeF]
  rfl
theorem head18_t : targetF aX ⟨[], [], cX, [120], [112, 37, 50, 48, 113], false, false, true, true⟩ = (acX, pqX, 0) := by
  rw [targetF, if_neg (by decide), show (resolveF ⟨[], [], 47 :: aX, [], [], false, false, false, false⟩ ⟨[], [], cX, [120], [112, 37, 50, 48, 113], false, false, true, true⟩).path = 47 :: acX by decide +kernel, trim_hit, decode_all acX (by decide +kernel)]
  simp only [head18_d]
  rw [fileF, if_neg (by decide +kernel)]
theorem head18 : ownF aX vX = ⟨sX, acX, pqX, true, 0⟩ := by
  rw [ownF_in aX vX (by rw [head18_r]; rfl) acX pqX (by rw [head18_r]; exact head18_t) (by decide +kernel), head18_r]
  rw [show textF (toR acX pqX ⟨[], [], cX, [120], [112, 37, 50, 48, 113], false, false, true, true⟩) = sX by decide +kernel]
theorem goal_eql (a b c d : List UInt8) (w : World) : (Go.binOp .eql 35 (.agg #[.string (str a), .string (str b)]) (.agg #[.string (str c), .string (str d)])).run Tryd.prog w = .ok (.bool (decide (a = c) && decide (b = d))) w := by
  rw [run_eql_struct, run_equalIn_agg (w := w) 9999 35 _ _ (by kernel_rfl) (by kernel_rfl)]
  have h1 : (str a).toList = a := str_toList a
  have h2 : (str b).toList = b := str_toList b
  have h3 : (str c).toList = c := str_toList c
  have h4 : (str d).toList = d := str_toList d
  have hf : (Tryd.prog.fieldsOf 35).toList = [⟨"File", 9, 0, false, "", "", 0⟩, ⟨"Place", 9, 1, false, "", "", 16⟩] := by kernel_rfl
  rw [hf]
  simp [Op.eqFields, go_sem, Tryd.underlying9]
  rw [h1, h2, h3, h4]
  by_cases e1 : a = c <;> by_cases e2 : b = d <;> simp [e1, e2]
end Go.Proofs.YtcoaecdgodfodaaDoorSep
