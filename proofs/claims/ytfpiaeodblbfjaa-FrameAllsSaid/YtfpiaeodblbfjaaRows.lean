/-
  No cell of these rows narrows 'for every input' (looked for: loops, veiled, ifaces, maps, wideKeys, modest, calm, conditions, laid).
  DERIVED. THE GIVEN ROWS OF THIS SEAT. 7 by the template 'for every input the law returns true; each argument reads behind the call as it read before'; 0 by the template 'total and deterministic' (their statements: YtfpiaeodblbfjaaTotals.lean).
  GIVEN WITH THE SEED: the statements are not yours to turn. If you find one false, say at which input.
  Laid BY PROGRAM, IN A SANDBOX (cutbox-rows.mjs): the forced cells as the released guide's own fill.sh prints them over the translation 77495bf4bf1c0b25… (all of the seat's roots in one cut). By AI agents, Wed Nov 11 2026. No macro, syntax, notation, axiom, sorry.
-/
import Derived.Test.YtfpiaeodblbfjaaChecked
import GoSem.Claim
import GoSem.ClaimJoined
import GoSem.ClaimMapViews
import Derived.JoinedTies
import Derived.KernelRfl
namespace Go.Proofs.Ytfpiaeodblbfjaa
/- THE CELL 'sum', in the pinned program and in every row, IS THE sha256 OF THE DUMP (.gsa) THAT YtfpiaeodblbfjaaProg.lean LOADS. Nothing in Lean hashes anything: it is a label: what it is worth is what the hold of that sum in a sandbox is worth. -/
noncomputable def Try.pinned : Pinned := { name := "ytfpiaeodblbfjaa", sum := "77495bf4bf1c0b25df367856246eeeb53741da807509da7e164b66c80cfe3813", checked := Try.checked }
namespace Rows
def none {H : Type} : Left H := { results := [], args := [] }

/-- 'woodcutlaw03.NumApart': WHATEVER THE INPUT: true; the input reads as it did. -/
def numApartSpec : ChangeSpec := { name := "numApart", fn := fun _ => fun
  | [d1, d2, d3, d4] => { results := [.lit (.bool true)], args := [d1, d2, d3, d4] }
  | _ => none }
def numApartRow : OpenClaim := { program := "ytfpiaeodblbfjaa", sum := "77495bf4bf1c0b25df367856246eeeb53741da807509da7e164b66c80cfe3813", func := "woodcut/woodcutlaw03.NumApart", spec := "numApart", unfollowed := true, recurses := true, apart := false }
def NumApartSaid : Prop := numApartRow.holds Try.pinned (OpenSpec.ofChange numApartSpec)

/-- ITS FALSE NEIGHBOUR: 'it returns false'. Refute it at one input. -/
def numApartWrong : ChangeSpec := { name := "numApart", fn := fun _ => fun
  | [d1, d2, d3, d4] => { results := [.lit (.bool false)], args := [d1, d2, d3, d4] }
  | _ => none }
def NumApartWrongFalsely : Prop := numApartRow.holds Try.pinned (OpenSpec.ofChange numApartWrong)

/-- 'woodcutlaw05.FramePuts': WHATEVER THE INPUT: true; the input reads as it did. -/
def framePutsSpec : ChangeSpec := { name := "framePuts", fn := fun _ => fun
  | [d1, d2] => { results := [.lit (.bool true)], args := [d1, d2] }
  | _ => none }
def framePutsRow : OpenClaim := { program := "ytfpiaeodblbfjaa", sum := "77495bf4bf1c0b25df367856246eeeb53741da807509da7e164b66c80cfe3813", func := "woodcut/woodcutlaw05.FramePuts", spec := "framePuts", apart := false }
def FramePutsSaid : Prop := framePutsRow.holds Try.pinned (OpenSpec.ofChange framePutsSpec)

/-- ITS FALSE NEIGHBOUR: 'it returns false'. Refute it at one input. -/
def framePutsWrong : ChangeSpec := { name := "framePuts", fn := fun _ => fun
  | [d1, d2] => { results := [.lit (.bool false)], args := [d1, d2] }
  | _ => none }
def FramePutsWrongFalsely : Prop := framePutsRow.holds Try.pinned (OpenSpec.ofChange framePutsWrong)

/-- 'woodcutlaw03.NumTexts': WHATEVER THE INPUT: true; the input reads as it did. -/
def numTextsSpec : ChangeSpec := { name := "numTexts", fn := fun _ => fun
  | [d1, d2] => { results := [.lit (.bool true)], args := [d1, d2] }
  | _ => none }
def numTextsRow : OpenClaim := { program := "ytfpiaeodblbfjaa", sum := "77495bf4bf1c0b25df367856246eeeb53741da807509da7e164b66c80cfe3813", func := "woodcut/woodcutlaw03.NumTexts", spec := "numTexts", apart := false }
def NumTextsSaid : Prop := numTextsRow.holds Try.pinned (OpenSpec.ofChange numTextsSpec)

/-- ITS FALSE NEIGHBOUR: 'it returns false'. Refute it at one input. -/
def numTextsWrong : ChangeSpec := { name := "numTexts", fn := fun _ => fun
  | [d1, d2] => { results := [.lit (.bool false)], args := [d1, d2] }
  | _ => none }
def NumTextsWrongFalsely : Prop := numTextsRow.holds Try.pinned (OpenSpec.ofChange numTextsWrong)

/-- 'woodcutlaw03.NumPuts': WHATEVER THE INPUT: true; the input reads as it did. -/
def numPutsSpec : ChangeSpec := { name := "numPuts", fn := fun _ => fun
  | [d1, d2] => { results := [.lit (.bool true)], args := [d1, d2] }
  | _ => none }
def numPutsRow : OpenClaim := { program := "ytfpiaeodblbfjaa", sum := "77495bf4bf1c0b25df367856246eeeb53741da807509da7e164b66c80cfe3813", func := "woodcut/woodcutlaw03.NumPuts", spec := "numPuts", apart := false }
def NumPutsSaid : Prop := numPutsRow.holds Try.pinned (OpenSpec.ofChange numPutsSpec)

/-- ITS FALSE NEIGHBOUR: 'it returns false'. Refute it at one input. -/
def numPutsWrong : ChangeSpec := { name := "numPuts", fn := fun _ => fun
  | [d1, d2] => { results := [.lit (.bool false)], args := [d1, d2] }
  | _ => none }
def NumPutsWrongFalsely : Prop := numPutsRow.holds Try.pinned (OpenSpec.ofChange numPutsWrong)

/-- 'woodcutlaw03.NumNil': WHATEVER THE INPUT: true; the input reads as it did. -/
def numNilSpec : ChangeSpec := { name := "numNil", fn := fun _ => fun
  | [d] => { results := [.lit (.bool true)], args := [d] }
  | _ => none }
def numNilRow : OpenClaim := { program := "ytfpiaeodblbfjaa", sum := "77495bf4bf1c0b25df367856246eeeb53741da807509da7e164b66c80cfe3813", func := "woodcut/woodcutlaw03.NumNil", spec := "numNil", apart := false }
def NumNilSaid : Prop := numNilRow.holds Try.pinned (OpenSpec.ofChange numNilSpec)

/-- ITS FALSE NEIGHBOUR: 'it returns false'. Refute it at one input. -/
def numNilWrong : ChangeSpec := { name := "numNil", fn := fun _ => fun
  | [d] => { results := [.lit (.bool false)], args := [d] }
  | _ => none }
def NumNilWrongFalsely : Prop := numNilRow.holds Try.pinned (OpenSpec.ofChange numNilWrong)

/-- 'woodcutlaw05.FrameAlls': WHATEVER THE INPUT: true; the input reads as it did. -/
def frameAllsSpec : ChangeSpec := { name := "frameAlls", fn := fun _ => fun
  | [d1, d2, d3] => { results := [.lit (.bool true)], args := [d1, d2, d3] }
  | _ => none }
def frameAllsRow : OpenClaim := { program := "ytfpiaeodblbfjaa", sum := "77495bf4bf1c0b25df367856246eeeb53741da807509da7e164b66c80cfe3813", func := "woodcut/woodcutlaw05.FrameAlls", spec := "frameAlls", unfollowed := true, recurses := true, apart := false }
def FrameAllsSaid : Prop := frameAllsRow.holds Try.pinned (OpenSpec.ofChange frameAllsSpec)

/-- ITS FALSE NEIGHBOUR: 'it returns false'. Refute it at one input. -/
def frameAllsWrong : ChangeSpec := { name := "frameAlls", fn := fun _ => fun
  | [d1, d2, d3] => { results := [.lit (.bool false)], args := [d1, d2, d3] }
  | _ => none }
def FrameAllsWrongFalsely : Prop := frameAllsRow.holds Try.pinned (OpenSpec.ofChange frameAllsWrong)

/-- 'woodcutlaw05.FrameTurns': WHATEVER THE INPUT: true; the input reads as it did. -/
def frameTurnsSpec : ChangeSpec := { name := "frameTurns", fn := fun _ => fun
  | [d1, d2, d3] => { results := [.lit (.bool true)], args := [d1, d2, d3] }
  | _ => none }
def frameTurnsRow : OpenClaim := { program := "ytfpiaeodblbfjaa", sum := "77495bf4bf1c0b25df367856246eeeb53741da807509da7e164b66c80cfe3813", func := "woodcut/woodcutlaw05.FrameTurns", spec := "frameTurns", unfollowed := true, recurses := true, apart := false }
def FrameTurnsSaid : Prop := frameTurnsRow.holds Try.pinned (OpenSpec.ofChange frameTurnsSpec)

/-- ITS FALSE NEIGHBOUR: 'it returns false'. Refute it at one input. -/
def frameTurnsWrong : ChangeSpec := { name := "frameTurns", fn := fun _ => fun
  | [d1, d2, d3] => { results := [.lit (.bool false)], args := [d1, d2, d3] }
  | _ => none }
def FrameTurnsWrongFalsely : Prop := frameTurnsRow.holds Try.pinned (OpenSpec.ofChange frameTurnsWrong)

/- THE SECOND FORM. 'bulk': how many values and letters a reading holds, each counted each time it is reached (what is shared counts as often as it is met; a slice's spare places count too). A statement '..UptoSaid' is the law's where the arguments, and the package variables that the reading takes, are together of bulk at most 1048576: NARROWER than '..Said'. Prove '..Said' where nothing that the law and all that it calls make is longer than what came in: it says more and counts as full. Else prove '..UptoSaid'. A law counts once. -/
mutual
def uptoBulk {H : Type} : DataW H → Nat
  | .lit (.string bytes) => bytes.length + 1
  | .lit _ => 1
  | .nil => 1
  | .ptr d => uptoBulk d + 1
  | .slice elems spare => uptoBulkAll elems + uptoBulkAll spare + 1
  | .agg parts => uptoBulkAll parts + 1
  | .iface _ d => uptoBulk d + 1
  | .map entries => uptoBulkEntries entries + 1
  | .held _ => 1
def uptoBulkAll {H : Type} : List (DataW H) → Nat
  | [] => 0
  | d :: r => uptoBulk d + uptoBulkAll r
def uptoBulkEntries {H : Type} : List (Lit × DataW H) → Nat
  | [] => 0
  | x :: r => uptoBulkEntry x + uptoBulkEntries r
def uptoBulkEntry {H : Type} : Lit × DataW H → Nat
  | (.string bytes, d) => bytes.length + uptoBulk d + 1
  | (_, d) => uptoBulk d + 1
 end
def uptoSmall : (H : Type) → List (DataW H) → Bool := fun _ ds => decide (uptoBulkAll ds ≤ 1048576)
def OpenSpec.upto (s : _root_.Go.ChangeSpec) : _root_.Go.OpenSpec := { _root_.Go.OpenSpec.ofChange s with cond := some uptoSmall }

/-- 'woodcutlaw03.NumApart', WHERE WHAT IT READS IS OF BULK AT MOST 1048576: true; the input reads as it did. -/
def numApartUptoRow : OpenClaim := { program := "ytfpiaeodblbfjaa", sum := "77495bf4bf1c0b25df367856246eeeb53741da807509da7e164b66c80cfe3813", func := "woodcut/woodcutlaw03.NumApart", spec := "numApart", unfollowed := true, recurses := true, apart := false, narrowed := true }
def NumApartUptoSaid : Prop := numApartUptoRow.holds Try.pinned (OpenSpec.upto numApartSpec)

/-- 'woodcutlaw05.FramePuts', WHERE WHAT IT READS IS OF BULK AT MOST 1048576: true; the input reads as it did. -/
def framePutsUptoRow : OpenClaim := { program := "ytfpiaeodblbfjaa", sum := "77495bf4bf1c0b25df367856246eeeb53741da807509da7e164b66c80cfe3813", func := "woodcut/woodcutlaw05.FramePuts", spec := "framePuts", apart := false, narrowed := true }
def FramePutsUptoSaid : Prop := framePutsUptoRow.holds Try.pinned (OpenSpec.upto framePutsSpec)

/-- 'woodcutlaw03.NumTexts', WHERE WHAT IT READS IS OF BULK AT MOST 1048576: true; the input reads as it did. -/
def numTextsUptoRow : OpenClaim := { program := "ytfpiaeodblbfjaa", sum := "77495bf4bf1c0b25df367856246eeeb53741da807509da7e164b66c80cfe3813", func := "woodcut/woodcutlaw03.NumTexts", spec := "numTexts", apart := false, narrowed := true }
def NumTextsUptoSaid : Prop := numTextsUptoRow.holds Try.pinned (OpenSpec.upto numTextsSpec)

/-- 'woodcutlaw03.NumPuts', WHERE WHAT IT READS IS OF BULK AT MOST 1048576: true; the input reads as it did. -/
def numPutsUptoRow : OpenClaim := { program := "ytfpiaeodblbfjaa", sum := "77495bf4bf1c0b25df367856246eeeb53741da807509da7e164b66c80cfe3813", func := "woodcut/woodcutlaw03.NumPuts", spec := "numPuts", apart := false, narrowed := true }
def NumPutsUptoSaid : Prop := numPutsUptoRow.holds Try.pinned (OpenSpec.upto numPutsSpec)

/-- 'woodcutlaw03.NumNil', WHERE WHAT IT READS IS OF BULK AT MOST 1048576: true; the input reads as it did. -/
def numNilUptoRow : OpenClaim := { program := "ytfpiaeodblbfjaa", sum := "77495bf4bf1c0b25df367856246eeeb53741da807509da7e164b66c80cfe3813", func := "woodcut/woodcutlaw03.NumNil", spec := "numNil", apart := false, narrowed := true }
def NumNilUptoSaid : Prop := numNilUptoRow.holds Try.pinned (OpenSpec.upto numNilSpec)

/-- 'woodcutlaw05.FrameAlls', WHERE WHAT IT READS IS OF BULK AT MOST 1048576: true; the input reads as it did. -/
def frameAllsUptoRow : OpenClaim := { program := "ytfpiaeodblbfjaa", sum := "77495bf4bf1c0b25df367856246eeeb53741da807509da7e164b66c80cfe3813", func := "woodcut/woodcutlaw05.FrameAlls", spec := "frameAlls", unfollowed := true, recurses := true, apart := false, narrowed := true }
def FrameAllsUptoSaid : Prop := frameAllsUptoRow.holds Try.pinned (OpenSpec.upto frameAllsSpec)

/-- 'woodcutlaw05.FrameTurns', WHERE WHAT IT READS IS OF BULK AT MOST 1048576: true; the input reads as it did. -/
def frameTurnsUptoRow : OpenClaim := { program := "ytfpiaeodblbfjaa", sum := "77495bf4bf1c0b25df367856246eeeb53741da807509da7e164b66c80cfe3813", func := "woodcut/woodcutlaw05.FrameTurns", spec := "frameTurns", unfollowed := true, recurses := true, apart := false, narrowed := true }
def FrameTurnsUptoSaid : Prop := frameTurnsUptoRow.holds Try.pinned (OpenSpec.upto frameTurnsSpec)

end Rows
end Go.Proofs.Ytfpiaeodblbfjaa
