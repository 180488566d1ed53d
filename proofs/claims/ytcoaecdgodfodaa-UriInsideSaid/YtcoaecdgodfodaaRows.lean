/-
  No cell of these rows narrows 'for every input' (looked for: loops, veiled, ifaces, maps, wideKeys, modest, calm, conditions, laid).
  DERIVED. THE GIVEN ROWS OF THIS SEAT. 7 by the template 'for every input the law returns true; each argument reads behind the call as it read before'; 0 by the template 'total and deterministic' (their statements: YtcoaecdgodfodaaTotals.lean).
  GIVEN WITH THE SEED: the statements are not yours to turn. If you find one false, say at which input.
  Laid BY PROGRAM, IN A SANDBOX (cutbox-rows.mjs): the forced cells as the released guide's own fill.sh prints them over the translation f91cf3bd0f05c113… (all of the seat's roots in one cut). By AI agents, Wed Nov 11 2026. No macro, syntax, notation, axiom, sorry.
-/
import Derived.Test.YtcoaecdgodfodaaChecked
import GoSem.Claim
import GoSem.ClaimJoined
import GoSem.ClaimMapViews
import Derived.JoinedTies
import Derived.KernelRfl
namespace Go.Proofs.Ytcoaecdgodfodaa
/- THE CELL 'sum', in the pinned program and in every row, IS THE sha256 OF THE DUMP (.gsa) THAT YtcoaecdgodfodaaProg.lean LOADS. Nothing in Lean hashes anything: it is a label: what it is worth is what the hold of that sum in a sandbox is worth. -/
noncomputable def Try.pinned : Pinned := { name := "ytcoaecdgodfodaa", sum := "f91cf3bd0f05c113bbd3e6098ac6848cde0ae2d7dbee94d658c90b8be0da7c5b", checked := Try.checked }
namespace Rows
def none {H : Type} : Left H := { results := [], args := [] }

/-- 'woodcutlaw15.UriDots': WHATEVER THE INPUT: true; the input reads as it did. -/
def uriDotsSpec : ChangeSpec := { name := "uriDots", fn := fun _ => fun
  | [d] => { results := [.lit (.bool true)], args := [d] }
  | _ => none }
def uriDotsRow : OpenClaim := { program := "ytcoaecdgodfodaa", sum := "f91cf3bd0f05c113bbd3e6098ac6848cde0ae2d7dbee94d658c90b8be0da7c5b", func := "woodcut/woodcutlaw15.UriDots", spec := "uriDots", inPlace := ["internal/bytealg.IndexByteString", "internal/bytealg.IndexString"], unfollowed := true, recurses := true, named := ["internal/bytealg.MaxLen"], apart := false }
def UriDotsSaid : Prop := uriDotsRow.holds Try.pinned (OpenSpec.ofChange uriDotsSpec)

/-- ITS FALSE NEIGHBOUR: 'it returns false'. Refute it at one input. -/
def uriDotsWrong : ChangeSpec := { name := "uriDots", fn := fun _ => fun
  | [d] => { results := [.lit (.bool false)], args := [d] }
  | _ => none }
def UriDotsWrongFalsely : Prop := uriDotsRow.holds Try.pinned (OpenSpec.ofChange uriDotsWrong)

/-- 'woodcutlaw15.UriAny': WHATEVER THE INPUT: true; the input reads as it did. -/
def uriAnySpec : ChangeSpec := { name := "uriAny", fn := fun _ => fun
  | [d1, d2] => { results := [.lit (.bool true)], args := [d1, d2] }
  | _ => none }
def uriAnyRow : OpenClaim := { program := "ytcoaecdgodfodaa", sum := "f91cf3bd0f05c113bbd3e6098ac6848cde0ae2d7dbee94d658c90b8be0da7c5b", func := "woodcut/woodcutlaw15.UriAny", spec := "uriAny", inPlace := ["internal/bytealg.IndexByteString", "internal/bytealg.IndexString"], unfollowed := true, recurses := true, named := ["internal/bytealg.MaxLen"], apart := false }
def UriAnySaid : Prop := uriAnyRow.holds Try.pinned (OpenSpec.ofChange uriAnySpec)

/-- ITS FALSE NEIGHBOUR: 'it returns false'. Refute it at one input. -/
def uriAnyWrong : ChangeSpec := { name := "uriAny", fn := fun _ => fun
  | [d1, d2] => { results := [.lit (.bool false)], args := [d1, d2] }
  | _ => none }
def UriAnyWrongFalsely : Prop := uriAnyRow.holds Try.pinned (OpenSpec.ofChange uriAnyWrong)

/-- 'woodcutlaw15.UriTargets': WHATEVER THE INPUT: true; the input reads as it did. -/
def uriTargetsSpec : ChangeSpec := { name := "uriTargets", fn := fun _ => fun
  | [d1, d2] => { results := [.lit (.bool true)], args := [d1, d2] }
  | _ => none }
def uriTargetsRow : OpenClaim := { program := "ytcoaecdgodfodaa", sum := "f91cf3bd0f05c113bbd3e6098ac6848cde0ae2d7dbee94d658c90b8be0da7c5b", func := "woodcut/woodcutlaw15.UriTargets", spec := "uriTargets", inPlace := ["internal/bytealg.IndexByteString", "internal/bytealg.IndexString"], unfollowed := true, recurses := true, named := ["internal/bytealg.MaxLen"], apart := false }
def UriTargetsSaid : Prop := uriTargetsRow.holds Try.pinned (OpenSpec.ofChange uriTargetsSpec)

/-- ITS FALSE NEIGHBOUR: 'it returns false'. Refute it at one input. -/
def uriTargetsWrong : ChangeSpec := { name := "uriTargets", fn := fun _ => fun
  | [d1, d2] => { results := [.lit (.bool false)], args := [d1, d2] }
  | _ => none }
def UriTargetsWrongFalsely : Prop := uriTargetsRow.holds Try.pinned (OpenSpec.ofChange uriTargetsWrong)

/-- 'woodcutlaw15.UriInside': WHATEVER THE INPUT: true; the input reads as it did. -/
def uriInsideSpec : ChangeSpec := { name := "uriInside", fn := fun _ => fun
  | [d1, d2] => { results := [.lit (.bool true)], args := [d1, d2] }
  | _ => none }
def uriInsideRow : OpenClaim := { program := "ytcoaecdgodfodaa", sum := "f91cf3bd0f05c113bbd3e6098ac6848cde0ae2d7dbee94d658c90b8be0da7c5b", func := "woodcut/woodcutlaw15.UriInside", spec := "uriInside", inPlace := ["internal/bytealg.IndexByteString", "internal/bytealg.IndexString"], unfollowed := true, recurses := true, named := ["internal/bytealg.MaxLen"], apart := false }
def UriInsideSaid : Prop := uriInsideRow.holds Try.pinned (OpenSpec.ofChange uriInsideSpec)

/-- ITS FALSE NEIGHBOUR: 'it returns false'. Refute it at one input. -/
def uriInsideWrong : ChangeSpec := { name := "uriInside", fn := fun _ => fun
  | [d1, d2] => { results := [.lit (.bool false)], args := [d1, d2] }
  | _ => none }
def UriInsideWrongFalsely : Prop := uriInsideRow.holds Try.pinned (OpenSpec.ofChange uriInsideWrong)

/-- 'woodcutlaw15.UriCodes': WHATEVER THE INPUT: true; the input reads as it did. -/
def uriCodesSpec : ChangeSpec := { name := "uriCodes", fn := fun _ => fun
  | [d1, d2, d3] => { results := [.lit (.bool true)], args := [d1, d2, d3] }
  | _ => none }
def uriCodesRow : OpenClaim := { program := "ytcoaecdgodfodaa", sum := "f91cf3bd0f05c113bbd3e6098ac6848cde0ae2d7dbee94d658c90b8be0da7c5b", func := "woodcut/woodcutlaw15.UriCodes", spec := "uriCodes", inPlace := ["internal/bytealg.IndexByteString", "internal/bytealg.IndexString"], unfollowed := true, recurses := true, named := ["internal/bytealg.MaxLen"], apart := false }
def UriCodesSaid : Prop := uriCodesRow.holds Try.pinned (OpenSpec.ofChange uriCodesSpec)

/-- ITS FALSE NEIGHBOUR: 'it returns false'. Refute it at one input. -/
def uriCodesWrong : ChangeSpec := { name := "uriCodes", fn := fun _ => fun
  | [d1, d2, d3] => { results := [.lit (.bool false)], args := [d1, d2, d3] }
  | _ => none }
def UriCodesWrongFalsely : Prop := uriCodesRow.holds Try.pinned (OpenSpec.ofChange uriCodesWrong)

/-- 'woodcutlaw15.UriParts': WHATEVER THE INPUT: true; the input reads as it did. -/
def uriPartsSpec : ChangeSpec := { name := "uriParts", fn := fun _ => fun
  | [d] => { results := [.lit (.bool true)], args := [d] }
  | _ => none }
def uriPartsRow : OpenClaim := { program := "ytcoaecdgodfodaa", sum := "f91cf3bd0f05c113bbd3e6098ac6848cde0ae2d7dbee94d658c90b8be0da7c5b", func := "woodcut/woodcutlaw15.UriParts", spec := "uriParts", inPlace := ["internal/bytealg.IndexByteString", "internal/bytealg.IndexString", "internal/abi.NoEscape"], unfollowed := true, recurses := true, named := ["internal/bytealg.MaxLen"], apart := false }
def UriPartsSaid : Prop := uriPartsRow.holds Try.pinned (OpenSpec.ofChange uriPartsSpec)

/-- ITS FALSE NEIGHBOUR: 'it returns false'. Refute it at one input. -/
def uriPartsWrong : ChangeSpec := { name := "uriParts", fn := fun _ => fun
  | [d] => { results := [.lit (.bool false)], args := [d] }
  | _ => none }
def UriPartsWrongFalsely : Prop := uriPartsRow.holds Try.pinned (OpenSpec.ofChange uriPartsWrong)

/-- 'woodcutlaw15.UriResolves': WHATEVER THE INPUT: true; the input reads as it did. -/
def uriResolvesSpec : ChangeSpec := { name := "uriResolves", fn := fun _ => fun
  | [d1, d2] => { results := [.lit (.bool true)], args := [d1, d2] }
  | _ => none }
def uriResolvesRow : OpenClaim := { program := "ytcoaecdgodfodaa", sum := "f91cf3bd0f05c113bbd3e6098ac6848cde0ae2d7dbee94d658c90b8be0da7c5b", func := "woodcut/woodcutlaw15.UriResolves", spec := "uriResolves", inPlace := ["internal/bytealg.IndexByteString", "internal/bytealg.IndexString", "internal/abi.NoEscape"], unfollowed := true, recurses := true, named := ["internal/bytealg.MaxLen"], apart := false }
def UriResolvesSaid : Prop := uriResolvesRow.holds Try.pinned (OpenSpec.ofChange uriResolvesSpec)

/-- ITS FALSE NEIGHBOUR: 'it returns false'. Refute it at one input. -/
def uriResolvesWrong : ChangeSpec := { name := "uriResolves", fn := fun _ => fun
  | [d1, d2] => { results := [.lit (.bool false)], args := [d1, d2] }
  | _ => none }
def UriResolvesWrongFalsely : Prop := uriResolvesRow.holds Try.pinned (OpenSpec.ofChange uriResolvesWrong)

/- THE SECOND FORM. 'bulk': how many values and letters a reading holds, each counted each time it is reached (what is shared counts as often as it is met; a slice's spare places count too). A statement '..UptoSaid' is the law's where the arguments, and the package variables that the reading takes, are together of bulk at most 1048576: NARROWER than '..Said'. Prove '..Said' where nothing that the law and all that it calls make is longer than what came in: it says more and counts as full. Else prove '..UptoSaid'. A law counts once. -/
mutual
def uptoBulk {H : Type} : DataW H → Nat
  | .lit (.string bytes) => bytes.length + 1
  | .lit _ => 1
  | .nil => 1
  | .ptr d => uptoBulk d + 1
  | .slice elems spare => uptoBulkAll elems + uptoBulkAll spare + 1
  | .agg parts => uptoBulkAll parts + 1
  | .iface _ d => uptoBulk d + 1
  | .map entries => uptoBulkEntries entries + 1
  | .held _ => 1
def uptoBulkAll {H : Type} : List (DataW H) → Nat
  | [] => 0
  | d :: r => uptoBulk d + uptoBulkAll r
def uptoBulkEntries {H : Type} : List (Lit × DataW H) → Nat
  | [] => 0
  | x :: r => uptoBulkEntry x + uptoBulkEntries r
def uptoBulkEntry {H : Type} : Lit × DataW H → Nat
  | (.string bytes, d) => bytes.length + uptoBulk d + 1
  | (_, d) => uptoBulk d + 1
 end
def uptoSmall : (H : Type) → List (DataW H) → Bool := fun _ ds => decide (uptoBulkAll ds ≤ 1048576)
def OpenSpec.upto (s : _root_.Go.ChangeSpec) : _root_.Go.OpenSpec := { _root_.Go.OpenSpec.ofChange s with cond := some uptoSmall }

/-- 'woodcutlaw15.UriDots', WHERE WHAT IT READS IS OF BULK AT MOST 1048576: true; the input reads as it did. -/
def uriDotsUptoRow : OpenClaim := { program := "ytcoaecdgodfodaa", sum := "f91cf3bd0f05c113bbd3e6098ac6848cde0ae2d7dbee94d658c90b8be0da7c5b", func := "woodcut/woodcutlaw15.UriDots", spec := "uriDots", inPlace := ["internal/bytealg.IndexByteString", "internal/bytealg.IndexString"], unfollowed := true, recurses := true, named := ["internal/bytealg.MaxLen"], apart := false, narrowed := true }
def UriDotsUptoSaid : Prop := uriDotsUptoRow.holds Try.pinned (OpenSpec.upto uriDotsSpec)

/-- 'woodcutlaw15.UriAny', WHERE WHAT IT READS IS OF BULK AT MOST 1048576: true; the input reads as it did. -/
def uriAnyUptoRow : OpenClaim := { program := "ytcoaecdgodfodaa", sum := "f91cf3bd0f05c113bbd3e6098ac6848cde0ae2d7dbee94d658c90b8be0da7c5b", func := "woodcut/woodcutlaw15.UriAny", spec := "uriAny", inPlace := ["internal/bytealg.IndexByteString", "internal/bytealg.IndexString"], unfollowed := true, recurses := true, named := ["internal/bytealg.MaxLen"], apart := false, narrowed := true }
def UriAnyUptoSaid : Prop := uriAnyUptoRow.holds Try.pinned (OpenSpec.upto uriAnySpec)

/-- 'woodcutlaw15.UriTargets', WHERE WHAT IT READS IS OF BULK AT MOST 1048576: true; the input reads as it did. -/
def uriTargetsUptoRow : OpenClaim := { program := "ytcoaecdgodfodaa", sum := "f91cf3bd0f05c113bbd3e6098ac6848cde0ae2d7dbee94d658c90b8be0da7c5b", func := "woodcut/woodcutlaw15.UriTargets", spec := "uriTargets", inPlace := ["internal/bytealg.IndexByteString", "internal/bytealg.IndexString"], unfollowed := true, recurses := true, named := ["internal/bytealg.MaxLen"], apart := false, narrowed := true }
def UriTargetsUptoSaid : Prop := uriTargetsUptoRow.holds Try.pinned (OpenSpec.upto uriTargetsSpec)

/-- 'woodcutlaw15.UriInside', WHERE WHAT IT READS IS OF BULK AT MOST 1048576: true; the input reads as it did. -/
def uriInsideUptoRow : OpenClaim := { program := "ytcoaecdgodfodaa", sum := "f91cf3bd0f05c113bbd3e6098ac6848cde0ae2d7dbee94d658c90b8be0da7c5b", func := "woodcut/woodcutlaw15.UriInside", spec := "uriInside", inPlace := ["internal/bytealg.IndexByteString", "internal/bytealg.IndexString"], unfollowed := true, recurses := true, named := ["internal/bytealg.MaxLen"], apart := false, narrowed := true }
def UriInsideUptoSaid : Prop := uriInsideUptoRow.holds Try.pinned (OpenSpec.upto uriInsideSpec)

/-- 'woodcutlaw15.UriCodes', WHERE WHAT IT READS IS OF BULK AT MOST 1048576: true; the input reads as it did. -/
def uriCodesUptoRow : OpenClaim := { program := "ytcoaecdgodfodaa", sum := "f91cf3bd0f05c113bbd3e6098ac6848cde0ae2d7dbee94d658c90b8be0da7c5b", func := "woodcut/woodcutlaw15.UriCodes", spec := "uriCodes", inPlace := ["internal/bytealg.IndexByteString", "internal/bytealg.IndexString"], unfollowed := true, recurses := true, named := ["internal/bytealg.MaxLen"], apart := false, narrowed := true }
def UriCodesUptoSaid : Prop := uriCodesUptoRow.holds Try.pinned (OpenSpec.upto uriCodesSpec)

/-- 'woodcutlaw15.UriParts', WHERE WHAT IT READS IS OF BULK AT MOST 1048576: true; the input reads as it did. -/
def uriPartsUptoRow : OpenClaim := { program := "ytcoaecdgodfodaa", sum := "f91cf3bd0f05c113bbd3e6098ac6848cde0ae2d7dbee94d658c90b8be0da7c5b", func := "woodcut/woodcutlaw15.UriParts", spec := "uriParts", inPlace := ["internal/bytealg.IndexByteString", "internal/bytealg.IndexString", "internal/abi.NoEscape"], unfollowed := true, recurses := true, named := ["internal/bytealg.MaxLen"], apart := false, narrowed := true }
def UriPartsUptoSaid : Prop := uriPartsUptoRow.holds Try.pinned (OpenSpec.upto uriPartsSpec)

/-- 'woodcutlaw15.UriResolves', WHERE WHAT IT READS IS OF BULK AT MOST 1048576: true; the input reads as it did. -/
def uriResolvesUptoRow : OpenClaim := { program := "ytcoaecdgodfodaa", sum := "f91cf3bd0f05c113bbd3e6098ac6848cde0ae2d7dbee94d658c90b8be0da7c5b", func := "woodcut/woodcutlaw15.UriResolves", spec := "uriResolves", inPlace := ["internal/bytealg.IndexByteString", "internal/bytealg.IndexString", "internal/abi.NoEscape"], unfollowed := true, recurses := true, named := ["internal/bytealg.MaxLen"], apart := false, narrowed := true }
def UriResolvesUptoSaid : Prop := uriResolvesUptoRow.holds Try.pinned (OpenSpec.upto uriResolvesSpec)

end Rows
end Go.Proofs.Ytcoaecdgodfodaa
