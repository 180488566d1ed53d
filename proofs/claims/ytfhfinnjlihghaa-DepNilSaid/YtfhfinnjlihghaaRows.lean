/-
  No cell of these rows narrows 'for every input' (looked for: loops, veiled, ifaces, maps, wideKeys, modest, calm, conditions, laid).
  DERIVED. THE GIVEN ROWS OF THIS SEAT. 4 by the template 'for every input the law returns true; each argument reads behind the call as it read before'; 0 by the template 'total and deterministic' (their statements: YtfhfinnjlihghaaTotals.lean).
  GIVEN WITH THE SEED: the statements are not yours to turn. If you find one false, say at which input.
  Laid BY PROGRAM, IN A SANDBOX (cutbox-rows.mjs): the forced cells as the released guide's own fill.sh prints them over the translation 6e462128fbb62117… (all of the seat's roots in one cut). By AI agents, Wed Nov 11 2026. No macro, syntax, notation, axiom, sorry.
-/
import Derived.Test.YtfhfinnjlihghaaChecked
import GoSem.Claim
import GoSem.ClaimJoined
import GoSem.ClaimMapViews
import Derived.JoinedTies
import Derived.KernelRfl
namespace Go.Proofs.Ytfhfinnjlihghaa
/- THE CELL 'sum', in the pinned program and in every row, IS THE sha256 OF THE DUMP (.gsa) THAT YtfhfinnjlihghaaProg.lean LOADS. Nothing in Lean hashes anything: it is a label: what it is worth is what the hold of that sum in a sandbox is worth. -/
noncomputable def Try.pinned : Pinned := { name := "ytfhfinnjlihghaa", sum := "6e462128fbb62117280f3d9db122a3ea4715490f1ef82918f4dcce06d20fb37f", checked := Try.checked }
namespace Rows
def none {H : Type} : Left H := { results := [], args := [] }

/-- 'woodcutlaw20.DepOnce': WHATEVER THE INPUT: true; the input reads as it did. -/
def depOnceSpec : ChangeSpec := { name := "depOnce", fn := fun _ => fun
  | [d1, d2, d3] => { results := [.lit (.bool true)], args := [d1, d2, d3] }
  | _ => none }
def depOnceRow : OpenClaim := { program := "ytfhfinnjlihghaa", sum := "6e462128fbb62117280f3d9db122a3ea4715490f1ef82918f4dcce06d20fb37f", func := "woodcut/woodcutlaw20.DepOnce", spec := "depOnce", inPlace := ["slices.overlaps[string]", "slices.overlaps[bool]", "slices.overlaps[int]"], unfollowed := true, recurses := true, apart := false }
def DepOnceSaid : Prop := depOnceRow.holds Try.pinned (OpenSpec.ofChange depOnceSpec)

/-- ITS FALSE NEIGHBOUR: 'it returns false'. Refute it at one input. -/
def depOnceWrong : ChangeSpec := { name := "depOnce", fn := fun _ => fun
  | [d1, d2, d3] => { results := [.lit (.bool false)], args := [d1, d2, d3] }
  | _ => none }
def DepOnceWrongFalsely : Prop := depOnceRow.holds Try.pinned (OpenSpec.ofChange depOnceWrong)

/-- 'woodcutlaw20.DepApart': WHATEVER THE INPUT: true; the input reads as it did. -/
def depApartSpec : ChangeSpec := { name := "depApart", fn := fun _ => fun
  | [d1, d2, d3] => { results := [.lit (.bool true)], args := [d1, d2, d3] }
  | _ => none }
def depApartRow : OpenClaim := { program := "ytfhfinnjlihghaa", sum := "6e462128fbb62117280f3d9db122a3ea4715490f1ef82918f4dcce06d20fb37f", func := "woodcut/woodcutlaw20.DepApart", spec := "depApart", inPlace := ["slices.overlaps[string]", "slices.overlaps[bool]", "slices.overlaps[int]"], unfollowed := true, recurses := true, apart := false }
def DepApartSaid : Prop := depApartRow.holds Try.pinned (OpenSpec.ofChange depApartSpec)

/-- ITS FALSE NEIGHBOUR: 'it returns false'. Refute it at one input. -/
def depApartWrong : ChangeSpec := { name := "depApart", fn := fun _ => fun
  | [d1, d2, d3] => { results := [.lit (.bool false)], args := [d1, d2, d3] }
  | _ => none }
def DepApartWrongFalsely : Prop := depApartRow.holds Try.pinned (OpenSpec.ofChange depApartWrong)

/-- 'woodcutlaw20.DepRuns': WHATEVER THE INPUT: true; the input reads as it did. -/
def depRunsSpec : ChangeSpec := { name := "depRuns", fn := fun _ => fun
  | [d1, d2] => { results := [.lit (.bool true)], args := [d1, d2] }
  | _ => none }
def depRunsRow : OpenClaim := { program := "ytfhfinnjlihghaa", sum := "6e462128fbb62117280f3d9db122a3ea4715490f1ef82918f4dcce06d20fb37f", func := "woodcut/woodcutlaw20.DepRuns", spec := "depRuns", inPlace := ["slices.overlaps[string]", "slices.overlaps[bool]", "slices.overlaps[int]", "slices.overlaps[*woodcut/dep.Record]"], unfollowed := true, recurses := true, apart := false }
def DepRunsSaid : Prop := depRunsRow.holds Try.pinned (OpenSpec.ofChange depRunsSpec)

/-- ITS FALSE NEIGHBOUR: 'it returns false'. Refute it at one input. -/
def depRunsWrong : ChangeSpec := { name := "depRuns", fn := fun _ => fun
  | [d1, d2] => { results := [.lit (.bool false)], args := [d1, d2] }
  | _ => none }
def DepRunsWrongFalsely : Prop := depRunsRow.holds Try.pinned (OpenSpec.ofChange depRunsWrong)

/-- 'woodcutlaw20.DepNil': WHATEVER THE INPUT: true; the input reads as it did. -/
def depNilSpec : ChangeSpec := { name := "depNil", fn := fun _ => fun
  | [d] => { results := [.lit (.bool true)], args := [d] }
  | _ => none }
def depNilRow : OpenClaim := { program := "ytfhfinnjlihghaa", sum := "6e462128fbb62117280f3d9db122a3ea4715490f1ef82918f4dcce06d20fb37f", func := "woodcut/woodcutlaw20.DepNil", spec := "depNil", inPlace := ["slices.overlaps[string]", "slices.overlaps[bool]", "slices.overlaps[int]", "slices.overlaps[*woodcut/dep.Record]"], unfollowed := true, recurses := true, apart := false }
def DepNilSaid : Prop := depNilRow.holds Try.pinned (OpenSpec.ofChange depNilSpec)

/-- ITS FALSE NEIGHBOUR: 'it returns false'. Refute it at one input. -/
def depNilWrong : ChangeSpec := { name := "depNil", fn := fun _ => fun
  | [d] => { results := [.lit (.bool false)], args := [d] }
  | _ => none }
def DepNilWrongFalsely : Prop := depNilRow.holds Try.pinned (OpenSpec.ofChange depNilWrong)

/- THE SECOND FORM. 'bulk': how many values and letters a reading holds, each counted each time it is reached (what is shared counts as often as it is met; a slice's spare places count too). A statement '..UptoSaid' is the law's where the arguments, and the package variables that the reading takes, are together of bulk at most 1048576: NARROWER than '..Said'. Prove '..Said' where nothing that the law and all that it calls make is longer than what came in: it says more and counts as full. Else prove '..UptoSaid'. A law counts once. -/
mutual
def uptoBulk {H : Type} : DataW H → Nat
  | .lit (.string bytes) => bytes.length + 1
  | .lit _ => 1
  | .nil => 1
  | .ptr d => uptoBulk d + 1
  | .slice elems spare => uptoBulkAll elems + uptoBulkAll spare + 1
  | .agg parts => uptoBulkAll parts + 1
  | .iface _ d => uptoBulk d + 1
  | .map entries => uptoBulkEntries entries + 1
  | .held _ => 1
def uptoBulkAll {H : Type} : List (DataW H) → Nat
  | [] => 0
  | d :: r => uptoBulk d + uptoBulkAll r
def uptoBulkEntries {H : Type} : List (Lit × DataW H) → Nat
  | [] => 0
  | x :: r => uptoBulkEntry x + uptoBulkEntries r
def uptoBulkEntry {H : Type} : Lit × DataW H → Nat
  | (.string bytes, d) => bytes.length + uptoBulk d + 1
  | (_, d) => uptoBulk d + 1
 end
def uptoSmall : (H : Type) → List (DataW H) → Bool := fun _ ds => decide (uptoBulkAll ds ≤ 1048576)
def OpenSpec.upto (s : _root_.Go.ChangeSpec) : _root_.Go.OpenSpec := { _root_.Go.OpenSpec.ofChange s with cond := some uptoSmall }

/-- 'woodcutlaw20.DepOnce', WHERE WHAT IT READS IS OF BULK AT MOST 1048576: true; the input reads as it did. -/
def depOnceUptoRow : OpenClaim := { program := "ytfhfinnjlihghaa", sum := "6e462128fbb62117280f3d9db122a3ea4715490f1ef82918f4dcce06d20fb37f", func := "woodcut/woodcutlaw20.DepOnce", spec := "depOnce", inPlace := ["slices.overlaps[string]", "slices.overlaps[bool]", "slices.overlaps[int]"], unfollowed := true, recurses := true, apart := false, narrowed := true }
def DepOnceUptoSaid : Prop := depOnceUptoRow.holds Try.pinned (OpenSpec.upto depOnceSpec)

/-- 'woodcutlaw20.DepApart', WHERE WHAT IT READS IS OF BULK AT MOST 1048576: true; the input reads as it did. -/
def depApartUptoRow : OpenClaim := { program := "ytfhfinnjlihghaa", sum := "6e462128fbb62117280f3d9db122a3ea4715490f1ef82918f4dcce06d20fb37f", func := "woodcut/woodcutlaw20.DepApart", spec := "depApart", inPlace := ["slices.overlaps[string]", "slices.overlaps[bool]", "slices.overlaps[int]"], unfollowed := true, recurses := true, apart := false, narrowed := true }
def DepApartUptoSaid : Prop := depApartUptoRow.holds Try.pinned (OpenSpec.upto depApartSpec)

/-- 'woodcutlaw20.DepRuns', WHERE WHAT IT READS IS OF BULK AT MOST 1048576: true; the input reads as it did. -/
def depRunsUptoRow : OpenClaim := { program := "ytfhfinnjlihghaa", sum := "6e462128fbb62117280f3d9db122a3ea4715490f1ef82918f4dcce06d20fb37f", func := "woodcut/woodcutlaw20.DepRuns", spec := "depRuns", inPlace := ["slices.overlaps[string]", "slices.overlaps[bool]", "slices.overlaps[int]", "slices.overlaps[*woodcut/dep.Record]"], unfollowed := true, recurses := true, apart := false, narrowed := true }
def DepRunsUptoSaid : Prop := depRunsUptoRow.holds Try.pinned (OpenSpec.upto depRunsSpec)

/-- 'woodcutlaw20.DepNil', WHERE WHAT IT READS IS OF BULK AT MOST 1048576: true; the input reads as it did. -/
def depNilUptoRow : OpenClaim := { program := "ytfhfinnjlihghaa", sum := "6e462128fbb62117280f3d9db122a3ea4715490f1ef82918f4dcce06d20fb37f", func := "woodcut/woodcutlaw20.DepNil", spec := "depNil", inPlace := ["slices.overlaps[string]", "slices.overlaps[bool]", "slices.overlaps[int]", "slices.overlaps[*woodcut/dep.Record]"], unfollowed := true, recurses := true, apart := false, narrowed := true }
def DepNilUptoSaid : Prop := depNilUptoRow.holds Try.pinned (OpenSpec.upto depNilSpec)

end Rows
end Go.Proofs.Ytfhfinnjlihghaa
