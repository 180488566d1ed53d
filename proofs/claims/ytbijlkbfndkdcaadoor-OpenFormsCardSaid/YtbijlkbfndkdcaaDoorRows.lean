/-
  NARROWER THAN 'FOR EVERY INPUT', by the rows' own cells (each row's printed sentence says how): OpenEnds: laid · OpenAlike: laid · OpenForms: laid · OpenStacks: laid.
  DERIVED. THE GIVEN ROWS OF THIS SEAT. 4 by the template 'for every input the law returns true; each argument reads behind the call as it read before'; 0 by the template 'total and deterministic' (their statements: YtbijlkbfndkdcaaDoorTotals.lean).
  GIVEN WITH THE SEED: the statements are not yours to turn. If you find one false, say at which input.
  Laid BY PROGRAM, IN A SANDBOX (cutbox-rows.mjs): the forced cells as the released guide's own fill.sh prints them over the translation 4c99de03a72129bb… (all of the seat's roots in one cut). By AI agents, Wed Nov 11 2026. No macro, syntax, notation, axiom, sorry.
-/
import Derived.Test.YtbijlkbfndkdcaaDoorChecked
import GoSem.Claim
import GoSem.ClaimJoined
import GoSem.ClaimMapViews
import Derived.JoinedTies
import Derived.KernelRfl
namespace Go.Proofs.YtbijlkbfndkdcaaDoor
/- THE CELL 'sum', in the pinned program and in every row, IS THE sha256 OF THE DUMP (.gsa) THAT YtbijlkbfndkdcaaDoorProg.lean LOADS. Nothing in Lean hashes anything: it is a label: what it is worth is what the hold of that sum in a sandbox is worth. -/
noncomputable def Tryd.pinned : Pinned := { name := "ytbijlkbfndkdcaadoor", sum := "4c99de03a72129bbb005bb9ffbc336c520f4bcbb8bcb4bb7cc64d67d3496d389", checked := Tryd.checked }
namespace Rows
def none {H : Type} : Left H := { results := [], args := [] }

/- WHAT THE LISTED PACKAGE-LEVEL VARIABLES READ AS WHEN THE CALL BEGINS. Each datum BY PROGRAM (the guide's laid-datum.mjs) off the statement by which the dump's own 'gosem.cut.vars' lays the variable. In a bare row this is a premise. The card (YtbijlkbfndkdcaaDoorCards.lean) ties it to the program's text. -/
def laid_woodcut_open_usual {H : Type} : DataW H := .slice [.lit (.string [97, 112, 112, 108, 101, 116]), .lit (.string [99, 97, 112, 116, 105, 111, 110]), .lit (.string [104, 116, 109, 108]), .lit (.string [116, 97, 98, 108, 101]), .lit (.string [116, 100]), .lit (.string [116, 104]), .lit (.string [109, 97, 114, 113, 117, 101, 101]), .lit (.string [111, 98, 106, 101, 99, 116]), .lit (.string [116, 101, 109, 112, 108, 97, 116, 101])] []
def laid_woodcut_open_implied {H : Type} : DataW H := .slice [.lit (.string [100, 100]), .lit (.string [100, 116]), .lit (.string [108, 105]), .lit (.string [111, 112, 116, 103, 114, 111, 117, 112]), .lit (.string [111, 112, 116, 105, 111, 110]), .lit (.string [112]), .lit (.string [114, 98]), .lit (.string [114, 112]), .lit (.string [114, 116]), .lit (.string [114, 116, 99])] []

/-- 'woodcutlaw11.OpenEnds': WHATEVER THE INPUT: true; the input reads as it did. -/
def openEndsSpec : ChangeSpec := { name := "openEnds", fn := fun _ => fun
  | [d1, d2, d3, d4] => { results := [.lit (.bool true)], args := [d1, d2, d3, d4] }
  | _ => none }
def openEndsRow : OpenClaim := { program := "ytbijlkbfndkdcaadoor", sum := "4c99de03a72129bbb005bb9ffbc336c520f4bcbb8bcb4bb7cc64d67d3496d389", func := "woodcut/woodcutlaw11.OpenEnds", spec := "openEnds", unfollowed := true, recurses := true, named := ["woodcut/open.usual", "woodcut/open.implied"], apart := false, laid := [("woodcut/open.usual", laid_woodcut_open_usual), ("woodcut/open.implied", laid_woodcut_open_implied)] }
def OpenEndsSaid : Prop := openEndsRow.holds Tryd.pinned (OpenSpec.ofChange openEndsSpec)

/-- ITS FALSE NEIGHBOUR: 'it returns false'. Refute it at one input. -/
def openEndsWrong : ChangeSpec := { name := "openEnds", fn := fun _ => fun
  | [d1, d2, d3, d4] => { results := [.lit (.bool false)], args := [d1, d2, d3, d4] }
  | _ => none }
def OpenEndsWrongFalsely : Prop := openEndsRow.holds Tryd.pinned (OpenSpec.ofChange openEndsWrong)

/-- 'woodcutlaw11.OpenAlike': WHATEVER THE INPUT: true; the input reads as it did. -/
def openAlikeSpec : ChangeSpec := { name := "openAlike", fn := fun _ => fun
  | [d1, d2, d3] => { results := [.lit (.bool true)], args := [d1, d2, d3] }
  | _ => none }
def openAlikeRow : OpenClaim := { program := "ytbijlkbfndkdcaadoor", sum := "4c99de03a72129bbb005bb9ffbc336c520f4bcbb8bcb4bb7cc64d67d3496d389", func := "woodcut/woodcutlaw11.OpenAlike", spec := "openAlike", unfollowed := true, recurses := true, named := ["woodcut/open.usual"], apart := false, laid := [("woodcut/open.usual", laid_woodcut_open_usual)] }
def OpenAlikeSaid : Prop := openAlikeRow.holds Tryd.pinned (OpenSpec.ofChange openAlikeSpec)

/-- ITS FALSE NEIGHBOUR: 'it returns false'. Refute it at one input. -/
def openAlikeWrong : ChangeSpec := { name := "openAlike", fn := fun _ => fun
  | [d1, d2, d3] => { results := [.lit (.bool false)], args := [d1, d2, d3] }
  | _ => none }
def OpenAlikeWrongFalsely : Prop := openAlikeRow.holds Tryd.pinned (OpenSpec.ofChange openAlikeWrong)

/-- 'woodcutlaw11.OpenForms': WHATEVER THE INPUT: true; the input reads as it did. -/
def openFormsSpec : ChangeSpec := { name := "openForms", fn := fun _ => fun
  | [d] => { results := [.lit (.bool true)], args := [d] }
  | _ => none }
def openFormsRow : OpenClaim := { program := "ytbijlkbfndkdcaadoor", sum := "4c99de03a72129bbb005bb9ffbc336c520f4bcbb8bcb4bb7cc64d67d3496d389", func := "woodcut/woodcutlaw11.OpenForms", spec := "openForms", unfollowed := true, recurses := true, named := ["woodcut/open.usual"], apart := false, laid := [("woodcut/open.usual", laid_woodcut_open_usual)] }
def OpenFormsSaid : Prop := openFormsRow.holds Tryd.pinned (OpenSpec.ofChange openFormsSpec)

/-- ITS FALSE NEIGHBOUR: 'it returns false'. Refute it at one input. -/
def openFormsWrong : ChangeSpec := { name := "openForms", fn := fun _ => fun
  | [d] => { results := [.lit (.bool false)], args := [d] }
  | _ => none }
def OpenFormsWrongFalsely : Prop := openFormsRow.holds Tryd.pinned (OpenSpec.ofChange openFormsWrong)

/-- 'woodcutlaw11.OpenStacks': WHATEVER THE INPUT: true; the input reads as it did. -/
def openStacksSpec : ChangeSpec := { name := "openStacks", fn := fun _ => fun
  | [d] => { results := [.lit (.bool true)], args := [d] }
  | _ => none }
def openStacksRow : OpenClaim := { program := "ytbijlkbfndkdcaadoor", sum := "4c99de03a72129bbb005bb9ffbc336c520f4bcbb8bcb4bb7cc64d67d3496d389", func := "woodcut/woodcutlaw11.OpenStacks", spec := "openStacks", inPlace := ["slices.overlaps[int]"], named := ["woodcut/open.usual"], apart := false, laid := [("woodcut/open.usual", laid_woodcut_open_usual)] }
def OpenStacksSaid : Prop := openStacksRow.holds Tryd.pinned (OpenSpec.ofChange openStacksSpec)

/-- ITS FALSE NEIGHBOUR: 'it returns false'. Refute it at one input. -/
def openStacksWrong : ChangeSpec := { name := "openStacks", fn := fun _ => fun
  | [d] => { results := [.lit (.bool false)], args := [d] }
  | _ => none }
def OpenStacksWrongFalsely : Prop := openStacksRow.holds Tryd.pinned (OpenSpec.ofChange openStacksWrong)

/- THE SECOND FORM. 'bulk': how many values and letters a reading holds, each counted each time it is reached (what is shared counts as often as it is met; a slice's spare places count too). A statement '..UptoSaid' is the law's where the arguments, and the package variables that the reading takes, are together of bulk at most 1048576: NARROWER than '..Said'. Prove '..Said' where nothing that the law and all that it calls make is longer than what came in: it says more and counts as full. Else prove '..UptoSaid'. A law counts once. -/
mutual
def uptoBulk {H : Type} : DataW H → Nat
  | .lit (.string bytes) => bytes.length + 1
  | .lit _ => 1
  | .nil => 1
  | .ptr d => uptoBulk d + 1
  | .slice elems spare => uptoBulkAll elems + uptoBulkAll spare + 1
  | .agg parts => uptoBulkAll parts + 1
  | .iface _ d => uptoBulk d + 1
  | .map entries => uptoBulkEntries entries + 1
  | .held _ => 1
def uptoBulkAll {H : Type} : List (DataW H) → Nat
  | [] => 0
  | d :: r => uptoBulk d + uptoBulkAll r
def uptoBulkEntries {H : Type} : List (Lit × DataW H) → Nat
  | [] => 0
  | x :: r => uptoBulkEntry x + uptoBulkEntries r
def uptoBulkEntry {H : Type} : Lit × DataW H → Nat
  | (.string bytes, d) => bytes.length + uptoBulk d + 1
  | (_, d) => uptoBulk d + 1
 end
def uptoSmall : (H : Type) → List (DataW H) → Bool := fun _ ds => decide (uptoBulkAll ds ≤ 1048576)
def OpenSpec.upto (s : _root_.Go.ChangeSpec) : _root_.Go.OpenSpec := { _root_.Go.OpenSpec.ofChange s with cond := some uptoSmall }

/-- 'woodcutlaw11.OpenEnds', WHERE WHAT IT READS IS OF BULK AT MOST 1048576: true; the input reads as it did. -/
def openEndsUptoRow : OpenClaim := { program := "ytbijlkbfndkdcaadoor", sum := "4c99de03a72129bbb005bb9ffbc336c520f4bcbb8bcb4bb7cc64d67d3496d389", func := "woodcut/woodcutlaw11.OpenEnds", spec := "openEnds", unfollowed := true, recurses := true, named := ["woodcut/open.usual", "woodcut/open.implied"], apart := false, laid := [("woodcut/open.usual", laid_woodcut_open_usual), ("woodcut/open.implied", laid_woodcut_open_implied)], narrowed := true }
def OpenEndsUptoSaid : Prop := openEndsUptoRow.holds Tryd.pinned (OpenSpec.upto openEndsSpec)

/-- 'woodcutlaw11.OpenAlike', WHERE WHAT IT READS IS OF BULK AT MOST 1048576: true; the input reads as it did. -/
def openAlikeUptoRow : OpenClaim := { program := "ytbijlkbfndkdcaadoor", sum := "4c99de03a72129bbb005bb9ffbc336c520f4bcbb8bcb4bb7cc64d67d3496d389", func := "woodcut/woodcutlaw11.OpenAlike", spec := "openAlike", unfollowed := true, recurses := true, named := ["woodcut/open.usual"], apart := false, laid := [("woodcut/open.usual", laid_woodcut_open_usual)], narrowed := true }
def OpenAlikeUptoSaid : Prop := openAlikeUptoRow.holds Tryd.pinned (OpenSpec.upto openAlikeSpec)

/-- 'woodcutlaw11.OpenForms', WHERE WHAT IT READS IS OF BULK AT MOST 1048576: true; the input reads as it did. -/
def openFormsUptoRow : OpenClaim := { program := "ytbijlkbfndkdcaadoor", sum := "4c99de03a72129bbb005bb9ffbc336c520f4bcbb8bcb4bb7cc64d67d3496d389", func := "woodcut/woodcutlaw11.OpenForms", spec := "openForms", unfollowed := true, recurses := true, named := ["woodcut/open.usual"], apart := false, laid := [("woodcut/open.usual", laid_woodcut_open_usual)], narrowed := true }
def OpenFormsUptoSaid : Prop := openFormsUptoRow.holds Tryd.pinned (OpenSpec.upto openFormsSpec)

/-- 'woodcutlaw11.OpenStacks', WHERE WHAT IT READS IS OF BULK AT MOST 1048576: true; the input reads as it did. -/
def openStacksUptoRow : OpenClaim := { program := "ytbijlkbfndkdcaadoor", sum := "4c99de03a72129bbb005bb9ffbc336c520f4bcbb8bcb4bb7cc64d67d3496d389", func := "woodcut/woodcutlaw11.OpenStacks", spec := "openStacks", inPlace := ["slices.overlaps[int]"], named := ["woodcut/open.usual"], apart := false, laid := [("woodcut/open.usual", laid_woodcut_open_usual)], narrowed := true }
def OpenStacksUptoSaid : Prop := openStacksUptoRow.holds Tryd.pinned (OpenSpec.upto openStacksSpec)

end Rows
end Go.Proofs.YtbijlkbfndkdcaaDoor
