/-
  DERIVED. GIVEN WITH THE SEED: THE CARDS: each row of YtcoaecdgodfodaaDoorRows.lean that lists a variable, with what it lists TIED to the program's text (the seventh form; the later family's looks); each row that meets fmt, with fmt's text TOLD by the authors' own Lean function (tested against real Go, not proved from fmt's source: count such statements apart). THE CARD IS WHAT COUNTS. Prove the row's statement (the work); the ties are given (YtcoaecdgodfodaaDoorTie.lean); close each card by the builder's one call (the guide's Derived/Test/ToyasCard.lean, 'card_holds'). Laid BY PROGRAM, IN A SANDBOX (cutbox-door.mjs). By AI agents, Wed Nov 11 2026. No macro, syntax, notation, axiom, sorry.
-/
import Derived.Test.YtcoaecdgodfodaaDoorRows
import GoSem.ClaimSeven
namespace Go.Proofs.YtcoaecdgodfodaaDoor
namespace Rows

/-- THE TIED CARD OF 'woodcutlaw16.MetaSources'. -/
def metaSourcesCard : Claim7 := { stood := { row := metaSourcesRow, standIns := [], harness := (true, "e702990672b9f8b0aee93e930366a595153164a92d4b2d63babe355fac6f81bd"), looks := false }, kinds := [], alts := [], laidByText := true, laidKinds := [.data, .pinned], laidTests := true, laidLooks := .later }
def MetaSourcesCardSaid : Prop := Claim7.holds Tryd.pinned (.plain (OpenSpec.ofChange metaSourcesSpec)) metaSourcesCard

/-- THE TIED CARD OF 'woodcutlaw18.LinkOwns'. -/
def linkOwnsCard : Claim7 := { stood := { row := linkOwnsRow, standIns := [], harness := (true, "e702990672b9f8b0aee93e930366a595153164a92d4b2d63babe355fac6f81bd"), looks := false }, kinds := [], alts := [], laidByText := true, laidKinds := [.data, .pinned], laidTests := true, laidLooks := .later }
def LinkOwnsCardSaid : Prop := Claim7.holds Tryd.pinned (.plain (OpenSpec.ofChange linkOwnsSpec)) linkOwnsCard

/-- THE SECOND FORM's CARD OF 'woodcutlaw16.MetaSources'. -/
def metaSourcesUptoCard : Claim7 := { stood := { row := metaSourcesUptoRow, standIns := [], harness := (true, "e702990672b9f8b0aee93e930366a595153164a92d4b2d63babe355fac6f81bd"), looks := false }, kinds := [], alts := [], laidByText := true, laidKinds := [.data, .pinned], laidTests := true, laidLooks := .later }
def MetaSourcesUptoCardSaid : Prop := Claim7.holds Tryd.pinned (.plain (OpenSpec.upto metaSourcesSpec)) metaSourcesUptoCard

/-- THE SECOND FORM's CARD OF 'woodcutlaw18.LinkOwns'. -/
def linkOwnsUptoCard : Claim7 := { stood := { row := linkOwnsUptoRow, standIns := [], harness := (true, "e702990672b9f8b0aee93e930366a595153164a92d4b2d63babe355fac6f81bd"), looks := false }, kinds := [], alts := [], laidByText := true, laidKinds := [.data, .pinned], laidTests := true, laidLooks := .later }
def LinkOwnsUptoCardSaid : Prop := Claim7.holds Tryd.pinned (.plain (OpenSpec.upto linkOwnsSpec)) linkOwnsUptoCard
end Rows
end Go.Proofs.YtcoaecdgodfodaaDoor
