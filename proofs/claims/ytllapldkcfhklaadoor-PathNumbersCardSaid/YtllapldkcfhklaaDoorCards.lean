/-
  DERIVED. GIVEN WITH THE SEED: THE CARDS: each row of YtllapldkcfhklaaDoorRows.lean that lists a variable, with what it lists TIED to the program's text (the seventh form; the later family's looks); each row that meets fmt, with fmt's text TOLD by the authors' own Lean function (tested against real Go, not proved from fmt's source: count such statements apart). THE CARD IS WHAT COUNTS. Prove the row's statement (the work); the ties are given (YtllapldkcfhklaaDoorTie.lean); close each card by the builder's one call (the guide's Derived/Test/ToyasCard.lean, 'card_holds'). Laid BY PROGRAM, IN A SANDBOX (cutbox-door.mjs). By AI agents, Wed Nov 11 2026. No macro, syntax, notation, axiom, sorry.
-/
import Derived.Test.YtllapldkcfhklaaDoorRows
import GoSem.ClaimSeven
namespace Go.Proofs.YtllapldkcfhklaaDoor
namespace Rows

/-- THE TIED CARD OF 'woodcutlaw06.PathRights'. -/
def pathRightsCard : Claim7 := { stood := { row := pathRightsRow, standIns := [], harness := (true, "dedd66a6b7f0ccbe0b648a379c4bb534594f7fe88fc9a39312141e1f0ba40f78"), looks := false }, kinds := [], alts := [], laidByText := true, laidKinds := [.data, .pinned], laidTests := true, laidLooks := .later }
def PathRightsCardSaid : Prop := Claim7.holds Tryd.pinned (.plain (OpenSpec.ofChange pathRightsSpec)) pathRightsCard

/-- THE TIED CARD OF 'woodcutlaw06.PathParts'. -/
def pathPartsCard : Claim7 := { stood := { row := pathPartsRow, standIns := [], harness := (true, "dedd66a6b7f0ccbe0b648a379c4bb534594f7fe88fc9a39312141e1f0ba40f78"), looks := false }, kinds := [], alts := [], laidByText := true, laidKinds := [.data, .pinned], laidTests := true, laidLooks := .later }
def PathPartsCardSaid : Prop := Claim7.holds Tryd.pinned (.plain (OpenSpec.ofChange pathPartsSpec)) pathPartsCard

/-- THE TIED CARD OF 'woodcutlaw06.PathNumbers'. -/
def pathNumbersCard : Claim7 := { stood := { row := pathNumbersRow, standIns := [], harness := (true, "dedd66a6b7f0ccbe0b648a379c4bb534594f7fe88fc9a39312141e1f0ba40f78"), looks := false }, kinds := [], alts := [], laidByText := true, laidKinds := [.data, .pinned], laidTests := true, laidLooks := .later }
def PathNumbersCardSaid : Prop := Claim7.holds Tryd.pinned (.plain (OpenSpec.ofChange pathNumbersSpec)) pathNumbersCard

/-- THE TIED CARD OF 'woodcutlaw06.PathTables'. -/
def pathTablesCard : Claim7 := { stood := { row := pathTablesRow, standIns := [], harness := (true, "dedd66a6b7f0ccbe0b648a379c4bb534594f7fe88fc9a39312141e1f0ba40f78"), looks := false }, kinds := [], alts := [], laidByText := true, laidKinds := [.data, .pinned], laidTests := true, laidLooks := .later }
def PathTablesCardSaid : Prop := Claim7.holds Tryd.pinned (.plain (OpenSpec.ofChange pathTablesSpec)) pathTablesCard

/-- THE TIED CARD OF 'woodcutlaw06.PathNil'. -/
def pathNilCard : Claim7 := { stood := { row := pathNilRow, standIns := [], harness := (true, "dedd66a6b7f0ccbe0b648a379c4bb534594f7fe88fc9a39312141e1f0ba40f78"), looks := false }, kinds := [], alts := [], laidByText := true, laidKinds := [.data, .pinned], laidTests := true, laidLooks := .later }
def PathNilCardSaid : Prop := Claim7.holds Tryd.pinned (.plain (OpenSpec.ofChange pathNilSpec)) pathNilCard

/-- THE SECOND FORM's CARD OF 'woodcutlaw06.PathRights'. -/
def pathRightsUptoCard : Claim7 := { stood := { row := pathRightsUptoRow, standIns := [], harness := (true, "dedd66a6b7f0ccbe0b648a379c4bb534594f7fe88fc9a39312141e1f0ba40f78"), looks := false }, kinds := [], alts := [], laidByText := true, laidKinds := [.data, .pinned], laidTests := true, laidLooks := .later }
def PathRightsUptoCardSaid : Prop := Claim7.holds Tryd.pinned (.plain (OpenSpec.upto pathRightsSpec)) pathRightsUptoCard

/-- THE SECOND FORM's CARD OF 'woodcutlaw06.PathParts'. -/
def pathPartsUptoCard : Claim7 := { stood := { row := pathPartsUptoRow, standIns := [], harness := (true, "dedd66a6b7f0ccbe0b648a379c4bb534594f7fe88fc9a39312141e1f0ba40f78"), looks := false }, kinds := [], alts := [], laidByText := true, laidKinds := [.data, .pinned], laidTests := true, laidLooks := .later }
def PathPartsUptoCardSaid : Prop := Claim7.holds Tryd.pinned (.plain (OpenSpec.upto pathPartsSpec)) pathPartsUptoCard

/-- THE SECOND FORM's CARD OF 'woodcutlaw06.PathNumbers'. -/
def pathNumbersUptoCard : Claim7 := { stood := { row := pathNumbersUptoRow, standIns := [], harness := (true, "dedd66a6b7f0ccbe0b648a379c4bb534594f7fe88fc9a39312141e1f0ba40f78"), looks := false }, kinds := [], alts := [], laidByText := true, laidKinds := [.data, .pinned], laidTests := true, laidLooks := .later }
def PathNumbersUptoCardSaid : Prop := Claim7.holds Tryd.pinned (.plain (OpenSpec.upto pathNumbersSpec)) pathNumbersUptoCard

/-- THE SECOND FORM's CARD OF 'woodcutlaw06.PathTables'. -/
def pathTablesUptoCard : Claim7 := { stood := { row := pathTablesUptoRow, standIns := [], harness := (true, "dedd66a6b7f0ccbe0b648a379c4bb534594f7fe88fc9a39312141e1f0ba40f78"), looks := false }, kinds := [], alts := [], laidByText := true, laidKinds := [.data, .pinned], laidTests := true, laidLooks := .later }
def PathTablesUptoCardSaid : Prop := Claim7.holds Tryd.pinned (.plain (OpenSpec.upto pathTablesSpec)) pathTablesUptoCard

/-- THE SECOND FORM's CARD OF 'woodcutlaw06.PathNil'. -/
def pathNilUptoCard : Claim7 := { stood := { row := pathNilUptoRow, standIns := [], harness := (true, "dedd66a6b7f0ccbe0b648a379c4bb534594f7fe88fc9a39312141e1f0ba40f78"), looks := false }, kinds := [], alts := [], laidByText := true, laidKinds := [.data, .pinned], laidTests := true, laidLooks := .later }
def PathNilUptoCardSaid : Prop := Claim7.holds Tryd.pinned (.plain (OpenSpec.upto pathNilSpec)) pathNilUptoCard
end Rows
end Go.Proofs.YtllapldkcfhklaaDoor
