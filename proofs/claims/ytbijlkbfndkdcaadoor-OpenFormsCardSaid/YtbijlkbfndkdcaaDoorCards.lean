/-
  DERIVED. GIVEN WITH THE SEED: THE CARDS: each row of YtbijlkbfndkdcaaDoorRows.lean that lists a variable, with what it lists TIED to the program's text (the seventh form; the later family's looks); each row that meets fmt, with fmt's text TOLD by the authors' own Lean function (tested against real Go, not proved from fmt's source: count such statements apart). THE CARD IS WHAT COUNTS. Prove the row's statement (the work); the ties are given (YtbijlkbfndkdcaaDoorTie.lean); close each card by the builder's one call (the guide's Derived/Test/ToyasCard.lean, 'card_holds'). Laid BY PROGRAM, IN A SANDBOX (cutbox-door.mjs). By AI agents, Wed Nov 11 2026. No macro, syntax, notation, axiom, sorry.
-/
import Derived.Test.YtbijlkbfndkdcaaDoorRows
import GoSem.ClaimSeven
namespace Go.Proofs.YtbijlkbfndkdcaaDoor
namespace Rows

/-- THE TIED CARD OF 'woodcutlaw11.OpenEnds'. -/
def openEndsCard : Claim7 := { stood := { row := openEndsRow, standIns := [], harness := (true, "68446d03e6fe6ee759f3cbc3170fac07f03b9384edf81c17498884dfcc1c00c3"), looks := false }, kinds := [], alts := [], laidByText := true, laidKinds := [.widerDeep, .widerDeep], laidTests := true, laidLooks := .later }
def OpenEndsCardSaid : Prop := Claim7.holds Tryd.pinned (.plain (OpenSpec.ofChange openEndsSpec)) openEndsCard

/-- THE TIED CARD OF 'woodcutlaw11.OpenAlike'. -/
def openAlikeCard : Claim7 := { stood := { row := openAlikeRow, standIns := [], harness := (true, "68446d03e6fe6ee759f3cbc3170fac07f03b9384edf81c17498884dfcc1c00c3"), looks := false }, kinds := [], alts := [], laidByText := true, laidKinds := [.widerDeep], laidTests := true, laidLooks := .later }
def OpenAlikeCardSaid : Prop := Claim7.holds Tryd.pinned (.plain (OpenSpec.ofChange openAlikeSpec)) openAlikeCard

/-- THE TIED CARD OF 'woodcutlaw11.OpenForms'. -/
def openFormsCard : Claim7 := { stood := { row := openFormsRow, standIns := [], harness := (true, "68446d03e6fe6ee759f3cbc3170fac07f03b9384edf81c17498884dfcc1c00c3"), looks := false }, kinds := [], alts := [], laidByText := true, laidKinds := [.widerDeep], laidTests := true, laidLooks := .later }
def OpenFormsCardSaid : Prop := Claim7.holds Tryd.pinned (.plain (OpenSpec.ofChange openFormsSpec)) openFormsCard

/-- THE TIED CARD OF 'woodcutlaw11.OpenStacks'. -/
def openStacksCard : Claim7 := { stood := { row := openStacksRow, standIns := [], harness := (true, "68446d03e6fe6ee759f3cbc3170fac07f03b9384edf81c17498884dfcc1c00c3"), looks := false }, kinds := [], alts := [], laidByText := true, laidKinds := [.widerDeep], laidTests := true, laidLooks := .later }
def OpenStacksCardSaid : Prop := Claim7.holds Tryd.pinned (.plain (OpenSpec.ofChange openStacksSpec)) openStacksCard

/-- THE SECOND FORM's CARD OF 'woodcutlaw11.OpenEnds'. -/
def openEndsUptoCard : Claim7 := { stood := { row := openEndsUptoRow, standIns := [], harness := (true, "68446d03e6fe6ee759f3cbc3170fac07f03b9384edf81c17498884dfcc1c00c3"), looks := false }, kinds := [], alts := [], laidByText := true, laidKinds := [.widerDeep, .widerDeep], laidTests := true, laidLooks := .later }
def OpenEndsUptoCardSaid : Prop := Claim7.holds Tryd.pinned (.plain (OpenSpec.upto openEndsSpec)) openEndsUptoCard

/-- THE SECOND FORM's CARD OF 'woodcutlaw11.OpenAlike'. -/
def openAlikeUptoCard : Claim7 := { stood := { row := openAlikeUptoRow, standIns := [], harness := (true, "68446d03e6fe6ee759f3cbc3170fac07f03b9384edf81c17498884dfcc1c00c3"), looks := false }, kinds := [], alts := [], laidByText := true, laidKinds := [.widerDeep], laidTests := true, laidLooks := .later }
def OpenAlikeUptoCardSaid : Prop := Claim7.holds Tryd.pinned (.plain (OpenSpec.upto openAlikeSpec)) openAlikeUptoCard

/-- THE SECOND FORM's CARD OF 'woodcutlaw11.OpenForms'. -/
def openFormsUptoCard : Claim7 := { stood := { row := openFormsUptoRow, standIns := [], harness := (true, "68446d03e6fe6ee759f3cbc3170fac07f03b9384edf81c17498884dfcc1c00c3"), looks := false }, kinds := [], alts := [], laidByText := true, laidKinds := [.widerDeep], laidTests := true, laidLooks := .later }
def OpenFormsUptoCardSaid : Prop := Claim7.holds Tryd.pinned (.plain (OpenSpec.upto openFormsSpec)) openFormsUptoCard

/-- THE SECOND FORM's CARD OF 'woodcutlaw11.OpenStacks'. -/
def openStacksUptoCard : Claim7 := { stood := { row := openStacksUptoRow, standIns := [], harness := (true, "68446d03e6fe6ee759f3cbc3170fac07f03b9384edf81c17498884dfcc1c00c3"), looks := false }, kinds := [], alts := [], laidByText := true, laidKinds := [.widerDeep], laidTests := true, laidLooks := .later }
def OpenStacksUptoCardSaid : Prop := Claim7.holds Tryd.pinned (.plain (OpenSpec.upto openStacksSpec)) openStacksUptoCard
end Rows
end Go.Proofs.YtbijlkbfndkdcaaDoor
