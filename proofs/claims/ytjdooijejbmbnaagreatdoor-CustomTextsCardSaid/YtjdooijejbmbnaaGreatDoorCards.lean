/-
  DERIVED. GIVEN WITH THE SEED: THE CARDS: each row of YtjdooijejbmbnaaGreatDoorRows.lean that lists a variable, with what it lists TIED to the program's text (the seventh form; the later family's looks); each row that meets fmt, with fmt's text TOLD by the authors' own Lean function (tested against real Go, not proved from fmt's source: count such statements apart). THE CARD IS WHAT COUNTS. Prove the row's statement (the work); the ties are given (YtjdooijejbmbnaaGreatDoorTie.lean); close each card by the builder's one call (the guide's Derived/Test/ToyasCard.lean, 'card_holds'). Laid BY PROGRAM, IN A SANDBOX (cutbox-door.mjs). By AI agents, Wed Nov 11 2026. No macro, syntax, notation, axiom, sorry.
-/
import Derived.Test.YtjdooijejbmbnaaGreatDoorRows
import GoSem.ClaimSeven
namespace Go.Proofs.YtjdooijejbmbnaaGreatDoor
namespace Rows

/-- THE TIED CARD OF 'boundstonelaw08.CustomReadsAsSpecified'. -/
def customReadsAsSpecifiedCard : Claim7 := { stood := { row := customReadsAsSpecifiedRow, standIns := [], harness := (true, "801d7d41e9a2cb282b150f81b3f624f2e9c265041fe9062321928cb915de5ef6"), looks := true }, kinds := [], alts := [], laidByText := true, laidKinds := [.data, .data, .data, .sentinel, .sentinel], laidTests := true, laidLooks := .later }
def CustomReadsAsSpecifiedCardSaid : Prop := Claim7.holds Tryz.pinned (.plain (OpenSpec.ofChange customReadsAsSpecifiedSpec)) customReadsAsSpecifiedCard

/-- THE TIED CARD OF 'boundstonelaw08.CustomTexts'. -/
def customTextsCard : Claim7 := { stood := { row := customTextsRow, standIns := [], harness := (true, "801d7d41e9a2cb282b150f81b3f624f2e9c265041fe9062321928cb915de5ef6"), looks := true }, kinds := [], alts := [], laidByText := true, laidKinds := [.data, .data, .data, .sentinel, .sentinel], laidTests := true, laidLooks := .later }
def CustomTextsCardSaid : Prop := Claim7.holds Tryz.pinned (.plain (OpenSpec.ofChange customTextsSpec)) customTextsCard

/-- THE SECOND FORM's CARD OF 'boundstonelaw08.CustomReadsAsSpecified'. -/
def customReadsAsSpecifiedUptoCard : Claim7 := { stood := { row := customReadsAsSpecifiedUptoRow, standIns := [], harness := (true, "801d7d41e9a2cb282b150f81b3f624f2e9c265041fe9062321928cb915de5ef6"), looks := true }, kinds := [], alts := [], laidByText := true, laidKinds := [.data, .data, .data, .sentinel, .sentinel], laidTests := true, laidLooks := .later }
def CustomReadsAsSpecifiedUptoCardSaid : Prop := Claim7.holds Tryz.pinned (.plain (OpenSpec.upto customReadsAsSpecifiedSpec)) customReadsAsSpecifiedUptoCard

/-- THE SECOND FORM's CARD OF 'boundstonelaw08.CustomTexts'. -/
def customTextsUptoCard : Claim7 := { stood := { row := customTextsUptoRow, standIns := [], harness := (true, "801d7d41e9a2cb282b150f81b3f624f2e9c265041fe9062321928cb915de5ef6"), looks := true }, kinds := [], alts := [], laidByText := true, laidKinds := [.data, .data, .data, .sentinel, .sentinel], laidTests := true, laidLooks := .later }
def CustomTextsUptoCardSaid : Prop := Claim7.holds Tryz.pinned (.plain (OpenSpec.upto customTextsSpec)) customTextsUptoCard
end Rows
end Go.Proofs.YtjdooijejbmbnaaGreatDoor
