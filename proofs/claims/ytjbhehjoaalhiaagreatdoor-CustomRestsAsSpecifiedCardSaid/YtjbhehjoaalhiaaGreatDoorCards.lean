/-
  DERIVED. GIVEN WITH THE SEED: THE CARDS: each row of YtjbhehjoaalhiaaGreatDoorRows.lean that lists a variable, with what it lists TIED to the program's text (the seventh form; the later family's looks); each row that meets fmt, with fmt's text TOLD by the authors' own Lean function (tested against real Go, not proved from fmt's source: count such statements apart). THE CARD IS WHAT COUNTS. Prove the row's statement (the work); the ties are given (YtjbhehjoaalhiaaGreatDoorTie.lean); close each card by the builder's one call (the guide's Derived/Test/ToyasCard.lean, 'card_holds'). Laid BY PROGRAM, IN A SANDBOX (cutbox-door.mjs). By AI agents, Wed Nov 11 2026. No macro, syntax, notation, axiom, sorry.
-/
import Derived.Test.YtjbhehjoaalhiaaGreatDoorRows
import GoSem.ClaimSeven
namespace Go.Proofs.YtjbhehjoaalhiaaGreatDoor
namespace Rows

/-- THE TIED CARD OF 'boundstonelaw08.CustomReadsAsSpecified'. -/
def customReadsAsSpecifiedCard : Claim7 := { stood := { row := customReadsAsSpecifiedRow, standIns := [], harness := (true, "fa69cc2c7f23b1ebccfa37944c81a5fa1814386478a9120cf3df6f32d724c322"), looks := true }, kinds := [], alts := [], laidByText := true, laidKinds := [.data, .data, .data, .sentinel, .sentinel], laidTests := true, laidLooks := .later }
def CustomReadsAsSpecifiedCardSaid : Prop := Claim7.holds Tryz.pinned (.plain (OpenSpec.ofChange customReadsAsSpecifiedSpec)) customReadsAsSpecifiedCard

/-- THE TIED CARD OF 'boundstonelaw08.CustomTexts'. -/
def customTextsCard : Claim7 := { stood := { row := customTextsRow, standIns := [], harness := (true, "fa69cc2c7f23b1ebccfa37944c81a5fa1814386478a9120cf3df6f32d724c322"), looks := true }, kinds := [], alts := [], laidByText := true, laidKinds := [.data, .data, .data, .sentinel, .sentinel], laidTests := true, laidLooks := .later }
def CustomTextsCardSaid : Prop := Claim7.holds Tryz.pinned (.plain (OpenSpec.ofChange customTextsSpec)) customTextsCard

/-- THE TIED CARD OF 'boundstonelaw08.CustomRestsAsSpecified'. -/
def customRestsAsSpecifiedCard : Claim7 := { stood := { row := customRestsAsSpecifiedRow, standIns := [], harness := (true, "fa69cc2c7f23b1ebccfa37944c81a5fa1814386478a9120cf3df6f32d724c322"), looks := true }, kinds := [], alts := [], laidByText := true, laidKinds := [.data, .data, .data, .sentinel, .sentinel], laidTests := true, laidLooks := .later }
def CustomRestsAsSpecifiedCardSaid : Prop := Claim7.holds Tryz.pinned (.plain (OpenSpec.ofChange customRestsAsSpecifiedSpec)) customRestsAsSpecifiedCard

/-- THE TIED CARD OF 'boundstonelaw08.CustomYearsAsSpecified'. -/
def customYearsAsSpecifiedCard : Claim7 := { stood := { row := customYearsAsSpecifiedRow, standIns := [], harness := (true, "fa69cc2c7f23b1ebccfa37944c81a5fa1814386478a9120cf3df6f32d724c322"), looks := true }, kinds := [], alts := [], laidByText := true, laidKinds := [.data, .data, .data, .sentinel, .sentinel], laidTests := true, laidLooks := .later }
def CustomYearsAsSpecifiedCardSaid : Prop := Claim7.holds Tryz.pinned (.plain (OpenSpec.ofChange customYearsAsSpecifiedSpec)) customYearsAsSpecifiedCard

/-- THE TIED CARD OF 'boundstonelaw08.CustomKeepsYears'. -/
def customKeepsYearsCard : Claim7 := { stood := { row := customKeepsYearsRow, standIns := [], harness := (true, "fa69cc2c7f23b1ebccfa37944c81a5fa1814386478a9120cf3df6f32d724c322"), looks := true }, kinds := [], alts := [], laidByText := true, laidKinds := [.data, .data, .data, .sentinel, .sentinel], laidTests := true, laidLooks := .later }
def CustomKeepsYearsCardSaid : Prop := Claim7.holds Tryz.pinned (.plain (OpenSpec.ofChange customKeepsYearsSpec)) customKeepsYearsCard

/-- THE SECOND FORM's CARD OF 'boundstonelaw08.CustomReadsAsSpecified'. -/
def customReadsAsSpecifiedUptoCard : Claim7 := { stood := { row := customReadsAsSpecifiedUptoRow, standIns := [], harness := (true, "fa69cc2c7f23b1ebccfa37944c81a5fa1814386478a9120cf3df6f32d724c322"), looks := true }, kinds := [], alts := [], laidByText := true, laidKinds := [.data, .data, .data, .sentinel, .sentinel], laidTests := true, laidLooks := .later }
def CustomReadsAsSpecifiedUptoCardSaid : Prop := Claim7.holds Tryz.pinned (.plain (OpenSpec.upto customReadsAsSpecifiedSpec)) customReadsAsSpecifiedUptoCard

/-- THE SECOND FORM's CARD OF 'boundstonelaw08.CustomTexts'. -/
def customTextsUptoCard : Claim7 := { stood := { row := customTextsUptoRow, standIns := [], harness := (true, "fa69cc2c7f23b1ebccfa37944c81a5fa1814386478a9120cf3df6f32d724c322"), looks := true }, kinds := [], alts := [], laidByText := true, laidKinds := [.data, .data, .data, .sentinel, .sentinel], laidTests := true, laidLooks := .later }
def CustomTextsUptoCardSaid : Prop := Claim7.holds Tryz.pinned (.plain (OpenSpec.upto customTextsSpec)) customTextsUptoCard

/-- THE SECOND FORM's CARD OF 'boundstonelaw08.CustomRestsAsSpecified'. -/
def customRestsAsSpecifiedUptoCard : Claim7 := { stood := { row := customRestsAsSpecifiedUptoRow, standIns := [], harness := (true, "fa69cc2c7f23b1ebccfa37944c81a5fa1814386478a9120cf3df6f32d724c322"), looks := true }, kinds := [], alts := [], laidByText := true, laidKinds := [.data, .data, .data, .sentinel, .sentinel], laidTests := true, laidLooks := .later }
def CustomRestsAsSpecifiedUptoCardSaid : Prop := Claim7.holds Tryz.pinned (.plain (OpenSpec.upto customRestsAsSpecifiedSpec)) customRestsAsSpecifiedUptoCard

/-- THE SECOND FORM's CARD OF 'boundstonelaw08.CustomYearsAsSpecified'. -/
def customYearsAsSpecifiedUptoCard : Claim7 := { stood := { row := customYearsAsSpecifiedUptoRow, standIns := [], harness := (true, "fa69cc2c7f23b1ebccfa37944c81a5fa1814386478a9120cf3df6f32d724c322"), looks := true }, kinds := [], alts := [], laidByText := true, laidKinds := [.data, .data, .data, .sentinel, .sentinel], laidTests := true, laidLooks := .later }
def CustomYearsAsSpecifiedUptoCardSaid : Prop := Claim7.holds Tryz.pinned (.plain (OpenSpec.upto customYearsAsSpecifiedSpec)) customYearsAsSpecifiedUptoCard

/-- THE SECOND FORM's CARD OF 'boundstonelaw08.CustomKeepsYears'. -/
def customKeepsYearsUptoCard : Claim7 := { stood := { row := customKeepsYearsUptoRow, standIns := [], harness := (true, "fa69cc2c7f23b1ebccfa37944c81a5fa1814386478a9120cf3df6f32d724c322"), looks := true }, kinds := [], alts := [], laidByText := true, laidKinds := [.data, .data, .data, .sentinel, .sentinel], laidTests := true, laidLooks := .later }
def CustomKeepsYearsUptoCardSaid : Prop := Claim7.holds Tryz.pinned (.plain (OpenSpec.upto customKeepsYearsSpec)) customKeepsYearsUptoCard
end Rows
end Go.Proofs.YtjbhehjoaalhiaaGreatDoor
