/-
  DERIVED. GIVEN WITH THE SEED: THE CARDS: each row of YtdifmcjgoamanaaGreatDoorRows.lean that lists a variable, with what it lists TIED to the program's text (the seventh form; the later family's looks); each row that meets fmt, with fmt's text TOLD by the authors' own Lean function (tested against real Go, not proved from fmt's source: count such statements apart). THE CARD IS WHAT COUNTS. Prove the row's statement (the work); the ties are given (YtdifmcjgoamanaaGreatDoorTie.lean); close each card by the builder's one call (the guide's Derived/Test/ToyasCard.lean, 'card_holds'). Laid BY PROGRAM, IN A SANDBOX (cutbox-door.mjs). By AI agents, Wed Nov 11 2026. No macro, syntax, notation, axiom, sorry.
-/
import Derived.Test.YtdifmcjgoamanaaGreatDoorRows
import GoSem.ClaimSeven
namespace Go.Proofs.YtdifmcjgoamanaaGreatDoor
namespace Rows

/-- THE TIED CARD OF 'boundstonelaw08.CustomGrows'. -/
def customGrowsCard : Claim7 := { stood := { row := customGrowsRow, standIns := [], harness := (true, "0223dc398d380041966d41fb9d62fba1c35df710a5184a5f525c0c15cb784116"), looks := true }, kinds := [], alts := [], laidByText := true, laidKinds := [.data, .data, .data, .sentinel, .sentinel], laidTests := true, laidLooks := .later }
def CustomGrowsCardSaid : Prop := Claim7.holds Tryz.pinned (.plain (OpenSpec.ofChange customGrowsSpec)) customGrowsCard

/-- THE TIED CARD OF 'boundstonelaw08.CustomOrderFree'. -/
def customOrderFreeCard : Claim7 := { stood := { row := customOrderFreeRow, standIns := [], harness := (true, "0223dc398d380041966d41fb9d62fba1c35df710a5184a5f525c0c15cb784116"), looks := true }, kinds := [], alts := [], laidByText := true, laidKinds := [.data, .data, .data, .sentinel, .sentinel], laidTests := true, laidLooks := .later }
def CustomOrderFreeCardSaid : Prop := Claim7.holds Tryz.pinned (.plain (OpenSpec.ofChange customOrderFreeSpec)) customOrderFreeCard

/-- THE TIED CARD OF 'boundstonelaw08.CustomStepsProve'. -/
def customStepsProveCard : Claim7 := { stood := { row := customStepsProveRow, standIns := [], harness := (true, "0223dc398d380041966d41fb9d62fba1c35df710a5184a5f525c0c15cb784116"), looks := true }, kinds := [], alts := [], laidByText := true, laidKinds := [.data, .data, .data, .sentinel, .sentinel], laidTests := true, laidLooks := .later }
def CustomStepsProveCardSaid : Prop := Claim7.holds Tryz.pinned (.plain (OpenSpec.ofChange customStepsProveSpec)) customStepsProveCard

/-- THE SECOND FORM's CARD OF 'boundstonelaw08.CustomGrows'. -/
def customGrowsUptoCard : Claim7 := { stood := { row := customGrowsUptoRow, standIns := [], harness := (true, "0223dc398d380041966d41fb9d62fba1c35df710a5184a5f525c0c15cb784116"), looks := true }, kinds := [], alts := [], laidByText := true, laidKinds := [.data, .data, .data, .sentinel, .sentinel], laidTests := true, laidLooks := .later }
def CustomGrowsUptoCardSaid : Prop := Claim7.holds Tryz.pinned (.plain (OpenSpec.upto customGrowsSpec)) customGrowsUptoCard

/-- THE SECOND FORM's CARD OF 'boundstonelaw08.CustomOrderFree'. -/
def customOrderFreeUptoCard : Claim7 := { stood := { row := customOrderFreeUptoRow, standIns := [], harness := (true, "0223dc398d380041966d41fb9d62fba1c35df710a5184a5f525c0c15cb784116"), looks := true }, kinds := [], alts := [], laidByText := true, laidKinds := [.data, .data, .data, .sentinel, .sentinel], laidTests := true, laidLooks := .later }
def CustomOrderFreeUptoCardSaid : Prop := Claim7.holds Tryz.pinned (.plain (OpenSpec.upto customOrderFreeSpec)) customOrderFreeUptoCard

/-- THE SECOND FORM's CARD OF 'boundstonelaw08.CustomStepsProve'. -/
def customStepsProveUptoCard : Claim7 := { stood := { row := customStepsProveUptoRow, standIns := [], harness := (true, "0223dc398d380041966d41fb9d62fba1c35df710a5184a5f525c0c15cb784116"), looks := true }, kinds := [], alts := [], laidByText := true, laidKinds := [.data, .data, .data, .sentinel, .sentinel], laidTests := true, laidLooks := .later }
def CustomStepsProveUptoCardSaid : Prop := Claim7.holds Tryz.pinned (.plain (OpenSpec.upto customStepsProveSpec)) customStepsProveUptoCard
end Rows
end Go.Proofs.YtdifmcjgoamanaaGreatDoor
