/-
  DERIVED. GIVEN WITH THE SEED: THE CARDS: each row of YtdcmabmjiiklhaaGreatDoorRows.lean that lists a variable, with what it lists TIED to the program's text (the seventh form; the later family's looks); each row that meets fmt, with fmt's text TOLD by the authors' own Lean function (tested against real Go, not proved from fmt's source: count such statements apart). THE CARD IS WHAT COUNTS. Prove the row's statement (the work); the ties are given (YtdcmabmjiiklhaaGreatDoorTie.lean); close each card by the builder's one call (the guide's Derived/Test/ToyasCard.lean, 'card_holds'). Laid BY PROGRAM, IN A SANDBOX (cutbox-door.mjs). By AI agents, Wed Nov 11 2026. No macro, syntax, notation, axiom, sorry.
-/
import Derived.Test.YtdcmabmjiiklhaaGreatDoorRows
import GoSem.ClaimSeven
namespace Go.Proofs.YtdcmabmjiiklhaaGreatDoor
namespace Rows

/-- THE TIED CARD OF 'boundstonelaw08.CustomModelsAsSpecified'. -/
def customModelsAsSpecifiedCard : Claim7 := { stood := { row := customModelsAsSpecifiedRow, standIns := [], harness := (true, "b4b861cb2c6959f615bb963cb72177c3a1a33c57cd9014ef7b0d158059da686d"), looks := true }, kinds := [], alts := [], laidByText := true, laidKinds := [.data, .data, .data, .sentinel, .sentinel], laidTests := true, laidLooks := .later }
def CustomModelsAsSpecifiedCardSaid : Prop := Claim7.holds Tryz.pinned (.plain (OpenSpec.ofChange customModelsAsSpecifiedSpec)) customModelsAsSpecifiedCard

/-- THE SECOND FORM's CARD OF 'boundstonelaw08.CustomModelsAsSpecified'. -/
def customModelsAsSpecifiedUptoCard : Claim7 := { stood := { row := customModelsAsSpecifiedUptoRow, standIns := [], harness := (true, "b4b861cb2c6959f615bb963cb72177c3a1a33c57cd9014ef7b0d158059da686d"), looks := true }, kinds := [], alts := [], laidByText := true, laidKinds := [.data, .data, .data, .sentinel, .sentinel], laidTests := true, laidLooks := .later }
def CustomModelsAsSpecifiedUptoCardSaid : Prop := Claim7.holds Tryz.pinned (.plain (OpenSpec.upto customModelsAsSpecifiedSpec)) customModelsAsSpecifiedUptoCard
end Rows
end Go.Proofs.YtdcmabmjiiklhaaGreatDoor
