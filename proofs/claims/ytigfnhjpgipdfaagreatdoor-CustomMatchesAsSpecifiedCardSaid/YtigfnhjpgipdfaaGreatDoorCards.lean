/-
  DERIVED. GIVEN WITH THE SEED: THE CARDS: each row of YtigfnhjpgipdfaaGreatDoorRows.lean that lists a variable, with what it lists TIED to the program's text (the seventh form; the later family's looks); each row that meets fmt, with fmt's text TOLD by the authors' own Lean function (tested against real Go, not proved from fmt's source: count such statements apart). THE CARD IS WHAT COUNTS. Prove the row's statement (the work); the ties are given (YtigfnhjpgipdfaaGreatDoorTie.lean); close each card by the builder's one call (the guide's Derived/Test/ToyasCard.lean, 'card_holds'). Laid BY PROGRAM, IN A SANDBOX (cutbox-door.mjs). By AI agents, Wed Nov 11 2026. No macro, syntax, notation, axiom, sorry.
-/
import Derived.Test.YtigfnhjpgipdfaaGreatDoorRows
import GoSem.ClaimSeven
namespace Go.Proofs.YtigfnhjpgipdfaaGreatDoor
namespace Rows

/-- THE TIED CARD OF 'boundstonelaw08.CustomMatchesAsSpecified'. -/
def customMatchesAsSpecifiedCard : Claim7 := { stood := { row := customMatchesAsSpecifiedRow, standIns := [], harness := (true, "8642f237130f50be0c2570ebac80646735b5d74a030445b809c28b1d8b3d12eb"), looks := true }, kinds := [], alts := [], laidByText := true, laidKinds := [.data, .data, .data, .sentinel, .sentinel], laidTests := true, laidLooks := .later }
def CustomMatchesAsSpecifiedCardSaid : Prop := Claim7.holds Tryz.pinned (.plain (OpenSpec.ofChange customMatchesAsSpecifiedSpec)) customMatchesAsSpecifiedCard

/-- THE SECOND FORM's CARD OF 'boundstonelaw08.CustomMatchesAsSpecified'. -/
def customMatchesAsSpecifiedUptoCard : Claim7 := { stood := { row := customMatchesAsSpecifiedUptoRow, standIns := [], harness := (true, "8642f237130f50be0c2570ebac80646735b5d74a030445b809c28b1d8b3d12eb"), looks := true }, kinds := [], alts := [], laidByText := true, laidKinds := [.data, .data, .data, .sentinel, .sentinel], laidTests := true, laidLooks := .later }
def CustomMatchesAsSpecifiedUptoCardSaid : Prop := Claim7.holds Tryz.pinned (.plain (OpenSpec.upto customMatchesAsSpecifiedSpec)) customMatchesAsSpecifiedUptoCard
end Rows
end Go.Proofs.YtigfnhjpgipdfaaGreatDoor
