/-
  DERIVED. GIVEN WITH THE SEED: THE CARDS: each row of YtghfbggphgpjgaaGreatDoorRows.lean that lists a variable, with what it lists TIED to the program's text (the seventh form; the later family's looks); each row that meets fmt, with fmt's text TOLD by the authors' own Lean function (tested against real Go, not proved from fmt's source: count such statements apart). THE CARD IS WHAT COUNTS. Prove the row's statement (the work); the ties are given (YtghfbggphgpjgaaGreatDoorTie.lean); close each card by the builder's one call (the guide's Derived/Test/ToyasCard.lean, 'card_holds'). Laid BY PROGRAM, IN A SANDBOX (cutbox-door.mjs). By AI agents, Wed Nov 11 2026. No macro, syntax, notation, axiom, sorry.
-/
import Derived.Test.YtghfbggphgpjgaaGreatDoorRows
import GoSem.ClaimSeven
namespace Go.Proofs.YtghfbggphgpjgaaGreatDoor
namespace Rows

/-- THE TIED CARD OF 'boundstonelaw08.CustomStepsAsSpecified'. -/
def customStepsAsSpecifiedCard : Claim7 := { stood := { row := customStepsAsSpecifiedRow, standIns := [], harness := (true, "6de30055e9de9b1857f73efa18f02be6b71248a18fa3a98285182868cf4c36b4"), looks := true }, kinds := [], alts := [], laidByText := true, laidKinds := [.data, .data, .data, .sentinel, .sentinel], laidTests := true, laidLooks := .later }
def CustomStepsAsSpecifiedCardSaid : Prop := Claim7.holds Tryz.pinned (.plain (OpenSpec.ofChange customStepsAsSpecifiedSpec)) customStepsAsSpecifiedCard

/-- THE TIED CARD OF 'boundstonelaw08.CustomModelIsRight'. -/
def customModelIsRightCard : Claim7 := { stood := { row := customModelIsRightRow, standIns := [], harness := (true, "6de30055e9de9b1857f73efa18f02be6b71248a18fa3a98285182868cf4c36b4"), looks := true }, kinds := [], alts := [], laidByText := true, laidKinds := [.data, .data, .data, .sentinel, .sentinel], laidTests := true, laidLooks := .later }
def CustomModelIsRightCardSaid : Prop := Claim7.holds Tryz.pinned (.plain (OpenSpec.ofChange customModelIsRightSpec)) customModelIsRightCard

/-- THE SECOND FORM's CARD OF 'boundstonelaw08.CustomStepsAsSpecified'. -/
def customStepsAsSpecifiedUptoCard : Claim7 := { stood := { row := customStepsAsSpecifiedUptoRow, standIns := [], harness := (true, "6de30055e9de9b1857f73efa18f02be6b71248a18fa3a98285182868cf4c36b4"), looks := true }, kinds := [], alts := [], laidByText := true, laidKinds := [.data, .data, .data, .sentinel, .sentinel], laidTests := true, laidLooks := .later }
def CustomStepsAsSpecifiedUptoCardSaid : Prop := Claim7.holds Tryz.pinned (.plain (OpenSpec.upto customStepsAsSpecifiedSpec)) customStepsAsSpecifiedUptoCard

/-- THE SECOND FORM's CARD OF 'boundstonelaw08.CustomModelIsRight'. -/
def customModelIsRightUptoCard : Claim7 := { stood := { row := customModelIsRightUptoRow, standIns := [], harness := (true, "6de30055e9de9b1857f73efa18f02be6b71248a18fa3a98285182868cf4c36b4"), looks := true }, kinds := [], alts := [], laidByText := true, laidKinds := [.data, .data, .data, .sentinel, .sentinel], laidTests := true, laidLooks := .later }
def CustomModelIsRightUptoCardSaid : Prop := Claim7.holds Tryz.pinned (.plain (OpenSpec.upto customModelIsRightSpec)) customModelIsRightUptoCard
end Rows
end Go.Proofs.YtghfbggphgpjgaaGreatDoor
