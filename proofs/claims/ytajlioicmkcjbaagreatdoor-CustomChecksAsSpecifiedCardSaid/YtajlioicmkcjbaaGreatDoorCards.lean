/-
  DERIVED. GIVEN WITH THE SEED: THE CARDS: each row of YtajlioicmkcjbaaGreatDoorRows.lean that lists a variable, with what it lists TIED to the program's text (the seventh form; the later family's looks); each row that meets fmt, with fmt's text TOLD by the authors' own Lean function (tested against real Go, not proved from fmt's source: count such statements apart). THE CARD IS WHAT COUNTS. Prove the row's statement (the work); the ties are given (YtajlioicmkcjbaaGreatDoorTie.lean); close each card by the builder's one call (the guide's Derived/Test/ToyasCard.lean, 'card_holds'). Laid BY PROGRAM, IN A SANDBOX (cutbox-door.mjs). By AI agents, Wed Nov 11 2026. No macro, syntax, notation, axiom, sorry.
-/
import Derived.Test.YtajlioicmkcjbaaGreatDoorRows
import GoSem.ClaimSeven
namespace Go.Proofs.YtajlioicmkcjbaaGreatDoor
namespace Rows

/-- THE TIED CARD OF 'boundstonelaw08.CustomChecksAsSpecified'. -/
def customChecksAsSpecifiedCard : Claim7 := { stood := { row := customChecksAsSpecifiedRow, standIns := [], harness := (true, "3b9c8922816af54b13dd08dd2bf3c1d4aa003fb5e03715b72f32e46dc93e94cf"), looks := true }, kinds := [], alts := [], laidByText := true, laidKinds := [.data, .data, .data, .sentinel, .sentinel], laidTests := true, laidLooks := .later }
def CustomChecksAsSpecifiedCardSaid : Prop := Claim7.holds Tryz.pinned (.plain (OpenSpec.ofChange customChecksAsSpecifiedSpec)) customChecksAsSpecifiedCard

/-- THE SECOND FORM's CARD OF 'boundstonelaw08.CustomChecksAsSpecified'. -/
def customChecksAsSpecifiedUptoCard : Claim7 := { stood := { row := customChecksAsSpecifiedUptoRow, standIns := [], harness := (true, "3b9c8922816af54b13dd08dd2bf3c1d4aa003fb5e03715b72f32e46dc93e94cf"), looks := true }, kinds := [], alts := [], laidByText := true, laidKinds := [.data, .data, .data, .sentinel, .sentinel], laidTests := true, laidLooks := .later }
def CustomChecksAsSpecifiedUptoCardSaid : Prop := Claim7.holds Tryz.pinned (.plain (OpenSpec.upto customChecksAsSpecifiedSpec)) customChecksAsSpecifiedUptoCard
end Rows
end Go.Proofs.YtajlioicmkcjbaaGreatDoor
