/- A part of the proof that for every row of clauses, every atom and every number the law CustomChecksAsSpecified returns true, and all read afterwards as before. Conditions: none of its own. -/
import Derived.Test.YtajlioicmkcjbaaGreatDoorPartI
import Derived.KernelRfl
namespace Go.Abs.Tz
open Go Go.Abs Go.Proofs
theorem rPrint : runs 7 aPrint vPrint = true := by kernel_rfl
end Go.Abs.Tz
