/- A part of the proof that for every two atoms the law CustomMatchesAsSpecified returns true, and both read afterwards as before. Conditions: none of its own. -/
import Derived.Test.YtigfnhjpgipdfaaGreatDoorPartI
import Derived.KernelRfl
/- The example: a call worked out. -/
namespace Go.Abs.Tz
open Go Go.Abs Go.Proofs
theorem rPrint : runs 12 aPrint vPrint = true := by kernel_rfl
end Go.Abs.Tz
