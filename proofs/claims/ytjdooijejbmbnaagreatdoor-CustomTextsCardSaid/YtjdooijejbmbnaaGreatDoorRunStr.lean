/- Part of the proof that for every row of clauses, every atom and every source the law CustomTexts returns true. Conditions: none. -/
import Derived.Test.YtjdooijejbmbnaaGreatDoorPartI
import Derived.KernelRfl
set_option linter.unusedVariables false
set_option linter.unusedSimpArgs false
set_option linter.unusedSectionVars false
namespace Go.Abs.Tz
open Go Go.Abs Go.Proofs
theorem rStr:runs 21 aStr vStr=true:=by kernel_rfl
end Go.Abs.Tz
