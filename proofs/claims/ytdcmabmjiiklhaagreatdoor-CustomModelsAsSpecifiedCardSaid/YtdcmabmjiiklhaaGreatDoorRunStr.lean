/- Part of the proof that the law CustomModelsAsSpecified returns true for every input. Conditions: none. -/
import Derived.Test.YtdcmabmjiiklhaaGreatDoorPartI
import Derived.KernelRfl
namespace Go.Abs.Tz
open Go Go.Abs Go.Proofs
theorem rStr:runs 21 aStr vStr=true:=by kernel_rfl
end Go.Abs.Tz
