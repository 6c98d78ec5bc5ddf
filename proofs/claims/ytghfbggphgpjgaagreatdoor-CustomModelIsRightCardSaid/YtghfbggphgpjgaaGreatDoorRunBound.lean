/- Part of the proof that the law CustomModelIsRight returns true for every input. Conditions: none. -/
import Derived.Test.YtghfbggphgpjgaaGreatDoorPartI
import Derived.KernelRfl
namespace Go.Abs.Tz
open Go Go.Abs Go.Proofs
theorem rBound:runs 23 aBound vBound=true:=by kernel_rfl
end Go.Abs.Tz
