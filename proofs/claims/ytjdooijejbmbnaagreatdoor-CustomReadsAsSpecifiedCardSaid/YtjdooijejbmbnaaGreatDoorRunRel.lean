/- Part of the proof that for every source the law CustomReadsAsSpecified returns true. Conditions: none. -/
import Derived.Test.YtjdooijejbmbnaaGreatDoorPartI
import Derived.KernelRfl
namespace Go.Abs.Tz
open Go Go.Abs Go.Proofs
theorem rRel:runs 20 aRel vRel=true:=by kernel_rfl
end Go.Abs.Tz
