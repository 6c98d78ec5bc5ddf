/- Part of the proof that the law CustomStepsProve returns true for every input. Conditions: none. -/
import Derived.Test.YtdifmcjgoamanaaGreatDoorPartI
import Derived.KernelRfl
namespace Go.Abs.Tz
open Go Go.Abs Go.Proofs
theorem rGiven:runs 23 aGiven vGiven=true:=by kernel_rfl
end Go.Abs.Tz
