import Derived.Test.YtfgbamkopfepdaaGreatDoorSA
namespace Ev
open Go Go.Proofs
theorem fns : fnsOk ids Tryz.prog.funcs.toList 0 = true := by decide +kernel
end Ev
