import Derived.Test.YtjgbkacigiidmaaGreatSA
namespace Ev
open Go Go.Proofs
theorem fns : fnsOk Tryz.prog.funcs.toList = true := by decide +kernel
end Ev
