import Derived.Test.YtfgbamkopfepdaaGreatDoorSE0
namespace Ev
open Go Go.Proofs
noncomputable def cTop : Ctx := ctx.wit lib [e2, e1, e0]
theorem okTop : saysTrue (evFn cTop 200000 3 #[] ⟨.nil, 16⟩) = true := by decide +kernel
theorem bodyTop : hasBody cTop 3 = true := by decide +kernel
end Ev
