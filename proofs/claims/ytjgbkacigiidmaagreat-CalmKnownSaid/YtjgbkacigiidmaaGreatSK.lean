import Derived.Test.YtjgbkacigiidmaaGreatSE0
namespace Ev
open Go Go.Proofs
noncomputable def cTop : Ctx := { ctx with orc := orcT (tabOf [e7, e6, e5, e4, e3, e2, e1, e0]) }
theorem okTop : saysTrue (evFn cTop 200000 3 #[] ⟨.nil, 0⟩) = true := by decide +kernel
theorem bodyTop : hasBody cTop 3 = true := by decide +kernel
end Ev
