import Derived.Test.YtjgbkacigiidmaaGreatEvZh
import Derived.KernelRfl
import Derived.Test.YtjgbkacigiidmaaGreatProg
namespace Ev
open Go Go.Proofs

noncomputable def ids : Ids where
  eqs := [44, 223, 284]
  run := 149
  ern := 23
  fbits := 239
  ffrom := 244
  ftrunc := 241
noncomputable def ctx : Ctx := ctxOf Tryz.prog ids

theorem nTypes : Tryz.prog.types.toList.length ≤ 4000 := by decide +kernel
theorem nFuncs : Tryz.prog.funcs.toList.length ≤ 4000 := by decide +kernel
theorem tys : typesOk Tryz.prog.types.toList = true := by decide +kernel
theorem mixed : Tryz.prog.follows .mixedOrders = true := by kernel_rfl
theorem eqsk : eqsOk Tryz.prog ids.eqs = true := by decide +kernel
end Ev
