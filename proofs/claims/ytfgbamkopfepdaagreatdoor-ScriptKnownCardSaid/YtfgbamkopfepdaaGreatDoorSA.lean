import Derived.Test.YtfgbamkopfepdaaGreatDoorEH
import Derived.KernelRfl
import Derived.Test.YtfgbamkopfepdaaGreatDoorProg
namespace Ev
open Go Go.Proofs

noncomputable def ids : Ids where
  eqs := [24, 203, 435]
  run := 34
  ern := 37
  fbits := 94
  ffrom := 147
  ftrunc := 370
  bad := [141]
  perm := [(38, [(5, [0, 1, 3, 4, 5, 2, 6, 7, 8]), (9, [0, 1, 3, 4, 5, 2, 6, 7, 8])])]
noncomputable def ctx : Ctx := ctxOf Tryz.prog ids

theorem nTypes : Tryz.prog.types.toList.length ≤ 4000 := by decide +kernel
theorem nFuncs : Tryz.prog.funcs.toList.length ≤ 4000 := by decide +kernel
theorem tys : typesOk Tryz.prog.types.toList = true := by decide +kernel
theorem mixed : Tryz.prog.follows .mixedOrders = true := by kernel_rfl
theorem eqsk : eqsOk Tryz.prog ids.eqs = true := by decide +kernel
end Ev
