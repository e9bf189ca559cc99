import Derived.Test.YtfgbamkopfepdaaGreatDoorSB
import Derived.Test.YtfgbamkopfepdaaGreatDoorST
namespace Ev
open Go Go.Proofs

theorem trap_ok : TrapSpec ctx Tryz.prog := by
  intro f first cap w Q he hq hc
  refine ⟨?_, trap_run f first cap w Q he hq hc⟩
  show (callFunc 34 #[.func (.func f) first cap]).run Tryz.prog w = _
  kernel_rfl

theorem bits_ok (b : Nat) (w : World) : (callFunc 94 #[.float .f64 b]).run Tryz.prog w = .ok (.value (.int .u64 b)) w := by kernel_rfl
theorem from_ok (b : Nat) (w : World) : (callFunc 147 #[.int .u64 (.ofNat b)]).run Tryz.prog w = .ok (.value (.float .f64 b)) w := by kernel_rfl

theorem ctx_ok : CtxOk ctx Tryz.prog := ctxOf_ok nTypes nFuncs tys fns eqsk mixed
theorem fns_ok : FnsOk ctx Tryz.prog := fnsOk_of nFuncs fns bits_ok from_ok
end Ev
