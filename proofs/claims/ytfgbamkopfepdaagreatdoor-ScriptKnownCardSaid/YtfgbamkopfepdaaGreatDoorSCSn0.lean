import Derived.Test.YtfgbamkopfepdaaGreatDoorRows
import Derived.JoinedOf
namespace Go.Proofs.YtfgbamkopfepdaaGreatDoor.scriptKnown
open Go
theorem fact0 : (Rows.scriptKnownRow.wf (OpenSpec.ofChange Rows.scriptKnownSpec)) = true := by kernel_rfl
theorem fact1 : (laidOutB Tryz.prog) = true := by kernel_rfl
theorem fact2 : (mapsRowed Tryz.prog) = true := by kernel_rfl
theorem fact3 : (Tryz.f3.params.all (Tryz.prog.readableRec ·)) = true := by kernel_rfl
theorem fact4 : (namedTie Tryz.prog Rows.scriptKnownRow.named Rows.scriptKnownSpec.vars) = true := by kernel_rfl
theorem fact5 : ((Rows.scriptKnownRow.stops == [])) = true := by kernel_rfl
theorem fact6 : ((Tryz.prog.stops == [])) = true := by kernel_rfl
theorem fact7 : ((Rows.scriptKnownRow.knobs == [])) = true := by kernel_rfl
end Go.Proofs.YtfgbamkopfepdaaGreatDoor.scriptKnown
