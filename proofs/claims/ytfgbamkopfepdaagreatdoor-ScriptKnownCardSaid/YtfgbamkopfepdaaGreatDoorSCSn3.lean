import Derived.Test.YtfgbamkopfepdaaGreatDoorSCSn2
import Derived.JoinedOf
namespace Go.Proofs.YtfgbamkopfepdaaGreatDoor.scriptKnown
open Go
theorem fact24 : (Tryz.prog.stopsHeard) = true := by kernel_rfl
theorem fact25 : (Tryz.prog.mayEnter) = true := by kernel_rfl
theorem fact26 : ((Rows.scriptKnownRow.lifted == Tryz.prog.liftsFinal)) = true := by kernel_rfl
theorem fact27 : ((Tryz.prog.make == some Rows.scriptKnownRow.make)) = true := by kernel_rfl
theorem fact28 : ((Rows.scriptKnownRow.kinds == (if Rows.scriptKnownRow.domain.isEmpty then [] else Tryz.f3.params.toList.map fun t => match Tryz.prog.underlying t with | some (.int k) => some k | _ => none))) = true := by kernel_rfl
theorem fact29 : ((Rows.scriptKnownRow.pinned == Rows.scriptKnownRow.pinnedBy)) = true := by kernel_rfl
theorem fact30 : ((Rows.scriptKnownRow.veiled == (Tryz.f3.params.toList ++ Rows.scriptKnownSpec.plain.varTypes Tryz.prog ++ Tryz.f3.resultTypes.toList).any (Tryz.prog.veiledRec ·))) = true := by kernel_rfl
theorem fact31 : (Rows.scriptKnownRow.veiledFits Tryz.prog Tryz.f3.params.toList (Tryz.f3.params.toList ++ Rows.scriptKnownSpec.plain.varTypes Tryz.prog ++ Tryz.f3.resultTypes.toList)) = true := by kernel_rfl
end Go.Proofs.YtfgbamkopfepdaaGreatDoor.scriptKnown
