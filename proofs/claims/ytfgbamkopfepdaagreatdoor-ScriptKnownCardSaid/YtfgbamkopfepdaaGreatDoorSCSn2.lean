import Derived.Test.YtfgbamkopfepdaaGreatDoorSCSn1
import Derived.JoinedOf
namespace Go.Proofs.YtfgbamkopfepdaaGreatDoor.scriptKnown
open Go
theorem fact16 : ((Rows.scriptKnownRow.loops == (Tryz.f3.params.toList ++ Rows.scriptKnownSpec.plain.varTypes Tryz.prog).any (Tryz.prog.loopsFrom ·))) = true := by kernel_rfl
theorem fact17 : ((Rows.scriptKnownRow.wideKeys == (Tryz.f3.params.toList ++ Rows.scriptKnownSpec.plain.varTypes Tryz.prog ++ Tryz.f3.resultTypes.toList).any (Tryz.prog.wideKeysFrom ·))) = true := by kernel_rfl
theorem fact18 : (Rows.scriptKnownSpec.vars.all (Tryz.prog.varReadable ·)) = true := by kernel_rfl
theorem fact19 : (Tryz.f3.resultTypes.all (fun t => Tryz.prog.readableRec t && decide (t < Tryz.prog.types.size))) = true := by kernel_rfl
theorem fact20 : ((Rows.scriptKnownRow.ifacesOut == Tryz.f3.resultTypes.toList.any (Tryz.prog.ifacesRec ·))) = true := by kernel_rfl
theorem fact21 : ((Rows.scriptKnownRow.loopsOut == Tryz.f3.resultTypes.toList.any (Tryz.prog.loopsFrom ·))) = true := by kernel_rfl
theorem fact22 : ((Rows.scriptKnownRow.plainKeys == Tryz.prog.plainKeys)) = true := by kernel_rfl
theorem fact23 : (Rows.scriptKnownRow.shortTexts.isNone) = true := by kernel_rfl
end Go.Proofs.YtfgbamkopfepdaaGreatDoor.scriptKnown
