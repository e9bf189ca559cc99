import Derived.Test.YtfgbamkopfepdaaGreatDoorSCSn0
import Derived.JoinedOf
namespace Go.Proofs.YtfgbamkopfepdaaGreatDoor.scriptKnown
open Go
theorem fact8 : ((Tryz.prog.stopKnobs == [])) = true := by kernel_rfl
theorem fact9 : ((Rows.scriptKnownRow.inPlace == Tryz.prog.inPlace 3)) = true := by kernel_rfl
theorem fact10 : ((Rows.scriptKnownRow.unfollowed == Tryz.prog.unfollowed 3)) = true := by kernel_rfl
theorem fact11 : ((Rows.scriptKnownRow.recurses == Tryz.prog.recurses 3)) = true := by kernel_rfl
theorem fact12 : ((Rows.scriptKnownRow.named == Tryz.prog.varsNamed 3)) = true := by kernel_rfl
theorem fact13 : ((Rows.scriptKnownRow.maps == (Tryz.f3.params.toList ++ Rows.scriptKnownSpec.plain.varTypes Tryz.prog).any (Tryz.prog.mapsRec ·))) = true := by kernel_rfl
theorem fact14 : ((Rows.scriptKnownRow.ifaces == (Tryz.f3.params.toList ++ Rows.scriptKnownSpec.plain.varTypes Tryz.prog).any (Tryz.prog.ifacesRec ·))) = true := by kernel_rfl
theorem fact15 : ((Rows.scriptKnownRow.mapsOut == Tryz.prog.mapsAmong Tryz.f3.resultTypes.toList)) = true := by kernel_rfl
end Go.Proofs.YtfgbamkopfepdaaGreatDoor.scriptKnown
