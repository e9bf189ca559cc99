import Derived.Test.YtfgbamkopfepdaaGreatDoorCards
import Derived.KernelRfl
import Derived.SevenTiedAt
namespace Go.Proofs.YtfgbamkopfepdaaGreatDoor.scriptKnown
open Go
theorem card_w : Rows.scriptKnownRow.wfByText (OpenSpec.ofChange Rows.scriptKnownSpec) = true := by kernel_rfl
theorem card_m : Tryz.prog.mainIs = some (true, "9f936e40c1c3f30ac12fe1181fd859c2159e917695d28dd544ba7434d0b542ac".toList) := by kernel_rfl
theorem card_l : true = Tryz.prog.looks [] := by kernel_rfl
theorem card_g : false = Rows.scriptKnownRow.goesBy Tryz.prog := by kernel_rfl
theorem card_n : Tryz.prog.funcNamed "precentor/precentorlaw27.ScriptKnown" = some 3 := by kernel_rfl
theorem row_o : Tryz.f3.isInstance Tryz.prog Rows.scriptKnownRow.origin Rows.scriptKnownRow.targs := of_decide_eq_true (by kernel_rfl)
theorem row_w : Tryz.f3.isWrapper Tryz.prog Rows.scriptKnownRow.wrapper Rows.scriptKnownRow.mainSum := by unfold Func.isWrapper; first | (rw [if_pos (by decide +kernel)]; kernel_rfl) | (rw [if_neg (by decide +kernel)]; exact ⟨rfl, rfl⟩)
end Go.Proofs.YtfgbamkopfepdaaGreatDoor.scriptKnown
