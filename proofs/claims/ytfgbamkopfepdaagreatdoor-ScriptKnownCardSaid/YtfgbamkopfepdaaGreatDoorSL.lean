import Derived.Test.YtfgbamkopfepdaaGreatDoorSK
import Derived.Test.YtfgbamkopfepdaaGreatDoorSF
namespace Ev
open Go Go.Proofs
theorem a0 : ∀ e ∈ ([] : List Ent), EntOk Tryz.prog e := entNil
theorem a1 : ∀ e ∈ [e0], EntOk Tryz.prog e := entCons_wit ctx_ok fns_ok trap_ok libSpec a0 (by decide +kernel) ok0
theorem a2 : ∀ e ∈ [e1, e0], EntOk Tryz.prog e := entCons_wit ctx_ok fns_ok trap_ok libSpec a1 (by decide +kernel) ok1
theorem a3 : ∀ e ∈ [e2, e1, e0], EntOk Tryz.prog e := entCons_wit ctx_ok fns_ok trap_ok libSpec a2 (by decide +kernel) ok2
theorem known_holds (w : World) (hb : Base w) : Calls Tryz.prog 3 #[] w fun e w' => e = .returned (.bool true) ∧ (∀ b, b < w.heap.size → w'.heap[b]? = w.heap[b]?) ∧ w.heap.size ≤ w'.heap.size ∧ w'.os = w.os ∧ w'.output = w.output :=
  says_true hb (ctx_ok.with _) (evFn_wit ctx_ok fns_ok trap_ok libSpec a3 200000) bodyTop okTop
end Ev
