import Derived.Test.YtjgbkacigiidmaaGreatSK
import Derived.Test.YtjgbkacigiidmaaGreatSF
namespace Ev
open Go Go.Proofs
theorem a0 : ∀ e ∈ ([] : List Ent), EntOk Tryz.prog e := entNil
theorem a1 : ∀ e ∈ [e0], EntOk Tryz.prog e := entCons ctx_ok fns_ok trap_ok a0 (by decide +kernel) ok0
theorem a2 : ∀ e ∈ [e1, e0], EntOk Tryz.prog e := entCons ctx_ok fns_ok trap_ok a1 (by decide +kernel) ok1
theorem a3 : ∀ e ∈ [e2, e1, e0], EntOk Tryz.prog e := entCons ctx_ok fns_ok trap_ok a2 (by decide +kernel) ok2
theorem a4 : ∀ e ∈ [e3, e2, e1, e0], EntOk Tryz.prog e := entCons ctx_ok fns_ok trap_ok a3 (by decide +kernel) ok3
theorem a5 : ∀ e ∈ [e4, e3, e2, e1, e0], EntOk Tryz.prog e := entCons ctx_ok fns_ok trap_ok a4 (by decide +kernel) ok4
theorem a6 : ∀ e ∈ [e5, e4, e3, e2, e1, e0], EntOk Tryz.prog e := entCons ctx_ok fns_ok trap_ok a5 (by decide +kernel) ok5
theorem a7 : ∀ e ∈ [e6, e5, e4, e3, e2, e1, e0], EntOk Tryz.prog e := entCons ctx_ok fns_ok trap_ok a6 (by decide +kernel) ok6
theorem a8 : ∀ e ∈ [e7, e6, e5, e4, e3, e2, e1, e0], EntOk Tryz.prog e := entCons ctx_ok fns_ok trap_ok a7 (by decide +kernel) ok7
theorem known_holds (w : World) : Calls Tryz.prog 3 #[] w fun e w' => e = .returned (.bool true) ∧ (∀ b, b < w.heap.size → w'.heap[b]? = w.heap[b]?) ∧ w.heap.size ≤ w'.heap.size ∧ w'.os = w.os ∧ w'.output = w.output :=
  says_true (ctx_ok.with _) (evFn_ents ctx_ok fns_ok trap_ok a8 200000) bodyTop okTop w
end Ev
