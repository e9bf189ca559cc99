import Derived.Test.YtfgbamkopfepdaaGreatDoorSA
import Derived.WalkKit
import Derived.Defers
import Derived.Recover
import Derived.Laws.Pointers
namespace Ev
open Go Go.Proofs Go.RowKit

theorem catch_idle (p : Addr) (w : World) :
    CallsD Tryz.prog 79 #[.pointer (some p)] .returning w fun e u' w' => e = .returned (.tuple #[]) ∧ u' = .returning ∧ w' = w := by
  have hnil : ∀ w : World, (binOp BinOp.eql 20 .nilIface .nilIface).run Tryz.prog w = .ok (.bool true) w := fun _ => by kernel_rfl
  refine callsD_of_wpS Tryz.func79 rfl fun c₀ cs hu => ?_
  apply wpS_seq
  apply wpS_region
  simp [wpOpsS, go_sem, recoverD, hu, Tryz.ntmps79, Exit.thenS]
  apply wpS_seq
  apply wpS_seq
  apply wpS_region
  simp [wpOpsS, go_sem, Exit.thenS]
  refine wpS_cond (t := true) (by simp [Act.eval, Array.replicate]) ?_
  simp only [if_true]
  refine wpS_of_wp (wp_ret ?_)
  cases c₀
  simp_all [bodyPostS, results, Tryz.results79, Exit.thenS]

theorem catch_panicking (p : Addr) (x : Value) (k : IntKind) (n : Int) (older : List PanicEntry) (w : World) (hc : w.cell? p = some x) (hz : w.frozen? p = false) :
    CallsD Tryz.prog 79 #[.pointer (some p)] (.panicking ({ v := .iface 37 (.int k n), recovered := false } :: older)) w fun e u' w' =>
      e = .returned (.tuple #[]) ∧ u' = .panicking ({ v := .iface 37 (.int k n), recovered := true } :: older) ∧ w' = w.setCell p (.int k n) := by
  have hnil : ∀ w : World, (binOp BinOp.eql 20 (.iface 37 (.int k n)) .nilIface).run Tryz.prog w = .ok (.bool false) w := fun _ => by kernel_rfl
  have hta : ∀ w : World, (Instr.typeAssert (.iface 37 (.int k n)) 20 37 true).run Tryz.prog w = .ok (.tuple #[.int k n, .bool true]) w := fun w => by
    simp [Instr.typeAssert, underlying, Tryz.underlying37]
  refine callsD_of_wpS Tryz.func79 rfl fun c₀ cs hu => ?_
  apply wpS_seq
  apply wpS_region
  simp [wpOpsS, go_sem, recoverD, hu, Tryz.ntmps79, Exit.thenS]
  apply wpS_seq
  apply wpS_seq
  apply wpS_region
  simp [wpOpsS, go_sem, hnil, Exit.thenS]
  refine wpS_cond (t := false) (by simp [Act.eval, Array.replicate]) ?_
  simp only [Bool.false_eq_true, if_false]
  refine wpS_of_wp (wp_skip ?_)
  simp only [Exit.thenS]
  apply wpS_seq
  apply wpS_region
  simp [wpOpsS, go_sem, hta, Exit.thenS]
  apply wpS_seq
  apply wpS_seq
  apply wpS_region
  simp [wpOpsS, go_sem, Exit.thenS]
  refine wpS_cond (t := false) (by simp [Act.eval, Array.replicate]) ?_
  simp only [Bool.false_eq_true, if_false]
  refine wpS_of_wp (wp_skip ?_)
  simp only [Exit.thenS]
  apply wpS_region
  simp [wpOpsS, go_sem, hc, hz, bodyPostS, results, Tryz.results79]

theorem trap_run (f : FuncId) (first cap : Array Value) (w : World) (Q : Ending → World → Prop)
    (he : (callFunc f (first ++ cap)).run Tryz.prog (w.alloc (.cells #[.int .i64 0] 37)) = .ok (.enter f (first ++ cap)) (w.alloc (.cells #[.int .i64 0] 37)))
    (hq : Calls Tryz.prog f (first ++ cap) (w.alloc (.cells #[.int .i64 0] 37)) Q)
    (hc : ∀ e w', Q e w' → ((∃ v, e = .returned v) ∨ ∃ k n, e = .panicked [{ v := .iface 37 (.int k n), recovered := false }]) ∧
      w'.heap[w.heap.size]? = some (.cells #[.int .i64 0] 37)) :
    Calls Tryz.prog 34 #[.func (.func f) first cap] w fun e w'' => ∃ e0 w', Q e0 w' ∧
      ((∃ v, e0 = .returned v ∧ e = .returned (.int .i64 0) ∧ w'' = w'.setCell ⟨w.heap.size, 0, none⟩ (.int .i64 0)) ∨
       (∃ k n, e0 = .panicked [{ v := .iface 37 (.int k n), recovered := false }] ∧ e = .returned (.int k n) ∧ w'' = w'.setCell ⟨w.heap.size, 0, none⟩ (.int k n))) := by
  have hmf : ∀ (fn : Fn) (first cap : Array Value) (w : World), (Instr.makeFunc fn first cap).run Tryz.prog w = .ok (.func fn first cap) w := fun _ _ _ _ => rfl
  have hnil : ∀ w : World, (binOp BinOp.eql 1 (.func (.func f) first cap) .nilFunc).run Tryz.prog w = .ok (.bool false) w := fun _ => by kernel_rfl
  go_enter_defers Tryz.func34, Tryz.ntmps34
  go_wp2
  refine hq.mono ?_
  rintro e w' hqe
  obtain ⟨hcase, hcell⟩ := hc e w' hqe
  have h1 : w'.cell? ⟨w.heap.size, 0, none⟩ = some (.int .i64 0) := by rw [cell_of_heap hcell]; rfl
  have h2 : w'.frozen? ⟨w.heap.size, 0, none⟩ = false := frozen_of_heap hcell (by simp)
  rcases hcase with ⟨v, rfl⟩ | ⟨k, n, rfl⟩
  · simp only
    go_wp2
    have h3 : (w'.setCell ⟨w.heap.size, 0, none⟩ (.int .i64 0)).cell? ⟨w.heap.size, 0, none⟩ = some (.int .i64 0) := World.cell?_setCell_same _ _ _ h1
    refine leaves_cons (f := 79) (args := #[.pointer (some ⟨w.heap.size, 0, none⟩)]) (by simp) (by simp [go_sem]) ?_
    refine (catch_idle ⟨w.heap.size, 0, none⟩ _).mono ?_
    rintro e u' w'' ⟨rfl, rfl, rfl⟩
    simp [Leaves, settle, results, Tryz.results34, go_sem, h3]
    exact ⟨_, w', hqe, .inl ⟨⟨_, rfl⟩, rfl⟩⟩
  · simp only
    refine leaves_cons (f := 79) (args := #[.pointer (some ⟨w.heap.size, 0, none⟩)]) (by simp) (by simp [go_sem]) ?_
    refine (catch_panicking ⟨w.heap.size, 0, none⟩ (.int .i64 0) k n [] _ h1 h2).mono ?_
    rintro e u' w'' ⟨rfl, rfl, rfl⟩
    have h3 : (w'.setCell ⟨w.heap.size, 0, none⟩ (.int k n)).cell? ⟨w.heap.size, 0, none⟩ = some (.int k n) := World.cell?_setCell_same _ _ _ h1
    simp [Leaves, settle, results, Tryz.results34, go_sem, h3]
    exact ⟨_, w', hqe, .inr ⟨k, n, rfl, ⟨rfl, rfl⟩, rfl⟩⟩
end Ev
