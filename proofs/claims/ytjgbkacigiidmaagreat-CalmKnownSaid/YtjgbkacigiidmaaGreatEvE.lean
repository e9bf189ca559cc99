import Derived.Test.YtjgbkacigiidmaaGreatEvD
import Derived.Laws.StructEq
import Derived.Laws.Tables
namespace Ev
open Go

structure CtxOk (C : Ctx) (P : Program) : Prop where
  ty : ∀ t i, C.ty.get t = some i → P.info? t = some i
  fn : ∀ f fn, C.fn.get f = some fn → P.funcs[f]? = some fn
  name : ∀ f fn, C.fn.get f = some fn → (fn.name == "runtime.NumGoroutine") = false
  eqg : ∀ t, t ∈ C.eqs → P.eqGuardType P.depth t = false
  eqs : ∀ t, t ∈ C.eqs → P.stoodInHeld t = false
  zc : ∀ t z, zeroT C t = some z → z.cells.toList.all closedV = true
  zs : ∀ t z n, zeroT C t = some z → sizeT C t = some n → z.cells.size = n
  mixed : P.follows .mixedOrders = true

section
variable {C : Ctx} {P : Program}

theorem und_ok (hC : CtxOk C P) {t : TypeId} {d : TypeDesc} (h : und C t = some d) : P.underlying t = some d := by
  unfold und at h
  cases hi : C.ty.get t with
  | none => rw [hi] at h; cases h
  | some i =>
    rw [hi] at h
    have := hC.ty t i hi
    unfold Program.underlying
    rw [this]
    obtain ⟨desc, str, size, bytes, hp, al, fa, zero, comp, ms⟩ := i
    cases desc <;> first
      | (simpa using h; done)
      | (simp only [Option.map_eq_some_iff] at h
         obtain ⟨j, hj, rfl⟩ := h
         have hu := hC.ty _ j hj
         simp only [hu, Option.map_some])

theorem size_ok (hC : CtxOk C P) {t n : Nat} (h : sizeT C t = some n) : ∃ i, P.info? t = some i ∧ i.size = n := by
  unfold sizeT at h
  simp only [Option.map_eq_some_iff] at h
  obtain ⟨i, hi, rfl⟩ := h
  exact ⟨i, hC.ty t i hi, rfl⟩

theorem bytes_ok (hC : CtxOk C P) {t n : Nat} (h : bytesT C t = some n) : ∃ i, P.info? t = some i ∧ i.bytes = n := by
  unfold bytesT at h
  simp only [Option.map_eq_some_iff] at h
  obtain ⟨i, hi, rfl⟩ := h
  exact ⟨i, hC.ty t i hi, rfl⟩

theorem zero_ok (hC : CtxOk C P) {t : Nat} {z : Value} (h : zeroT C t = some z) : ∃ i, P.info? t = some i ∧ i.zero = some z := by
  unfold zeroT at h
  simp only [Option.bind_eq_some_iff] at h
  obtain ⟨i, hi, hz⟩ := h
  refine ⟨i, hC.ty t i hi, ?_⟩
  unfold noTuple at hz
  split at hz
  · cases hz
  · exact hz

theorem run_underlying (hC : CtxOk C P) {t : TypeId} {d : TypeDesc} (h : und C t = some d) (w : World) : (underlying t).run P w = .ok d w := by
  simp [underlying, und_ok hC h]

theorem run_sizeOf (hC : CtxOk C P) {t n : Nat} (h : sizeT C t = some n) (w : World) : (Go.sizeOf t).run P w = .ok n w := by
  obtain ⟨i, hi, rfl⟩ := size_ok hC h
  simp [Go.sizeOf, typeInfo, hi]

theorem run_typeInfo_bytes (hC : CtxOk C P) {t n : Nat} (h : bytesT C t = some n) (w : World) : ∃ i, (typeInfo t).run P w = .ok i w ∧ i.bytes = n := by
  obtain ⟨i, hi, rfl⟩ := bytes_ok hC h
  exact ⟨i, by simp [typeInfo, hi], rfl⟩

theorem run_zeroValue (hC : CtxOk C P) {t : Nat} {z : Value} (h : zeroT C t = some z) (w : World) : (zeroValue t).run P w = .ok z w := by
  obtain ⟨i, hi, hz⟩ := zero_ok hC h
  simp [zeroValue, typeInfo, hi, hz]

theorem run_isAgg (hC : CtxOk C P) {t : TypeId} {d : TypeDesc} (h : und C t = some d) (w : World) : (isAgg t).run P w = .ok (isAggD d) w := by
  simp only [isAgg, Sem.run_bind, run_underlying hC h, Result.andThen_ok]
  cases d <;> rfl

end

/-! ### the frame -/

def TR (g : Gh) (t : Tr Value) (tm : Array Value) : Prop := ∀ x, VR g (getT t x) (tm.getD x undef)

theorem TR.mono {g g' : Gh} (hg : GExt g g') {t : Tr Value} {tm : Array Value} (h : TR g t tm) : TR g' t tm := fun x => (h x).mono hg

theorem VR.undef (g : Gh) : VR g Go.undef Go.undef := .tuple _ _ .nil

theorem opd_rel {g : Gh} {t : Tr Value} {a : Act} (h : TR g t a.tmps) {x : Operand} {v : Value} (hv : opd t x = some v) : VR g v (a.eval x) := by
  cases x with
  | tmp n => simp [opd] at hv; subst hv; exact h n
  | const c =>
    simp only [opd] at hv
    cases hc : closedV c with
    | false => rw [hc] at hv; cases hv
    | true => rw [hc] at hv; cases hv; exact VR.of_closed hc
  | global n => simp [opd] at hv
  | func f => simp [opd] at hv; subst hv; exact .func _ _ _ _ _ .nil .nil

theorem opds_rel {g : Gh} {t : Tr Value} {a : Act} (h : TR g t a.tmps) : ∀ {l : List Operand} {vs : List Value}, opds t l = some vs → VRL g vs (l.map a.eval)
  | [], vs, hv => by simp [opds] at hv; subst hv; exact .nil
  | x :: l, vs, hv => by
    simp only [opds] at hv
    split at hv
    · rename_i v vs' h1 h2
      cases hv
      exact .cons (opd_rel h h1) (opds_rel h h2)
    · cases hv

inductive VRP (g : Gh) : List (Nat × Value) → List (Nat × Value) → Prop where
  | nil : VRP g [] []
  | cons {i : Nat} {v v' : Value} {l l' : List (Nat × Value)} (h : VR g v v') (t : VRP g l l') : VRP g ((i, v) :: l) ((i, v') :: l')

theorem parts_rel {g : Gh} {t : Tr Value} {a : Act} (h : TR g t a.tmps) : ∀ {l : List (Nat × Operand)} {vs : List (Nat × Value)}, parts t l = some vs →
    VRP g vs (l.map fun p => (p.1, a.eval p.2))
  | [], vs, hv => by simp [parts] at hv; subst hv; exact .nil
  | (i, x) :: l, vs, hv => by
    simp only [parts] at hv
    split at hv
    · rename_i v vs' h1 h2
      cases hv
      exact .cons (opd_rel h h1) (parts_rel h h2)
    · cases hv

theorem VR.cells {g : Gh} {v v' : Value} (r : VR g v v') : VRL g v.cells.toList v'.cells.toList := by
  cases r <;> first
    | (rename_i h; exact h; done)
    | skip
  all_goals (simp only [Value.cells])
  all_goals first
    | assumption
    | (refine .cons ?_ .nil; constructor <;> assumption)
    | (refine .cons ?_ .nil; constructor)

theorem VR.cells_size {g : Gh} {v v' : Value} (r : VR g v v') : v'.cells.size = v.cells.size := by
  have := r.cells.length
  simpa using this.symm

end Ev
