import Derived.Test.YtjgbkacigiidmaaGreatEvZa
namespace Ev
open Go

section
variable {C : Ctx} {F : CallF}

/-- one operation of a drawn region, as the canonical run has it. -/
def StepsTo (C : Ctx) (F : CallF) (all : List Oper) (i : Nat) (o : Oper) (s s1 : St) (m m1 : Met) : Prop :=
  (wantedA all s.t o = false ∧ s1 = ⟨putT s.t o.dst undef, s.h⟩ ∧ m1 = m) ∨
  (wantedA all s.t o = true ∧
    ((∃ v, aop C o s.t s.h = some (.val v, s1.h) ∧ s1.t = putT s.t o.dst v ∧ m1 = note C o i s.t (.val v) s1.h m ∧ (isReader o = true → s1.h.next = s.h.next)) ∨
     (aop C o s.t s.h = some (.skip, s1.h) ∧ s1.t = putT s.t o.dst undef ∧ m1 = note C o i s.t .skip s1.h m) ∨
     (∃ f args h1 v, aop C o s.t s.h = some (.call f args, h1) ∧ F f args h1 = some (.ret v, s1.h) ∧ s1.t = putT s.t o.dst v ∧ m1 = note C o i s.t (.val v) s1.h m)))

theorem evOps_trace {all : List Oper} : ∀ (l : List Oper) (i : Nat) (s : St) (m : Met) {o : Out} {s' : St} {m' : Met},
    evOps C F all true l i s m = some (o, s', m') →
    o = .norm ∧ ∃ (st : Nat → St) (mt : Nat → Met), st 0 = s ∧ mt 0 = m ∧ st l.length = s' ∧ mt l.length = m' ∧
      ∀ k x, l[k]? = some x → StepsTo C F all (i + k) x (st k) (st (k + 1)) (mt k) (mt (k + 1))
  | [], i, s, m, o, s', m', e => by
    simp only [evOps, Option.some.injEq, Prod.mk.injEq] at e
    obtain ⟨rfl, rfl, rfl⟩ := e
    exact ⟨rfl, fun _ => s, fun _ => m, rfl, rfl, rfl, rfl, fun k x h => by simp at h⟩
  | op :: l, i, s, m, o, s', m', e => by
    have main : ∀ (s1 : St) (m1 : Met), evOps C F all true l (Nat.succ i) s1 m1 = some (o, s', m') → StepsTo C F all i op s s1 m m1 →
        o = .norm ∧ ∃ (st : Nat → St) (mt : Nat → Met), st 0 = s ∧ mt 0 = m ∧ st (op :: l).length = s' ∧ mt (op :: l).length = m' ∧
          ∀ k x, (op :: l)[k]? = some x → StepsTo C F all (i + k) x (st k) (st (k + 1)) (mt k) (mt (k + 1)) := by
      intro s1 m1 e1 h1
      obtain ⟨ho, st, mt, q1, q2, q3, q4, q5⟩ := evOps_trace l (Nat.succ i) s1 m1 e1
      refine ⟨ho, fun k => match k with | 0 => s | k + 1 => st k, fun k => match k with | 0 => m | k + 1 => mt k, rfl, rfl, q3, q4, ?_⟩
      intro k x hx
      cases k with
      | zero =>
        simp only [List.getElem?_cons_zero, Option.some.injEq] at hx
        subst hx
        simp only [q1, q2]
        exact h1
      | succ k =>
        simp only [List.getElem?_cons_succ] at hx
        have := q5 k x hx
        rw [show i + (k + 1) = Nat.succ i + k by omega]
        exact this
    simp only [evOps] at e
    cases hw : wantedA all s.t op with
    | false =>
      rw [hw] at e
      exact main _ _ e (.inl ⟨hw, rfl, rfl⟩)
    | true =>
      rw [hw] at e
      simp only [cond_true] at e
      cases ha : aop C op s.t s.h with
      | none => rw [ha] at e; cases e
      | some x =>
        obtain ⟨r, h1⟩ := x
        rw [ha] at e
        cases r with
        | val v =>
          simp only [opK, Bool.true_and] at e
          cases hq : (isReader op && !(Nat.beq h1.next s.h.next)) with
          | true => rw [hq] at e; cases e
          | false =>
            rw [hq] at e
            refine main _ _ e (.inr ⟨hw, .inl ⟨v, ha, rfl, rfl, ?_⟩⟩)
            intro hrd
            rw [hrd] at hq
            simp only [Bool.true_and, Bool.not_eq_false'] at hq
            exact Nat.eq_of_beq_eq_true hq
        | skip => exact main _ _ e (.inr ⟨hw, .inr (.inl ⟨ha, rfl, rfl⟩)⟩)
        | panic v => simp [opK] at e
        | call f args =>
          simp only [opK] at e
          cases hf : F f args h1 with
          | none => rw [hf] at e; cases e
          | some y =>
            obtain ⟨r2, h2⟩ := y
            rw [hf] at e
            cases r2 with
            | ret v => exact main _ _ e (.inr ⟨hw, .inr (.inr ⟨f, args, h1, v, ha, hf, rfl, rfl⟩)⟩)
            | panic v => simp [retK] at e

end
end Ev
