import Derived.Test.YtjgbkacigiidmaaGreatEvY
namespace Ev
open Go

section
variable {C : Ctx} {t : Tr Value} {h h' : Hp}

theorem convV_same {src dst : TypeId} {x v : Value} (e : convV C src dst x h = some (v, h')) (hn : h'.next = h.next) : h' = h := by
  unfold convV at e
  split at e
  all_goals try (cases e; rfl)
  all_goals try (cases e; done)
  all_goals try (simp only [Option.map_eq_some_iff] at e; obtain ⟨_, _, e⟩ := e; cases e; rfl)
  all_goals (split at e)
  all_goals try (cases e; done)
  all_goals try (cases e; rfl)
  all_goals (split at e)
  all_goals try (cases e; done)
  all_goals try (simp only [Option.map_eq_some_iff] at e; obtain ⟨_, _, e⟩ := e; cases e; rfl)
  all_goals try (rename_i hb; cases e; obtain ⟨_, rfl, _⟩ := newB_all hb; simp at hn)

theorem aop_reader {o : Oper} {r : AR} (hr : isReader o = true) (e : aop C o t h = some (r, h')) (hn : h'.next = h.next) : h' = h ∧ ∃ v, r = .val v := by
  unfold aop aopSel at e
  unfold isReader at hr
  cases ho : o.op
  all_goals rw [ho] at e hr
  all_goals try (cases hr; done)
  case load ty a =>
    have e : opLoad C h ty (opd t a) = some (r, h') := e
    unfold opLoad at e
    split at e
    · unfold vres at e; split at e <;> cases e; exact ⟨rfl, _, rfl⟩
    · cases e
  case slice ty x lo hi mx =>
    have e : vres h (opSlice C h ty (opd t x) (optV opd t lo) (optV opd t hi) (optV opd t mx)) = some (r, h') := e
    unfold vres at e; split at e <;> cases e; exact ⟨rfl, _, rfl⟩
  case convert src dst x =>
    have e : opConv C src dst h (opd t x) = some (r, h') := e
    unfold opConv at e
    split at e
    · rename_i v hv
      cases hc : convV C src dst v h with
      | none => rw [hc] at e; cases e
      | some y =>
        obtain ⟨u, h1⟩ := y
        rw [hc] at e
        cases e
        exact ⟨convV_same hc hn, _, rfl⟩
    · cases e

end
end Ev
