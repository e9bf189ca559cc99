import Derived.Test.YtjgbkacigiidmaaGreatEvP
namespace Ev
open Go

section
variable {C : Ctx} {P : Program} {g : Gh} {h h' : Hp} {w : World} {t : Tr Value} {a : Act}

theorem getT_putT {t : Tr Value} {d : Nat} {v : Value} (hd : d < 4000) (x : Nat) : getT (putT t (some d) v) x = if x = d then v else getT t x := by
  unfold getT putT
  simp only
  have : (2 : Nat) ^ depthT = 4096 := by decide
  rw [Tr.get_set _ depthT t d x (by omega)]
  split <;> rfl

theorem TR.put {d : Option Nat} {v v' : Value} (ht : TR g t a.tmps) (hv : VR g v v') (hd : ∀ x, d = some x → x < a.tmps.size) (hN : a.tmps.size ≤ 4000) :
    TR g (putT t d v) (a.put d v').tmps := by
  cases d with
  | none => exact ht
  | some d =>
    intro x
    rw [getT_putT (by have := hd d rfl; omega)]
    have := hd d rfl
    by_cases hx : x = d
    · subst hx
      rw [if_pos rfl]
      simp [Act.put, this]
      exact hv
    · rw [if_neg hx]
      simp only [Act.put, Array.getD_eq_getD_getElem?]
      rw [Array.getElem?_setIfInBounds_ne (Ne.symm hx)]
      simpa using ht x

@[simp] theorem put_size (a : Act) (d : Option Tmp) (v : Value) : (a.put d v).tmps.size = a.tmps.size := by
  cases d <;> simp [Act.put]

@[simp] theorem put_defers (a : Act) (d : Option Tmp) (v : Value) : (a.put d v).defers = a.defers := by
  cases d <;> rfl

theorem VR.bool_iff {v v' : Value} (r : VR g v v') (b : Bool) : v' = .bool b ↔ v = .bool b := by
  cases r <;> simp

theorem wanted_eq {ops : Array Oper} {o : Oper} (ht : TR g t a.tmps) (hN : ∀ (j : Nat) o' d, ops[j]? = some o' → o'.dst = some d → d < a.tmps.size) :
    Region.wanted o (yielded ops a.tmps) = wantedA ops.toList t o := by
  unfold Region.wanted wantedA
  cases hg : o.guard with
  | none => rfl
  | some jw =>
    obtain ⟨j, want⟩ := jw
    simp only
    unfold yielded dstOf
    have hl : ops.toList[j]? = ops[j]? := by simp
    rw [hl]
    cases hj : ops[j]? with
    | none => rfl
    | some o' =>
      cases hd : o'.dst with
      | none => simp [hd]
      | some d =>
        have hlt := hN j o' d hj hd
        have hr := ht d
        have hget : a.tmps[d]? = some (a.tmps.getD d undef) := by simp [hlt]
        simp only [Option.bind_some, hd, hget]
        generalize getT t d = u at hr ⊢
        generalize a.tmps.getD d undef = u' at hr ⊢
        cases hr <;> rfl

/-- what a called function must be good for. -/
def CallOk (P : Program) (f : FuncId) (args : Array Value) (h : Hp) (r : Ret) (h' : Hp) : Prop :=
  ∀ (g : Gh) (w : World) (args' : Array Value), VRL g args.toList args'.toList → WR g h w → Fr g h h' →
    ((callFunc f args').run P w = .ok (.enter f args') w ∧ Calls P f args' w fun e w' => ∃ g', WR g' h' w' ∧ Ext g h w g' h' w' ∧
      match r with
      | .ret v => ∃ v', VR g' v v' ∧ e = .returned v'
      | .panic v => ∃ v', VR g' v v' ∧ e = .panicked [{ v := v', recovered := false }]) ∨
    (∃ v v', r = .ret v ∧ h' = h ∧ VR g v v' ∧ (callFunc f args').run P w = .ok (.value v') w)

def FOk (P : Program) (F : CallF) : Prop := ∀ f args h r h', F f args h = some (r, h') → h.next ≤ h'.next ∧ CallOk P f args h r h'

/-- how a piece of code ends. -/
def OutRel (g : Gh) (h : Hp) (w : World) (N : Nat) (o : Out) (s' : St) (e : Exit) (a' : Act) (w' : World) : Prop :=
  ∃ g', a'.tmps.size = N ∧ a'.defers = [] ∧ WR g' s'.h w' ∧ Ext g h w g' s'.h w' ∧
    match o with
    | .norm => e = .normal ∧ TR g' s'.t a'.tmps
    | .exit id => e = .exit id ∧ TR g' s'.t a'.tmps
    | .ret => e = .ret ∧ TR g' s'.t a'.tmps
    | .panic v => ∃ v', VR g' v v' ∧ e = .panic [{ v := v', recovered := false }]

theorem OutRel.weaken {g1 : Gh} {h1 : Hp} {w1 : World} {N : Nat} {o : Out} {s' : St} {e : Exit} {a' : Act} {w' : World} (hx : Ext g h w g1 h1 w1)
    (r : OutRel g1 h1 w1 N o s' e a' w') : OutRel g h w N o s' e a' w' :=
  let ⟨g', q1, q2, q3, q4, q5⟩ := r
  ⟨g', q1, q2, q3, hx.trans q4, q5⟩

/-- one operation: carried out, it leaves what the evaluator says. -/
theorem op_step {F : CallF} (hC : CtxOk C P) (hF : FOk P F) {o : Oper} {r : AR} (ht : TR g t a.tmps) (hw : WR g h w)
    (hf : Fr g h h') (e : aop C o t h = some (r, h')) {K : Act → World → Prop} {Q : Exit → Act → World → Prop}
    (hK : ∀ (v : Value), (r = .val v ∨ (r = .skip ∧ v = undef)) → ∀ g' w' v', VR g' v v' → WR g' h' w' → Ext g h w g' h' w' → K (a.put o.dst v') w')
    (hP : ∀ v, r = .panic v → ∀ v', VR g v v' → h' = h → Q (.panic [{ v := v', recovered := false }]) a w)
    (hcall : ∀ f args, r = .call f args → ∃ r2 h2, F f args h = some (r2, h2) ∧ Fr g h h2 ∧
      (∀ v, r2 = .ret v → ∀ g' w' v', VR g' v v' → WR g' h2 w' → Ext g h w g' h2 w' → K (a.put o.dst v') w') ∧
      (∀ v, r2 = .panic v → ∀ g' w' v', VR g' v v' → WR g' h2 w' → Ext g h w g' h2 w' → Q (.panic [{ v := v', recovered := false }]) a w')) :
    o.wp P a w K Q := by
  have hop := aop_ok (P := P) hC ht hw hf e
  unfold Oper.wp
  cases r with
  | val v =>
    obtain ⟨g', w', v', q1, q2, q3, q4⟩ := hop
    rw [q1, Oper.upon_value]
    exact hK v (.inl rfl) g' w' v' q2 q3 q4
  | skip =>
    obtain ⟨g', w', q1, q3, q4⟩ := hop
    rw [q1, Oper.upon_skip]
    exact hK undef (.inr ⟨rfl, rfl⟩) g' w' undef (VR.undef g') q3 q4
  | panic v =>
    obtain ⟨rfl, v', q1, q2⟩ := hop
    rw [q2, Oper.upon_panic]
    exact hP v rfl v' q1 rfl
  | call f args =>
    obtain ⟨rfl, args', q1, q2⟩ := hop
    obtain ⟨r2, h2, e2, hf2, k1, k2⟩ := hcall f args rfl
    rw [q2]
    rcases (hF f args _ r2 h2 e2).2 g w args' q1 hw hf2 with ⟨c1, c2⟩ | ⟨v, v', rfl, rfl, hv, c2⟩
    · rw [c1, Oper.upon_enter]
      refine c2.mono ?_
      rintro e' w' ⟨g', r1, r2', r3⟩
      cases r2 with
      | ret v =>
        obtain ⟨v', hv, rfl⟩ := r3
        exact k1 v rfl g' w' v' hv r1 r2'
      | panic v =>
        obtain ⟨v', hv, rfl⟩ := r3
        exact k2 v rfl g' w' v' hv r1 r2'
    · rw [c2, Oper.upon_value]
      exact k1 v rfl g w v' hv hw (Ext.refl g _ w)

end
end Ev
