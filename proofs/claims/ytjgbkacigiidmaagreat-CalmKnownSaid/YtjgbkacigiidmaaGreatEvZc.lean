import Derived.Test.YtjgbkacigiidmaaGreatEvZb
namespace Ev
open Go

/-- `before` of j names i. -/
abbrev Bit (ops : Array Oper) (j i : Nat) : Prop := ((Region.before ops).getD j 0).testBit i = true

structure Good (ops : Array Oper) : Prop where
  back : ∀ (i : Nat) (o : Oper), ops[i]? = some o → ∀ e ∈ o.after, Region.binds .any e = true → e.on < i
  rd1 : ∀ (i j : Nat) (x y : Oper), i < j → ops[i]? = some x → ops[j]? = some y → ∀ d, x.dst = some d → d ∈ y.looksAt ops → Bit ops j i
  rd2 : ∀ (i j : Nat) (x y : Oper), i < j → ops[i]? = some x → ops[j]? = some y → ∀ d, y.dst = some d → d ∈ x.looksAt ops → Bit ops j i
  dd : ∀ (i j : Nat) (x y : Oper), i < j → ops[i]? = some x → ops[j]? = some y → ∀ d, x.dst = some d → y.dst ≠ some d
  ww : ∀ (i j : Nat) (x y : Oper), i < j → ops[i]? = some x → ops[j]? = some y → isWriter x = true → isWriter y = true → Bit ops j i
  mw : ∀ (i j : Nat) (x y : Oper), i < j → ops[i]? = some x → ops[j]? = some y → makes x = true → isWriter y = true → Bit ops j i

theorem mem_zipIdx {ops : Array Oper} {i : Nat} {o : Oper} (h : ops[i]? = some o) : (o, i) ∈ ops.toList.zipIdx := by
  rw [List.mem_zipIdx_iff_getElem?]
  simpa using h

theorem good_of {ops : Array Oper} (h : drawGood ops = true) : Good ops := by
  unfold drawGood at h
  simp only [Bool.and_eq_true, List.all_eq_true] at h
  obtain ⟨⟨_, h2⟩, h3⟩ := h
  have key : ∀ (i j : Nat) (x y : Oper), i < j → ops[i]? = some x → ops[j]? = some y →
      pairOk ops (Region.before ops) i j x y = true ∧ (makes x = true → isWriter y = true → Bit ops j i) := by
    intro i j x y hij hx hy
    have := h3 (y, j) (mem_zipIdx hy) (x, i) (mem_zipIdx hx)
    have hb : Nat.blt i j = true := by simpa [Nat.blt_eq] using hij
    simp only [hb, Bool.not_true, Bool.false_or, Bool.and_eq_true] at this
    refine ⟨this.1, ?_⟩
    intro hm hw
    have := this.2
    simpa [Bit, hm, hw] using this
  refine ⟨?_, ?_, ?_, ?_, ?_, ?_⟩
  · intro i o ho e he hb
    have := h2 (o, i) (mem_zipIdx ho)
    rw [Array.all_eq_true_iff_forall_mem] at this
    have := this e he
    simpa [hb, Nat.blt_eq] using this
  · intro i j x y hij hx hy d hd hm
    have := (key i j x y hij hx hy).1
    simp only [pairOk, Bool.and_eq_true, hd, reads] at this
    have := this.1.1.1
    simpa [Bit, hm] using this
  · intro i j x y hij hx hy d hd hm
    have := (key i j x y hij hx hy).1
    simp only [pairOk, Bool.and_eq_true, hd, reads] at this
    have := this.1.1.2
    simpa [Bit, hm] using this
  · intro i j x y hij hx hy d hd he
    have := (key i j x y hij hx hy).1
    simp only [pairOk, Bool.and_eq_true] at this
    have := this.1.2
    rw [hd, he] at this
    simp at this
  · intro i j x y hij hx hy h1 h2
    have := (key i j x y hij hx hy).1
    simp only [pairOk, Bool.and_eq_true] at this
    have := this.2
    simpa [Bit, h1, h2] using this
  · intro i j x y hij hx hy h1 h2
    exact (key i j x y hij hx hy).2 h1 h2

section
variable {C : Ctx} {P : Program} {F : CallF} {ops : Array Oper} {st : Nat → St} {mt : Nat → Met}

/-- a writer that is carried out, a maker that is. -/
def Wr (ops : Array Oper) (st : Nat → St) (i : Nat) : Prop := ∃ o, ops[i]? = some o ∧ isWriter o = true ∧ wantedA ops.toList (st i).t o = true
def Mk (ops : Array Oper) (st : Nat → St) (i : Nat) : Prop := ∃ o, ops[i]? = some o ∧ makes o = true ∧ isReader o = false ∧ wantedA ops.toList (st i).t o = true

/-- the canonical run. -/
structure Canon (C : Ctx) (F : CallF) (ops : Array Oper) (st : Nat → St) (mt : Nat → Met) : Prop where
  step : ∀ (i : Nat) (o : Oper), ops[i]? = some o → StepsTo C F ops.toList i o (st i) (st (i + 1)) (mt i) (mt (i + 1))
  m0 : mt 0 = ⟨[], []⟩

theorem aop_reader_val {o : Oper} {t : Tr Value} {h h' : Hp} {r : AR} (hr : isReader o = true) (e : aop C o t h = some (r, h')) : ∃ v, r = .val v := by
  unfold aop aopSel at e
  unfold isReader at hr
  cases ho : o.op
  all_goals rw [ho] at e hr
  all_goals try (cases hr; done)
  case load ty a =>
    have e : opLoad C h ty (opd t a) = some (r, h') := e
    unfold opLoad at e
    split at e
    · unfold vres at e; split at e <;> cases e; exact ⟨_, rfl⟩
    · cases e
  case slice ty x lo hi mx =>
    have e : vres h (opSlice C h ty (opd t x) (optV opd t lo) (optV opd t hi) (optV opd t mx)) = some (r, h') := e
    unfold vres at e; split at e <;> cases e; exact ⟨_, rfl⟩
  case convert src dst x =>
    have e : opConv C src dst h (opd t x) = some (r, h') := e
    unfold opConv at e
    split at e
    · rename_i v hv
      cases hc : convV C src dst v h with
      | none => rw [hc] at e; cases e
      | some y =>
        obtain ⟨u, h1⟩ := y
        rw [hc] at e
        cases e
        exact ⟨_, rfl⟩
    · cases e

theorem reader_not_writer {o : Oper} (h : isReader o = true) : isWriter o = false := by
  unfold isReader at h
  unfold isWriter
  cases ho : o.op <;> rw [ho] at h <;> first | (cases h; done) | rfl

theorem maker_not_writer {o : Oper} (h : makes o = true) : isWriter o = false := by
  unfold makes at h
  unfold isWriter
  cases ho : o.op <;> rw [ho] at h <;> first | (cases h; done) | rfl

/-- a call that the operation asks for: the heap is as it was. -/
theorem aop_call_h {o : Oper} {t : Tr Value} {h h' : Hp} {f : FuncId} {args : Array Value} (e : aop C o t h = some (.call f args, h')) : h' = h ∧ isWriter o = true := by
  have hw : isWriter o = true := by
    cases hw : isWriter o with
    | true => rfl
    | false =>
      exfalso
      unfold aop aopSel at e
      unfold isWriter at hw
      cases ho : o.op
      all_goals rw [ho] at e hw
      all_goals try (cases hw; done)
      all_goals try (cases e; done)
      all_goals try (obtain ⟨_, _, hx, _⟩ := vres_inv e; cases hx; done)
      case alloc el => 
        have e : opAlloc h (zeroT C el) = _ := e
        unfold opAlloc at e; split at e
        · unfold pres at e; split at e <;> cases e
        · cases e
      case box el x => 
        have e : opAlloc h (opd t x) = _ := e
        unfold opAlloc at e; split at e
        · unfold pres at e; split at e <;> cases e
        · cases e
      case build ty ps =>
        have e : opBuild C h ty (parts t ps.toList) = _ := e
        unfold opBuild at e; split at e
        · unfold vres at e; split at e <;> cases e
        · cases e
      case buildSlice ty len ps =>
        have e : opBuildSlice C h len (und C ty) (parts t ps.toList) = _ := e
        unfold opBuildSlice at e; split at e
        · unfold opBuildSlice2 at e
          split at e
          · rename_i sz z _ _
            generalize (Nat.beq sz 0 || Nat.blt 16777216 (Nat.mul len sz) || Nat.beq z.cells.size 0) = q at e
            cases q
            · simp only [cond_false] at e
              unfold bslice at e; split at e
              · unfold sres at e; split at e <;> cases e
              · cases e
            · cases e
          · cases e
        · cases e
      case load ty x =>
        obtain ⟨v, hv⟩ := aop_reader_val (C := C) (o := o) (t := t) (h := h) (h' := h') (by unfold isReader; rw [ho]) (by unfold aop aopSel; rw [ho]; exact e)
        cases hv
      case convert src dst x =>
        obtain ⟨v, hv⟩ := aop_reader_val (C := C) (o := o) (t := t) (h := h) (h' := h') (by unfold isReader; rw [ho]) (by unfold aop aopSel; rw [ho]; exact e)
        cases hv
      case makeSlice ty x y =>
        have e : mkSlice C h (und C ty) (opd t x) (opd t y) = _ := e
        unfold mkSlice at e; split at e
        · unfold mkSlice2 at e
          split at e
          · simp only [cond_eq_ite] at e
            repeat' split at e
            all_goals cases e
          · cases e
        · cases e
      case panic x =>
        have e : opPanic h (opd t x) = _ := e
        unfold opPanic at e; split at e <;> cases e
      case call c =>
        have e : opCall C t h c.callee c.argTypes (opds t c.args.toList) = _ := e
        unfold opCall at e; split at e
        · split at e
          · unfold vhres at e; split at e <;> cases e
          · rename_i hc; simp [hc] at hw
          · cases e
        · cases e
  refine ⟨?_, hw⟩
  unfold aop aopSel at e
  cases ho : o.op
  all_goals rw [ho] at e
  case call c =>
    have e : opCall C t h c.callee c.argTypes (opds t c.args.toList) = _ := e
    unfold opCall at e; split at e
    · split at e
      · unfold vhres at e; split at e <;> cases e
      · exact (callO_inv e).1
      · cases e
    · cases e
  all_goals (unfold isWriter at hw; rw [ho] at hw; try (cases hw; done))
  case store ty x y =>
    have e : opStore C h ty (opd t x) (opd t y) = _ := e
    unfold opStore at e; split at e
    · unfold skres at e; split at e <;> cases e
    · cases e

end
end Ev
