import Derived.Test.YtjgbkacigiidmaaGreatEvX
namespace Ev
open Go

section
variable {C : Ctx} {t t' : Tr Value} {h h' : Hp}

theorem opds_congr : ∀ {l : List Operand}, (∀ x ∈ l, opd t x = opd t' x) → opds t l = opds t' l
  | [], _ => rfl
  | x :: l, e => by
    simp only [opds]
    rw [e x (by simp), opds_congr fun y hy => e y (by simp [hy])]

theorem parts_congr : ∀ {l : List (Nat × Operand)}, (∀ x ∈ l, opd t x.2 = opd t' x.2) → parts t l = parts t' l
  | [], _ => rfl
  | (i, x) :: l, e => by
    simp only [parts]
    rw [e (i, x) (by simp), parts_congr fun y hy => e y (by simp [hy])]

theorem optV_congr {x : Option Operand} (e : ∀ y, x = some y → opd t y = opd t' y) : optV opd t x = optV opd t' x := by
  cases x with
  | none => rfl
  | some y => simp only [optV]; rw [e y rfl]

theorem opCall_congr {c : Callee} {ats : Array TypeId} {x : Option (List Value)} (e : ∀ y, c = .value y → opd t y = opd t' y) : opCall C t h c ats x = opCall C t' h c ats x := by
  cases x with
  | none => rfl
  | some a =>
    cases c <;> try rfl
    simp only [opCall]
    rw [e _ rfl]

/-- an operation looks at the temporaries of its operands, and at no other. -/
theorem aop_congr {o : Oper} (e : ∀ x ∈ o.op.operands, opd t x = opd t' x) : aop C o t h = aop C o t' h := by
  unfold aop aopSel
  cases ho : o.op
  all_goals rw [ho] at e
  all_goals simp only [x_move, x_assign, x_pick, x_alloc, x_box, x_build, x_buildSlice, x_load, x_store, x_nilCheck, x_binOp, x_unOp, x_convert, x_makeInterface, x_makeFunc, x_makeSlice, x_slice, x_fieldAddr, x_field, x_indexAddr, x_index, x_typeAssert, x_extract, x_panic, x_call, x_none]
  all_goals simp only [Op.operands, Call.operands] at e
  all_goals try rfl
  all_goals try (rw [e _ (by simp)]; done)
  all_goals try (rw [e _ (by simp), e _ (by simp)]; done)
  all_goals try (simp only [e _ (List.mem_cons_self ..), e _ (List.mem_cons_of_mem _ (List.mem_cons_self ..)), e _ (List.mem_cons_of_mem _ (List.mem_cons_of_mem _ (List.mem_cons_self ..)))]; done)
  case pick c a b => rw [e c (by simp), e a (by simp), e b (by simp)]
  case build ty ps => rw [parts_congr fun y hy => e y.2 (by simp; exact ⟨y.1, by simpa using hy⟩)]
  case buildSlice ty n ps => rw [parts_congr fun y hy => e y.2 (by simp; exact ⟨y.1, by simpa using hy⟩)]
  case makeFunc fn a b => rw [opds_congr fun y hy => e y (by simp at hy; simp [hy]), opds_congr fun y hy => e y (by simp at hy; simp [hy])]
  case slice ty x lo hi mx =>
    rw [e x (by simp), optV_congr fun y hy => e y (by simp [hy]), optV_congr fun y hy => e y (by simp [hy]), optV_congr fun y hy => e y (by simp [hy])]
  case call c =>
    rw [opds_congr fun y hy => e y (by simp at hy; simp [hy])]
    exact opCall_congr fun y hy => e y (by simp [hy])

theorem vres_all {x : Option Value} {r : AR} (e : vres h x = some (r, h')) : h' = h ∧ ∀ k, vres k x = some (r, k) := by
  cases x with
  | none => cases e
  | some v => cases e; exact ⟨rfl, fun _ => rfl⟩

theorem opBuild_all {ty : TypeId} {x : Option (List (Nat × Value))} {r : AR} (e : opBuild C h ty x = some (r, h')) : h' = h ∧ ∀ k, opBuild C k ty x = some (r, k) := by
  cases x with
  | none => cases e
  | some v => exact vres_all e

theorem opPanic_all {x : Option Value} {r : AR} (e : opPanic h x = some (r, h')) : h' = h ∧ ∀ k, opPanic k x = some (r, k) := by
  unfold opPanic at e ⊢
  split at e
  · cases e; exact ⟨rfl, fun _ => rfl⟩
  · cases e

theorem bmap_all {x : Option Value} {r : AR} (e : vhres (x.map (·, h)) = some (r, h')) : h' = h ∧ ∀ k, vhres (x.map (·, k)) = some (r, k) := by
  cases x with
  | none => cases e
  | some v => cases e; exact ⟨rfl, fun _ => rfl⟩

/-- a pure operation does not look at the heap. -/
theorem aop_pure {o : Oper} {r : AR} (hr : isReader o = false) (hw : isWriter o = false) (hm : makes o = false) (e : aop C o t h = some (r, h')) :
    h' = h ∧ ∀ k, aop C o t k = some (r, k) := by
  unfold aop aopSel at e ⊢
  unfold isReader at hr
  unfold isWriter at hw
  unfold makes at hm
  cases ho : o.op
  all_goals rw [ho] at e hr hw hm
  all_goals try (cases hr; done)
  all_goals try (cases hw; done)
  all_goals try (cases hm; done)
  all_goals try (cases e; done)
  all_goals try exact vres_all e
  all_goals try exact opBuild_all e
  all_goals try exact opPanic_all e
  case call c =>
    have e : opCall C t h c.callee c.argTypes (opds t c.args.toList) = some (r, h') := e
    show h' = h ∧ ∀ k, opCall C t k c.callee c.argTypes (opds t c.args.toList) = some (r, k)
    simp only at hw
    cases ha : opds t c.args.toList with
    | none => rw [ha] at e; cases e
    | some as =>
      rw [ha] at e
      cases hc : c.callee with
      | value f => rw [hc] at hw; cases hw
      | invoke a b => rw [hc] at hw; cases hw
      | builtin b =>
        rw [hc] at hw e
        simp only [opCall] at e ⊢
        cases b <;> first
          | (cases hw; done)
          | (cases e; done)
          | (simp only [builtinV] at e ⊢
             refine bmap_all ?_
             exact e)

theorem newB_all {b : Blk} {i : Nat} (e : newB h b = some (i, h')) :
    i = h.next ∧ h' = ⟨h.m.set (some b) depthH h.next, h.next + 1⟩ ∧ h.next < limH ∧ ∀ k : Hp, k.next = h.next → newB k b = some (i, ⟨k.m.set (some b) depthH h.next, h.next + 1⟩) := by
  unfold newB at e ⊢
  cases hb : Nat.blt h.next limH with
  | false => rw [hb] at e; cases e
  | true =>
    rw [hb] at e
    simp only [cond_true] at e; cases e
    refine ⟨rfl, rfl, by simpa [Nat.blt_eq] using hb, ?_⟩
    intro k hk
    rw [hk, hb]
    rfl

/-- a maker looks at the next number only. -/
theorem pres_all {b : Blk} {r : AR} (e : pres (newB h b) = some (r, h')) :
    ∃ b', h' = ⟨h.m.set (some b') depthH h.next, h.next + 1⟩ ∧ h.next < limH ∧ ∀ k : Hp, k.next = h.next → pres (newB k b) = some (r, ⟨k.m.set (some b') depthH h.next, h.next + 1⟩) := by
  cases hn : newB h b with
  | none => rw [hn] at e; cases e
  | some x =>
    obtain ⟨i, h1⟩ := x
    rw [hn] at e
    cases e
    obtain ⟨rfl, rfl, hl, q⟩ := newB_all hn
    exact ⟨b, rfl, hl, fun k hk => by rw [q k hk]; rfl⟩

theorem sres_all {b : Blk} {n : Nat} {r : AR} (e : sres n (newB h b) = some (r, h')) :
    ∃ b', h' = ⟨h.m.set (some b') depthH h.next, h.next + 1⟩ ∧ h.next < limH ∧ ∀ k : Hp, k.next = h.next → sres n (newB k b) = some (r, ⟨k.m.set (some b') depthH h.next, h.next + 1⟩) := by
  cases hn : newB h b with
  | none => rw [hn] at e; cases e
  | some x =>
    obtain ⟨i, h1⟩ := x
    rw [hn] at e
    cases e
    obtain ⟨rfl, rfl, hl, q⟩ := newB_all hn
    exact ⟨b, rfl, hl, fun k hk => by rw [q k hk]; rfl⟩

theorem opAlloc_all {x : Option Value} {r : AR} (e : opAlloc h x = some (r, h')) :
    ∃ b', h' = ⟨h.m.set (some b') depthH h.next, h.next + 1⟩ ∧ h.next < limH ∧ ∀ k : Hp, k.next = h.next → opAlloc k x = some (r, ⟨k.m.set (some b') depthH h.next, h.next + 1⟩) := by
  cases x with
  | none => cases e
  | some v => exact pres_all e

theorem bslice_all {len sz : Nat} {x : Option (Array Value)} {r : AR} (e : bslice h len sz x = some (r, h')) :
    ∃ b', h' = ⟨h.m.set (some b') depthH h.next, h.next + 1⟩ ∧ h.next < limH ∧ ∀ k : Hp, k.next = h.next → bslice k len sz x = some (r, ⟨k.m.set (some b') depthH h.next, h.next + 1⟩) := by
  cases x with
  | none => cases e
  | some v => exact sres_all e

theorem opBuildSlice_all {len : Nat} {d : Option TypeDesc} {vs : Option (List (Nat × Value))} {r : AR} (e : opBuildSlice C h len d vs = some (r, h')) :
    ∃ b', h' = ⟨h.m.set (some b') depthH h.next, h.next + 1⟩ ∧ h.next < limH ∧ ∀ k : Hp, k.next = h.next → opBuildSlice C k len d vs = some (r, ⟨k.m.set (some b') depthH h.next, h.next + 1⟩) := by
  unfold opBuildSlice at e ⊢
  split at e
  · unfold opBuildSlice2 at e ⊢
    split at e
    · rename_i sz z h1 h2
      generalize (Nat.beq sz 0 || Nat.blt 16777216 (Nat.mul len sz) || Nat.beq z.cells.size 0) = q at e ⊢
      cases q with
      | true => cases e
      | false => exact bslice_all e
    · cases e
  · cases e

theorem mkSlice_all {d : Option TypeDesc} {x y : Option Value} {r : AR} (e : mkSlice C h d x y = some (r, h')) :
    ∃ b', h' = ⟨h.m.set (some b') depthH h.next, h.next + 1⟩ ∧ h.next < limH ∧ ∀ k : Hp, k.next = h.next → mkSlice C k d x y = some (r, ⟨k.m.set (some b') depthH h.next, h.next + 1⟩) := by
  unfold mkSlice at e ⊢
  split at e
  · rename_i el k1 l k2 c
    unfold mkSlice2 at e ⊢
    split at e
    · rename_i sz by_ z h1 h2 h3
      generalize (Nat.ble l c && Nat.ble (Nat.mul by_ c) 1099511627776 && Nat.ble c 4294967296 && Nat.blt 0 sz && Nat.blt 0 z.cells.size) = q at e ⊢
      cases q with
      | false => cases e
      | true =>
        simp only [cond_true] at e ⊢
        split at e
        · rename_i i h1 hn
          cases e
          obtain ⟨rfl, rfl, hl, q⟩ := newB_all hn
          exact ⟨_, rfl, hl, fun k hk => by rw [q k hk]⟩
        · cases e
    · cases e
  · cases e

/-- what makes a block looks at the next number only (converts apart). -/
theorem aop_maker {o : Oper} {r : AR} (hm : makes o = true) (hr : isReader o = false) (e : aop C o t h = some (r, h')) :
    ∃ b', h' = ⟨h.m.set (some b') depthH h.next, h.next + 1⟩ ∧ h.next < limH ∧ ∀ k : Hp, k.next = h.next → aop C o t k = some (r, ⟨k.m.set (some b') depthH h.next, h.next + 1⟩) := by
  unfold aop aopSel at e ⊢
  unfold isReader at hr
  unfold makes at hm
  cases ho : o.op
  all_goals rw [ho] at e hr hm
  all_goals try (cases hr; done)
  all_goals try (cases hm; done)
  case alloc => exact opAlloc_all e
  case box => exact opAlloc_all e
  case buildSlice => exact opBuildSlice_all e
  case makeSlice => exact mkSlice_all e

end
end Ev
