import Derived.Test.YtfgbamkopfepdaaGreatDoorED
namespace Ev
open Go

section
variable {C : Ctx} {t t' : Tr Value} {h h' : Hp}

theorem opds_congr : ∀ {l : List Operand}, (∀ x ∈ l, opd t x = opd t' x) → opds t l = opds t' l
  | [], _ => rfl
  | x :: l, e => by
    simp only [opds]
    rw [e x (by simp), opds_congr fun y hy => e y (by simp [hy])]

theorem parts_congr : ∀ {l : List (Nat × Operand)}, (∀ x ∈ l, opd t x.2 = opd t' x.2) → parts t l = parts t' l
  | [], _ => rfl
  | (i, x) :: l, e => by
    simp only [parts]
    rw [e (i, x) (by simp), parts_congr fun y hy => e y (by simp [hy])]

theorem optV_congr {x : Option Operand} (e : ∀ y, x = some y → opd t y = opd t' y) : optV opd t x = optV opd t' x := by
  cases x with
  | none => rfl
  | some y => simp only [optV]; rw [e y rfl]

theorem opCall_congr {c : Callee} {ats : Array TypeId} {x : Option (List Value)} (e : ∀ y, c = .value y → opd t y = opd t' y) : opCall C t h c ats x = opCall C t' h c ats x := by
  cases x with
  | none => rfl
  | some a =>
    cases c <;> try rfl
    simp only [opCall]
    rw [e _ rfl]

/-- an operation looks at the temporaries of its operands, and at no other. -/
theorem aop_congr {o : Oper} (e : ∀ x ∈ o.op.operands, opd t x = opd t' x) : aop C o t h = aop C o t' h := by
  unfold aop aopSel
  cases ho : o.op
  all_goals rw [ho] at e
  all_goals simp only [x_move, x_assign, x_pick, x_alloc, x_box, x_build, x_buildSlice, x_load, x_store, x_nilCheck, x_binOp, x_unOp, x_convert, x_makeInterface, x_makeFunc, x_makeSlice, x_slice, x_fieldAddr, x_field, x_indexAddr, x_index, x_typeAssert, x_extract, x_panic, x_call, x_none]
  all_goals simp only [Op.operands, Call.operands] at e
  all_goals try rfl
  all_goals try (rw [e _ (by simp)]; done)
  all_goals try (rw [e _ (by simp), e _ (by simp)]; done)
  all_goals try (simp only [e _ (List.mem_cons_self ..), e _ (List.mem_cons_of_mem _ (List.mem_cons_self ..)), e _ (List.mem_cons_of_mem _ (List.mem_cons_of_mem _ (List.mem_cons_self ..)))]; done)
  case pick c a b => rw [e c (by simp), e a (by simp), e b (by simp)]
  case build ty ps => rw [parts_congr fun y hy => e y.2 (by simp; exact ⟨y.1, by simpa using hy⟩)]
  case buildSlice ty n ps => rw [parts_congr fun y hy => e y.2 (by simp; exact ⟨y.1, by simpa using hy⟩)]
  case makeFunc fn a b => rw [opds_congr fun y hy => e y (by simp at hy; simp [hy]), opds_congr fun y hy => e y (by simp at hy; simp [hy])]
  case slice ty x lo hi mx =>
    rw [e x (by simp), optV_congr fun y hy => e y (by simp [hy]), optV_congr fun y hy => e y (by simp [hy]), optV_congr fun y hy => e y (by simp [hy])]
  case call c =>
    rw [opds_congr fun y hy => e y (by simp at hy; simp [hy])]
    exact opCall_congr fun y hy => e y (by simp [hy])

theorem vres_all {x : Option Value} {r : AR} (e : vres h x = some (r, h')) : h' = h ∧ ∀ k, vres k x = some (r, k) := by
  cases x with
  | none => cases e
  | some v => cases e; exact ⟨rfl, fun _ => rfl⟩

theorem opBuild_all {ty : TypeId} {x : Option (List (Nat × Value))} {r : AR} (e : opBuild C h ty x = some (r, h')) : h' = h ∧ ∀ k, opBuild C k ty x = some (r, k) := by
  cases x with
  | none => cases e
  | some v => exact vres_all e

theorem opPanic_all {x : Option Value} {r : AR} (e : opPanic h x = some (r, h')) : h' = h ∧ ∀ k, opPanic k x = some (r, k) := by
  unfold opPanic at e ⊢
  split at e
  · cases e; exact ⟨rfl, fun _ => rfl⟩
  · cases e

theorem bmap_all {x : Option Value} {r : AR} (e : vhres (x.map (·, h)) = some (r, h')) : h' = h ∧ ∀ k, vhres (x.map (·, k)) = some (r, k) := by
  cases x with
  | none => cases e
  | some v => cases e; exact ⟨rfl, fun _ => rfl⟩

/-- a pure operation does not look at the heap. -/
theorem aop_pure {o : Oper} {r : AR} (hr : isReader o = false) (hw : isWriter o = false) (hm : makes o = false) (e : aop C o t h = some (r, h')) :
    h' = h ∧ ∀ k, aop C o t k = some (r, k) := by
  unfold aop aopSel at e ⊢
  unfold isReader at hr
  unfold isWriter at hw
  unfold makes at hm
  cases ho : o.op
  all_goals rw [ho] at e hr hw hm
  all_goals try (cases hr; done)
  all_goals try (cases hw; done)
  all_goals try (cases hm; done)
  all_goals try (cases e; done)
  all_goals try exact vres_all e
  all_goals try exact opBuild_all e
  all_goals try exact opPanic_all e
  case call c =>
    have e : opCall C t h c.callee c.argTypes (opds t c.args.toList) = some (r, h') := e
    show h' = h ∧ ∀ k, opCall C t k c.callee c.argTypes (opds t c.args.toList) = some (r, k)
    simp only at hw
    cases ha : opds t c.args.toList with
    | none => rw [ha] at e; cases e
    | some as =>
      rw [ha] at e
      cases hc : c.callee with
      | value f => rw [hc] at hw; cases hw
      | invoke a b => rw [hc] at hw; cases hw
      | builtin b =>
        rw [hc] at hw e
        simp only [opCall] at e ⊢
        cases b <;> first
          | (cases hw; done)
          | (cases e; done)
          | (simp only [builtinV] at e ⊢
             refine bmap_all ?_
             exact e)

theorem newB_all {b : Blk} {i : Nat} (e : newB h b = some (i, h')) :
    i = h.next ∧ h' = ⟨h.m.set (some b) depthH h.next, h.next + 1⟩ ∧ h.next < limH ∧ ∀ k : Hp, k.next = h.next → newB k b = some (i, ⟨k.m.set (some b) depthH h.next, h.next + 1⟩) := by
  unfold newB at e ⊢
  cases hb : Nat.blt h.next limH with
  | false => rw [hb] at e; cases e
  | true =>
    rw [hb] at e
    simp only [cond_true] at e; cases e
    refine ⟨rfl, rfl, by simpa [Nat.blt_eq] using hb, ?_⟩
    intro k hk
    rw [hk, hb]
    rfl

/-- a maker looks at the next number only. -/
theorem pres_all {b : Blk} {r : AR} (e : pres (newB h b) = some (r, h')) :
    ∃ b', h' = ⟨h.m.set (some b') depthH h.next, h.next + 1⟩ ∧ h.next < limH ∧ ∀ k : Hp, k.next = h.next → pres (newB k b) = some (r, ⟨k.m.set (some b') depthH h.next, h.next + 1⟩) := by
  cases hn : newB h b with
  | none => rw [hn] at e; cases e
  | some x =>
    obtain ⟨i, h1⟩ := x
    rw [hn] at e
    cases e
    obtain ⟨rfl, rfl, hl, q⟩ := newB_all hn
    exact ⟨b, rfl, hl, fun k hk => by rw [q k hk]; rfl⟩

theorem sres_all {b : Blk} {n : Nat} {r : AR} (e : sres n (newB h b) = some (r, h')) :
    ∃ b', h' = ⟨h.m.set (some b') depthH h.next, h.next + 1⟩ ∧ h.next < limH ∧ ∀ k : Hp, k.next = h.next → sres n (newB k b) = some (r, ⟨k.m.set (some b') depthH h.next, h.next + 1⟩) := by
  cases hn : newB h b with
  | none => rw [hn] at e; cases e
  | some x =>
    obtain ⟨i, h1⟩ := x
    rw [hn] at e
    cases e
    obtain ⟨rfl, rfl, hl, q⟩ := newB_all hn
    exact ⟨b, rfl, hl, fun k hk => by rw [q k hk]; rfl⟩

theorem opAlloc_all {x : Option Value} {r : AR} (e : opAlloc h x = some (r, h')) :
    ∃ b', h' = ⟨h.m.set (some b') depthH h.next, h.next + 1⟩ ∧ h.next < limH ∧ ∀ k : Hp, k.next = h.next → opAlloc k x = some (r, ⟨k.m.set (some b') depthH h.next, h.next + 1⟩) := by
  cases x with
  | none => cases e
  | some v => exact pres_all e

theorem bslice_all {len sz : Nat} {x : Option (Array Value)} {r : AR} (e : bslice h len sz x = some (r, h')) :
    ∃ b', h' = ⟨h.m.set (some b') depthH h.next, h.next + 1⟩ ∧ h.next < limH ∧ ∀ k : Hp, k.next = h.next → bslice k len sz x = some (r, ⟨k.m.set (some b') depthH h.next, h.next + 1⟩) := by
  cases x with
  | none => cases e
  | some v => exact sres_all e

theorem opBuildSlice_all {len : Nat} {d : Option TypeDesc} {vs : Option (List (Nat × Value))} {r : AR} (e : opBuildSlice C h len d vs = some (r, h')) :
    ∃ b', h' = ⟨h.m.set (some b') depthH h.next, h.next + 1⟩ ∧ h.next < limH ∧ ∀ k : Hp, k.next = h.next → opBuildSlice C k len d vs = some (r, ⟨k.m.set (some b') depthH h.next, h.next + 1⟩) := by
  unfold opBuildSlice at e ⊢
  split at e
  · unfold opBuildSlice2 at e ⊢
    split at e
    · rename_i sz z h1 h2
      generalize (Nat.beq sz 0 || Nat.blt 16777216 (Nat.mul len sz) || Nat.beq z.cells.size 0) = q at e ⊢
      cases q with
      | true => cases e
      | false => exact bslice_all e
    · cases e
  · cases e

theorem mkSlice_all {d : Option TypeDesc} {x y : Option Value} {r : AR} (e : mkSlice C h d x y = some (r, h')) :
    ∃ b', h' = ⟨h.m.set (some b') depthH h.next, h.next + 1⟩ ∧ h.next < limH ∧ ∀ k : Hp, k.next = h.next → mkSlice C k d x y = some (r, ⟨k.m.set (some b') depthH h.next, h.next + 1⟩) := by
  unfold mkSlice at e ⊢
  split at e
  · rename_i el k1 l k2 c
    unfold mkSlice2 at e ⊢
    split at e
    · rename_i sz by_ z h1 h2 h3
      generalize (Nat.ble l c && Nat.ble (Nat.mul by_ c) 1099511627776 && Nat.ble c 4294967296 && Nat.blt 0 sz && Nat.blt 0 z.cells.size) = q at e ⊢
      cases q with
      | false => cases e
      | true =>
        simp only [cond_true] at e ⊢
        split at e
        · rename_i i h1 hn
          cases e
          obtain ⟨rfl, rfl, hl, q⟩ := newB_all hn
          exact ⟨_, rfl, hl, fun k hk => by rw [q k hk]⟩
        · cases e
    · cases e
  · cases e

/-- what makes a block looks at the next number only (converts apart). -/
theorem aop_maker {o : Oper} {r : AR} (hm : makes o = true) (hr : isReader o = false) (e : aop C o t h = some (r, h')) :
    ∃ b', h' = ⟨h.m.set (some b') depthH h.next, h.next + 1⟩ ∧ h.next < limH ∧ ∀ k : Hp, k.next = h.next → aop C o t k = some (r, ⟨k.m.set (some b') depthH h.next, h.next + 1⟩) := by
  unfold aop aopSel at e ⊢
  unfold isReader at hr
  unfold makes at hm
  cases ho : o.op
  all_goals rw [ho] at e hr hm
  all_goals try (cases hr; done)
  all_goals try (cases hm; done)
  case alloc => exact opAlloc_all e
  case box => exact opAlloc_all e
  case buildSlice => exact opBuildSlice_all e
  case makeSlice => exact mkSlice_all e

end
end Ev
namespace Ev
open Go

section
variable {C : Ctx} {t : Tr Value} {h h' : Hp}

theorem convV_same {src dst : TypeId} {x v : Value} (e : convV C src dst x h = some (v, h')) (hn : h'.next = h.next) : h' = h := by
  unfold convV at e
  split at e
  all_goals try (cases e; rfl)
  all_goals try (cases e; done)
  all_goals try (simp only [Option.map_eq_some_iff] at e; obtain ⟨_, _, e⟩ := e; cases e; rfl)
  all_goals (split at e)
  all_goals try (cases e; done)
  all_goals try (cases e; rfl)
  all_goals (split at e)
  all_goals try (cases e; done)
  all_goals try (simp only [Option.map_eq_some_iff] at e; obtain ⟨_, _, e⟩ := e; cases e; rfl)
  all_goals try (rename_i hb; cases e; obtain ⟨_, rfl, _⟩ := newB_all hb; simp at hn)

theorem aop_reader {o : Oper} {r : AR} (hr : isReader o = true) (e : aop C o t h = some (r, h')) (hn : h'.next = h.next) : h' = h ∧ ∃ v, r = .val v := by
  unfold aop aopSel at e
  unfold isReader at hr
  cases ho : o.op
  all_goals rw [ho] at e hr
  all_goals try (cases hr; done)
  case load ty a =>
    have e : opLoad C h ty (opd t a) = some (r, h') := e
    unfold opLoad at e
    split at e
    · unfold vres at e; split at e <;> cases e; exact ⟨rfl, _, rfl⟩
    · cases e
  case slice ty x lo hi mx =>
    have e : vres h (opSlice C h ty (opd t x) (optV opd t lo) (optV opd t hi) (optV opd t mx)) = some (r, h') := e
    unfold vres at e; split at e <;> cases e; exact ⟨rfl, _, rfl⟩
  case convert src dst x =>
    have e : opConv C src dst h (opd t x) = some (r, h') := e
    unfold opConv at e
    split at e
    · rename_i v hv
      cases hc : convV C src dst v h with
      | none => rw [hc] at e; cases e
      | some y =>
        obtain ⟨u, h1⟩ := y
        rw [hc] at e
        cases e
        exact ⟨convV_same hc hn, _, rfl⟩
    · cases e

end
end Ev
namespace Ev
open Go

theorem push_fold_keep {α : Type} (F : Array Nat → α → Nat) : ∀ (l : List α) (acc : Array Nat) (j : Nat), j < acc.size →
    (l.foldl (fun acc o => acc.push (F acc o)) acc)[j]? = acc[j]?
  | [], _, _, _ => rfl
  | o :: l, acc, j, h => by
    simp only [List.foldl_cons]
    rw [push_fold_keep F l _ j (by simp; omega), Array.getElem?_push, if_neg (by omega)]

theorem push_fold_get {α : Type} (F : Array Nat → α → Nat) : ∀ (l : List α) (acc : Array Nat) (k : Nat) (o : α), l[k]? = some o →
    ∃ acc' : Array Nat, acc'.size = acc.size + k ∧ (∀ j, j < acc'.size → (l.foldl (fun acc o => acc.push (F acc o)) acc)[j]? = acc'[j]?) ∧
      (l.foldl (fun acc o => acc.push (F acc o)) acc)[acc.size + k]? = some (F acc' o)
  | [], _, _, _, h => by simp at h
  | x :: l, acc, 0, o, h => by
    simp only [List.getElem?_cons_zero, Option.some.injEq] at h
    subst h
    refine ⟨acc, rfl, fun j hj => push_fold_keep F (x :: l) acc j hj, ?_⟩
    simp only [List.foldl_cons]
    rw [push_fold_keep F l _ _ (by simp)]
    exact Array.getElem?_push_size
  | x :: l, acc, k + 1, o, h => by
    simp only [List.getElem?_cons_succ] at h
    obtain ⟨acc', q1, q2, q3⟩ := push_fold_get F l (acc.push (F acc x)) k o h
    simp only [Array.size_push] at q1 q3
    refine ⟨acc', by omega, q2, ?_⟩
    rw [show acc.size + (k + 1) = acc.size + 1 + k by omega]
    exact q3

theorem or_fold_bit {g : Edge → Bool} {v : Edge → Nat} (i : Nat) : ∀ (l : List Edge) (s : Nat),
    (l.foldl (fun s e => if g e = true then s ||| 2 ^ e.on ||| v e else s) s).testBit i = true →
    s.testBit i = true ∨ ∃ e ∈ l, g e = true ∧ (e.on = i ∨ (v e).testBit i = true)
  | [], _, h => .inl h
  | e :: l, s, h => by
    simp only [List.foldl_cons] at h
    rcases or_fold_bit i l _ h with h1 | ⟨e', h1, h2, h3⟩
    · by_cases hg : g e = true
      · rw [if_pos hg] at h1
        simp only [Nat.testBit_or, Bool.or_eq_true, Nat.testBit_two_pow, decide_eq_true_eq] at h1
        rcases h1 with (h1 | h1) | h1
        · exact .inl h1
        · exact .inr ⟨e, by simp, hg, .inl h1⟩
        · exact .inr ⟨e, by simp, hg, .inr h1⟩
      · rw [if_neg hg] at h1
        exact .inl h1
    · exact .inr ⟨e', by simp [h1], h2, h3⟩

/-- a bit of `before` at j is an edge of j, or a bit of `before` at an edge's place. -/
theorem before_spec {ops : Array Oper} {j i : Nat} {o : Oper} (ho : ops[j]? = some o) (h : ((Region.before ops).getD j 0).testBit i = true) :
    ∃ e ∈ o.after, Region.binds .any e = true ∧ (e.on = i ∨ (e.on < j ∧ ((Region.before ops).getD e.on 0).testBit i = true)) := by
  have hl : ops.toList[j]? = some o := by simpa using ho
  obtain ⟨acc', q1, q2, q3⟩ := push_fold_get (fun acc (o : Oper) => Array.foldl (fun s e => if Region.binds .any e = true then s ||| 2 ^ e.on ||| acc.getD e.on 0 else s) 0 o.after) ops.toList #[] j o hl
  have hb : Region.before ops = ops.toList.foldl (fun acc o => acc.push (Array.foldl (fun s e => if Region.binds .any e = true then s ||| 2 ^ e.on ||| acc.getD e.on 0 else s) 0 o.after)) #[] := by
    unfold Region.before
    rw [← Array.foldl_toList]
  rw [← hb] at q2 q3
  simp only [List.size_toArray, List.length_nil, Nat.zero_add] at q1 q3
  rw [Array.getD_eq_getD_getElem?, q3, Option.getD_some, ← Array.foldl_toList] at h
  rcases or_fold_bit (g := fun e => Region.binds .any e) (v := fun e => acc'.getD e.on 0) i _ _ h with h1 | ⟨e, h1, h2, h3⟩
  · simp at h1
  · refine ⟨e, by simpa using h1, h2, ?_⟩
    rcases h3 with h3 | h3
    · exact .inl h3
    · rw [Array.getD_eq_getD_getElem?] at h3
      have hlt : e.on < acc'.size := by
        rcases Nat.lt_or_ge e.on acc'.size with h | h
        · exact h
        · rw [Array.getElem?_eq_none h] at h3; simp at h3
      refine .inr ⟨by omega, ?_⟩
      rw [Array.getD_eq_getD_getElem?, q2 _ hlt]
      exact h3

/-- what is listed has all that binds it listed. -/
def Shut (ops : Array Oper) (listed : Array Bool) : Prop :=
  ∀ (j : Nat) (o : Oper), ops[j]? = some o → listed.getD j false = true → ∀ e ∈ o.after, Region.binds .any e = true → listed.getD e.on false = true

theorem Shut.before {ops : Array Oper} {listed : Array Bool} (hs : Shut ops listed) : ∀ (j i : Nat) (o : Oper), ops[j]? = some o →
    (∀ e ∈ o.after, Region.binds .any e = true → listed.getD e.on false = true) → ((Region.before ops).getD j 0).testBit i = true → listed.getD i false = true := by
  intro j
  induction j using Nat.strongRecOn with
  | _ j ih =>
    intro i o ho hall hb
    obtain ⟨e, he, hbd, h⟩ := before_spec ho hb
    rcases h with rfl | ⟨hlt, hb2⟩
    · exact hall e he hbd
    · have hl := hall e he hbd
      cases ho2 : ops[e.on]? with
      | none =>
        have hj : j < ops.size := (Array.getElem?_eq_some_iff.1 ho).1
        rw [Array.getElem?_eq_none_iff] at ho2
        omega
      | some o2 => exact ih e.on hlt i o2 ho2 (fun e2 h1 h2 => hs e.on o2 ho2 hl e2 h1 h2) hb2

theorem Shut.ready {ops : Array Oper} {listed : Array Bool} (hs : Shut ops listed) {j i : Nat} (hj : j ∈ Region.ready .any ops listed)
    (hb : ((Region.before ops).getD j 0).testBit i = true) : listed.getD i false = true := by
  obtain ⟨_, o, ho, hall⟩ := mem_ready.1 hj
  exact hs.before j i o ho hall hb

theorem Shut.step {ops : Array Oper} {listed : Array Bool} (hs : Shut ops listed) {j : Nat} (hj : j ∈ Region.ready .any ops listed) :
    Shut ops (listed.setIfInBounds j true) := by
  intro k o ho hk e he hb
  by_cases hkj : j = k
  · subst hkj
    obtain ⟨_, o', ho', hall⟩ := mem_ready.1 hj
    rw [ho] at ho'; cases ho'
    exact getD_set_true (hall e he hb)
  · rw [getD_set_ne false hkj] at hk
    exact getD_set_true (hs k o ho hk e he hb)

end Ev
namespace Ev
open Go

section
variable {C : Ctx} {F : CallF}

/-- one operation of a drawn region, as the canonical run has it. -/
def StepsTo (C : Ctx) (F : CallF) (all : List Oper) (i : Nat) (o : Oper) (s s1 : St) (m m1 : Met) : Prop :=
  (wantedA all s.t o = false ∧ s1 = ⟨putT s.t o.dst undef, s.h⟩ ∧ m1 = m) ∨
  (wantedA all s.t o = true ∧
    ((∃ v, aop C o s.t s.h = some (.val v, s1.h) ∧ s1.t = putT s.t o.dst v ∧ m1 = note C o i s.t (.val v) s1.h m ∧ (isReader o = true → s1.h.next = s.h.next)) ∨
     (aop C o s.t s.h = some (.skip, s1.h) ∧ s1.t = putT s.t o.dst undef ∧ m1 = note C o i s.t .skip s1.h m) ∨
     (∃ f args h1 v, aop C o s.t s.h = some (.call f args, h1) ∧ F f args h1 = some (.ret v, s1.h) ∧ s1.t = putT s.t o.dst v ∧ m1 = note C o i s.t (.val v) s1.h m)))

/-- a call that panics. -/
def StopsAt (C : Ctx) (F : CallF) (all : List Oper) (o : Oper) (s : St) (v : Value) (h' : Hp) : Prop :=
  wantedA all s.t o = true ∧ ∃ f args h1, aop C o s.t s.h = some (.call f args, h1) ∧ F f args h1 = some (.panic v, h')

theorem evOps_trace {all : List Oper} : ∀ (l : List Oper) (i : Nat) (s : St) (m : Met) {o : Out} {s' : St} {m' : Met},
    evOps C F all true l i s m = some (o, s', m') → m.stop = none →
    ∃ (n : Nat) (st : Nat → St) (mt : Nat → Met), n ≤ l.length ∧ st 0 = s ∧ mt 0 = m ∧
      (∀ k x, k < n → l[k]? = some x → StepsTo C F all (i + k) x (st k) (st (k + 1)) (mt k) (mt (k + 1))) ∧
      ((o = .norm ∧ n = l.length ∧ st n = s' ∧ mt n = m' ∧ m'.stop = none) ∨
       (∃ x v, o = .panic v ∧ l[n]? = some x ∧ StopsAt C F all x (st n) v s'.h ∧ m' = { mt n with stop := some (i + n) }))
  | [], i, s, m, o, s', m', e, hm => by
    simp only [evOps, Option.some.injEq, Prod.mk.injEq] at e
    obtain ⟨rfl, rfl, rfl⟩ := e
    exact ⟨0, fun _ => s, fun _ => m, Nat.le_refl _, rfl, rfl, fun k x h => by omega, .inl ⟨rfl, rfl, rfl, rfl, hm⟩⟩
  | op :: l, i, s, m, o, s', m', e, hm => by
    have main : ∀ (s1 : St) (m1 : Met), evOps C F all true l (Nat.succ i) s1 m1 = some (o, s', m') → m1.stop = none → StepsTo C F all i op s s1 m m1 →
        ∃ (n : Nat) (st : Nat → St) (mt : Nat → Met), n ≤ (op :: l).length ∧ st 0 = s ∧ mt 0 = m ∧
          (∀ k x, k < n → (op :: l)[k]? = some x → StepsTo C F all (i + k) x (st k) (st (k + 1)) (mt k) (mt (k + 1))) ∧
          ((o = .norm ∧ n = (op :: l).length ∧ st n = s' ∧ mt n = m' ∧ m'.stop = none) ∨
           (∃ x v, o = .panic v ∧ (op :: l)[n]? = some x ∧ StopsAt C F all x (st n) v s'.h ∧ m' = { mt n with stop := some (i + n) })) := by
      intro s1 m1 e1 hm1 h1
      obtain ⟨n, st, mt, q0, q1, q2, q5, q6⟩ := evOps_trace l (Nat.succ i) s1 m1 e1 hm1
      refine ⟨n + 1, fun k => match k with | 0 => s | k + 1 => st k, fun k => match k with | 0 => m | k + 1 => mt k, by simpa using q0, rfl, rfl, ?_, ?_⟩
      · intro k x hkn hx
        cases k with
        | zero =>
          simp only [List.getElem?_cons_zero, Option.some.injEq] at hx
          subst hx
          simp only [q1, q2]
          exact h1
        | succ k =>
          simp only [List.getElem?_cons_succ] at hx
          have := q5 k x (by omega) hx
          rw [show i + (k + 1) = Nat.succ i + k by omega]
          exact this
      · rcases q6 with ⟨r1, r2, r3, r4, r5⟩ | ⟨x, v, r1, r2, r3, r4⟩
        · exact .inl ⟨r1, by simp [r2], r3, r4, r5⟩
        · refine .inr ⟨x, v, r1, by simpa using r2, r3, ?_⟩
          rw [r4, show Nat.succ i + n = i + (n + 1) by omega]
    have hnote : ∀ r h', (Ev.note C op i s.t r h' m).stop = none := by
      intro r h'
      unfold note
      cases isReader op
      · cases isWriter op <;> simpa using hm
      · cases r <;> simpa using hm
    simp only [evOps] at e
    cases hw : wantedA all s.t op with
    | false =>
      rw [hw] at e
      exact main _ _ e hm (.inl ⟨hw, rfl, rfl⟩)
    | true =>
      rw [hw] at e
      simp only [cond_true] at e
      cases ha : aop C op s.t s.h with
      | none => rw [ha] at e; cases e
      | some x =>
        obtain ⟨r, h1⟩ := x
        rw [ha] at e
        cases r with
        | val v =>
          simp only [opK, Bool.true_and] at e
          cases hq : (isReader op && !(Nat.beq h1.next s.h.next)) with
          | true => rw [hq] at e; cases e
          | false =>
            rw [hq] at e
            refine main _ _ e (by simp only [cond_true]; exact hnote _ _) (.inr ⟨hw, .inl ⟨v, ha, rfl, rfl, ?_⟩⟩)
            intro hrd
            rw [hrd] at hq
            simp only [Bool.true_and, Bool.not_eq_false'] at hq
            exact Nat.eq_of_beq_eq_true hq
        | skip => exact main _ _ e (by simp only [cond_true]; exact hnote _ _) (.inr ⟨hw, .inr (.inl ⟨ha, rfl, rfl⟩)⟩)
        | panic v => simp [opK] at e
        | call f args =>
          simp only [opK] at e
          cases hf : F f args h1 with
          | none => rw [hf] at e; cases e
          | some y =>
            obtain ⟨r2, h2⟩ := y
            rw [hf] at e
            cases r2 with
            | ret v => exact main _ _ e (by simp only [cond_true]; exact hnote _ _) (.inr ⟨hw, .inr (.inr ⟨f, args, h1, v, ha, hf, rfl, rfl⟩)⟩)
            | panic v =>
              simp only [retK, cond_true, Option.some.injEq, Prod.mk.injEq] at e
              obtain ⟨rfl, rfl, rfl⟩ := e
              exact ⟨0, fun _ => s, fun _ => m, Nat.zero_le _, rfl, rfl, fun k x h => by omega, .inr ⟨op, v, rfl, rfl, ⟨hw, f, args, h1, ha, hf⟩, rfl⟩⟩

end
end Ev
namespace Ev
open Go

/-- `before` of j names i. -/
abbrev Bit (ops : Array Oper) (j i : Nat) : Prop := ((Region.before ops).getD j 0).testBit i = true

structure Good (ops : Array Oper) : Prop where
  back : ∀ (i : Nat) (o : Oper), ops[i]? = some o → ∀ e ∈ o.after, Region.binds .any e = true → e.on < i
  rd1 : ∀ (i j : Nat) (x y : Oper), i < j → ops[i]? = some x → ops[j]? = some y → ∀ d, x.dst = some d → d ∈ y.looksAt ops → Bit ops j i
  rd2 : ∀ (i j : Nat) (x y : Oper), i < j → ops[i]? = some x → ops[j]? = some y → ∀ d, y.dst = some d → d ∈ x.looksAt ops → Bit ops j i
  dd : ∀ (i j : Nat) (x y : Oper), i < j → ops[i]? = some x → ops[j]? = some y → ∀ d, x.dst = some d → y.dst ≠ some d
  ww : ∀ (i j : Nat) (x y : Oper), i < j → ops[i]? = some x → ops[j]? = some y → isWriter x = true → isWriter y = true → Bit ops j i
  mw : ∀ (i j : Nat) (x y : Oper), i < j → ops[i]? = some x → ops[j]? = some y → makes x = true → isWriter y = true → Bit ops j i

theorem mem_zipIdx {ops : Array Oper} {i : Nat} {o : Oper} (h : ops[i]? = some o) : (o, i) ∈ ops.toList.zipIdx := by
  rw [List.mem_zipIdx_iff_getElem?]
  simpa using h

theorem good_of {ops : Array Oper} (h : drawGood ops = true) : Good ops := by
  unfold drawGood at h
  simp only [Bool.and_eq_true, List.all_eq_true] at h
  obtain ⟨⟨_, h2⟩, h3⟩ := h
  have key : ∀ (i j : Nat) (x y : Oper), i < j → ops[i]? = some x → ops[j]? = some y →
      pairOk ops (Region.before ops) i j x y = true ∧ (makes x = true → isWriter y = true → Bit ops j i) := by
    intro i j x y hij hx hy
    have := h3 (y, j) (mem_zipIdx hy) (x, i) (mem_zipIdx hx)
    have hb : Nat.blt i j = true := by simpa [Nat.blt_eq] using hij
    simp only [hb, Bool.not_true, Bool.false_or, Bool.and_eq_true] at this
    refine ⟨this.1, ?_⟩
    intro hm hw
    have := this.2
    simpa [Bit, hm, hw] using this
  refine ⟨?_, ?_, ?_, ?_, ?_, ?_⟩
  · intro i o ho e he hb
    have := h2 (o, i) (mem_zipIdx ho)
    rw [Array.all_eq_true_iff_forall_mem] at this
    have := this e he
    simpa [hb, Nat.blt_eq] using this
  · intro i j x y hij hx hy d hd hm
    have := (key i j x y hij hx hy).1
    simp only [pairOk, Bool.and_eq_true, hd, reads] at this
    have := this.1.1.1
    simpa [Bit, hm] using this
  · intro i j x y hij hx hy d hd hm
    have := (key i j x y hij hx hy).1
    simp only [pairOk, Bool.and_eq_true, hd, reads] at this
    have := this.1.1.2
    simpa [Bit, hm] using this
  · intro i j x y hij hx hy d hd he
    have := (key i j x y hij hx hy).1
    simp only [pairOk, Bool.and_eq_true] at this
    have := this.1.2
    rw [hd, he] at this
    simp at this
  · intro i j x y hij hx hy h1 h2
    have := (key i j x y hij hx hy).1
    simp only [pairOk, Bool.and_eq_true] at this
    have := this.2
    simpa [Bit, h1, h2] using this
  · intro i j x y hij hx hy h1 h2
    exact (key i j x y hij hx hy).2 h1 h2

section
variable {C : Ctx} {P : Program} {F : CallF} {ops : Array Oper} {st : Nat → St} {mt : Nat → Met}

/-- a writer that is carried out, a maker that is. -/
def Wr (ops : Array Oper) (n : Nat) (st : Nat → St) (i : Nat) : Prop := i < n ∧ ∃ o, ops[i]? = some o ∧ isWriter o = true ∧ wantedA ops.toList (st i).t o = true
def Mk (ops : Array Oper) (n : Nat) (st : Nat → St) (i : Nat) : Prop := i < n ∧ ∃ o, ops[i]? = some o ∧ makes o = true ∧ isReader o = false ∧ wantedA ops.toList (st i).t o = true

/-- the canonical run. -/
structure Canon (C : Ctx) (F : CallF) (ops : Array Oper) (n : Nat) (st : Nat → St) (mt : Nat → Met) : Prop where
  le : n ≤ ops.size
  step : ∀ (i : Nat) (o : Oper), i < n → ops[i]? = some o → StepsTo C F ops.toList i o (st i) (st (i + 1)) (mt i) (mt (i + 1))
  m0 : mt 0 = ⟨[], [], none⟩

theorem aop_reader_val {o : Oper} {t : Tr Value} {h h' : Hp} {r : AR} (hr : isReader o = true) (e : aop C o t h = some (r, h')) : ∃ v, r = .val v := by
  unfold aop aopSel at e
  unfold isReader at hr
  cases ho : o.op
  all_goals rw [ho] at e hr
  all_goals try (cases hr; done)
  case load ty a =>
    have e : opLoad C h ty (opd t a) = some (r, h') := e
    unfold opLoad at e
    split at e
    · unfold vres at e; split at e <;> cases e; exact ⟨_, rfl⟩
    · cases e
  case slice ty x lo hi mx =>
    have e : vres h (opSlice C h ty (opd t x) (optV opd t lo) (optV opd t hi) (optV opd t mx)) = some (r, h') := e
    unfold vres at e; split at e <;> cases e; exact ⟨_, rfl⟩
  case convert src dst x =>
    have e : opConv C src dst h (opd t x) = some (r, h') := e
    unfold opConv at e
    split at e
    · rename_i v hv
      cases hc : convV C src dst v h with
      | none => rw [hc] at e; cases e
      | some y =>
        obtain ⟨u, h1⟩ := y
        rw [hc] at e
        cases e
        exact ⟨_, rfl⟩
    · cases e

theorem reader_not_writer {o : Oper} (h : isReader o = true) : isWriter o = false := by
  unfold isReader at h
  unfold isWriter
  cases ho : o.op <;> rw [ho] at h <;> first | (cases h; done) | rfl

theorem maker_not_writer {o : Oper} (h : makes o = true) : isWriter o = false := by
  unfold makes at h
  unfold isWriter
  cases ho : o.op <;> rw [ho] at h <;> first | (cases h; done) | rfl

/-- a call that the operation asks for: the heap is as it was. -/
theorem aop_call_h {o : Oper} {t : Tr Value} {h h' : Hp} {f : FuncId} {args : Array Value} (e : aop C o t h = some (.call f args, h')) : h' = h ∧ isWriter o = true := by
  have hw : isWriter o = true := by
    cases hw : isWriter o with
    | true => rfl
    | false =>
      exfalso
      unfold aop aopSel at e
      unfold isWriter at hw
      cases ho : o.op
      all_goals rw [ho] at e hw
      all_goals try (cases hw; done)
      all_goals try (cases e; done)
      all_goals try (obtain ⟨_, _, hx, _⟩ := vres_inv e; cases hx; done)
      case alloc el => 
        have e : opAlloc h (zeroT C el) = _ := e
        unfold opAlloc at e; split at e
        · unfold pres at e; split at e <;> cases e
        · cases e
      case box el x => 
        have e : opAlloc h (opd t x) = _ := e
        unfold opAlloc at e; split at e
        · unfold pres at e; split at e <;> cases e
        · cases e
      case build ty ps =>
        have e : opBuild C h ty (parts t ps.toList) = _ := e
        unfold opBuild at e; split at e
        · unfold vres at e; split at e <;> cases e
        · cases e
      case buildSlice ty len ps =>
        have e : opBuildSlice C h len (und C ty) (parts t ps.toList) = _ := e
        unfold opBuildSlice at e; split at e
        · unfold opBuildSlice2 at e
          split at e
          · rename_i sz z _ _
            generalize (Nat.beq sz 0 || Nat.blt 16777216 (Nat.mul len sz) || Nat.beq z.cells.size 0) = q at e
            cases q
            · simp only [cond_false] at e
              unfold bslice at e; split at e
              · unfold sres at e; split at e <;> cases e
              · cases e
            · cases e
          · cases e
        · cases e
      case load ty x =>
        obtain ⟨v, hv⟩ := aop_reader_val (C := C) (o := o) (t := t) (h := h) (h' := h') (by unfold isReader; rw [ho]) (by unfold aop aopSel; rw [ho]; exact e)
        cases hv
      case convert src dst x =>
        obtain ⟨v, hv⟩ := aop_reader_val (C := C) (o := o) (t := t) (h := h) (h' := h') (by unfold isReader; rw [ho]) (by unfold aop aopSel; rw [ho]; exact e)
        cases hv
      case makeSlice ty x y =>
        have e : mkSlice C h (und C ty) (opd t x) (opd t y) = _ := e
        unfold mkSlice at e; split at e
        · unfold mkSlice2 at e
          split at e
          · simp only [cond_eq_ite] at e
            repeat' split at e
            all_goals cases e
          · cases e
        · cases e
      case panic x =>
        have e : opPanic h (opd t x) = _ := e
        unfold opPanic at e; split at e <;> cases e
      case call c =>
        have e : opCall C t h c.callee c.argTypes (opds t c.args.toList) = _ := e
        unfold opCall at e; split at e
        · split at e
          · unfold vhres at e; split at e <;> cases e
          · rename_i hc; simp [hc] at hw
          · cases e
        · cases e
  refine ⟨?_, hw⟩
  unfold aop aopSel at e
  cases ho : o.op
  all_goals rw [ho] at e
  case call c =>
    have e : opCall C t h c.callee c.argTypes (opds t c.args.toList) = _ := e
    unfold opCall at e; split at e
    · split at e
      · unfold vhres at e; split at e <;> cases e
      · exact (callO_inv e).1
      · cases e
    · cases e
  all_goals (unfold isWriter at hw; rw [ho] at hw; try (cases hw; done))
  case store ty x y =>
    have e : opStore C h ty (opd t x) (opd t y) = _ := e
    unfold opStore at e; split at e
    · unfold skres at e; split at e <;> cases e
    · cases e

end
end Ev
