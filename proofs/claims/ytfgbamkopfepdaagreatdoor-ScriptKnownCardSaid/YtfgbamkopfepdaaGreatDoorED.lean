import Derived.Test.YtfgbamkopfepdaaGreatDoorEC
import Derived.Orders
namespace Ev
open Go

section
variable {C : Ctx} {P : Program} {g : Gh} {h h' : Hp} {w : World} {t : Tr Value} {a : Act}

theorem getT_putT {t : Tr Value} {d : Nat} {v : Value} (hd : d < 4000) (x : Nat) : getT (putT t (some d) v) x = if x = d then v else getT t x := by
  unfold getT putT
  simp only
  have : (2 : Nat) ^ depthT = 4096 := by decide
  rw [Tr.get_set _ depthT t d x (by omega)]
  split <;> rfl

theorem TR.put {d : Option Nat} {v v' : Value} (ht : TR g t a.tmps) (hv : VR g v v') (hd : ∀ x, d = some x → x < a.tmps.size) (hN : a.tmps.size ≤ 4000) :
    TR g (putT t d v) (a.put d v').tmps := by
  cases d with
  | none => exact ht
  | some d =>
    intro x
    rw [getT_putT (by have := hd d rfl; omega)]
    have := hd d rfl
    by_cases hx : x = d
    · subst hx
      rw [if_pos rfl]
      simp [Act.put, this]
      exact hv
    · rw [if_neg hx]
      simp only [Act.put, Array.getD_eq_getD_getElem?]
      rw [Array.getElem?_setIfInBounds_ne (Ne.symm hx)]
      simpa using ht x

@[simp] theorem put_size (a : Act) (d : Option Tmp) (v : Value) : (a.put d v).tmps.size = a.tmps.size := by
  cases d <;> simp [Act.put]

@[simp] theorem put_defers (a : Act) (d : Option Tmp) (v : Value) : (a.put d v).defers = a.defers := by
  cases d <;> rfl

theorem VR.bool_iff {v v' : Value} (r : VR g v v') (b : Bool) : v' = .bool b ↔ v = .bool b := by
  cases r <;> simp

theorem wanted_eq {ops : Array Oper} {o : Oper} (ht : TR g t a.tmps) (hN : ∀ (j : Nat) o' d, ops[j]? = some o' → o'.dst = some d → d < a.tmps.size) :
    Region.wanted o (yielded ops a.tmps) = wantedA ops.toList t o := by
  unfold Region.wanted wantedA
  cases hg : o.guard with
  | none => rfl
  | some jw =>
    obtain ⟨j, want⟩ := jw
    simp only
    unfold yielded dstOf
    have hl : ops.toList[j]? = ops[j]? := by simp
    rw [hl]
    cases hj : ops[j]? with
    | none => rfl
    | some o' =>
      cases hd : o'.dst with
      | none => simp [hd]
      | some d =>
        have hlt := hN j o' d hj hd
        have hr := ht d
        have hget : a.tmps[d]? = some (a.tmps.getD d undef) := by simp [hlt]
        simp only [Option.bind_some, hd, hget]
        generalize getT t d = u at hr ⊢
        generalize a.tmps.getD d undef = u' at hr ⊢
        cases hr <;> rfl

/-- what a called function must be good for. -/
def CallOk (P : Program) (f : FuncId) (args : Array Value) (h : Hp) (r : Ret) (h' : Hp) : Prop :=
  ∀ (g : Gh) (w : World) (args' : Array Value), VRL g args.toList args'.toList → WR g h w → Fr g h h' →
    ((callFunc f args').run P w = .ok (.enter f args') w ∧ Calls P f args' w fun e w' => ∃ g', WR g' h' w' ∧ Ext g h w g' h' w' ∧
      match r with
      | .ret v => ∃ v', VR g' v v' ∧ e = .returned v'
      | .panic v => ∃ v', VR g' v v' ∧ e = .panicked [{ v := v', recovered := false }]) ∨
    (∃ v v', r = .ret v ∧ h' = h ∧ VR g v v' ∧ (callFunc f args').run P w = .ok (.value v') w)

def FOk (P : Program) (F : CallF) : Prop := ∀ f args h r h', F f args h = some (r, h') → h.next ≤ h'.next ∧ CallOk P f args h r h'

/-- how a piece of code ends. -/
def OutRel (g : Gh) (h : Hp) (w : World) (N : Nat) (o : Out) (s' : St) (e : Exit) (a' : Act) (w' : World) : Prop :=
  ∃ g', a'.tmps.size = N ∧ a'.defers = [] ∧ WR g' s'.h w' ∧ Ext g h w g' s'.h w' ∧
    match o with
    | .norm => e = .normal ∧ TR g' s'.t a'.tmps
    | .exit id => e = .exit id ∧ TR g' s'.t a'.tmps
    | .ret => e = .ret ∧ TR g' s'.t a'.tmps
    | .panic v => ∃ v', VR g' v v' ∧ e = .panic [{ v := v', recovered := false }]

theorem OutRel.weaken {g1 : Gh} {h1 : Hp} {w1 : World} {N : Nat} {o : Out} {s' : St} {e : Exit} {a' : Act} {w' : World} (hx : Ext g h w g1 h1 w1)
    (r : OutRel g1 h1 w1 N o s' e a' w') : OutRel g h w N o s' e a' w' :=
  let ⟨g', q1, q2, q3, q4, q5⟩ := r
  ⟨g', q1, q2, q3, hx.trans q4, q5⟩

/-- one operation: carried out, it leaves what the evaluator says. -/
theorem op_step {F : CallF} (hC : CtxOk C P) (hF : FOk P F) {o : Oper} {r : AR} (ht : TR g t a.tmps) (hw : WR g h w)
    (hf : Fr g h h') (e : aop C o t h = some (r, h')) {K : Act → World → Prop} {Q : Exit → Act → World → Prop}
    (hK : ∀ (v : Value), (r = .val v ∨ (r = .skip ∧ v = undef)) → ∀ g' w' v', VR g' v v' → WR g' h' w' → Ext g h w g' h' w' → K (a.put o.dst v') w')
    (hP : ∀ v, r = .panic v → ∀ v', VR g v v' → h' = h → Q (.panic [{ v := v', recovered := false }]) a w)
    (hcall : ∀ f args, r = .call f args → ∃ r2 h2, F f args h = some (r2, h2) ∧ Fr g h h2 ∧
      (∀ v, r2 = .ret v → ∀ g' w' v', VR g' v v' → WR g' h2 w' → Ext g h w g' h2 w' → K (a.put o.dst v') w') ∧
      (∀ v, r2 = .panic v → ∀ g' w' v', VR g' v v' → WR g' h2 w' → Ext g h w g' h2 w' → Q (.panic [{ v := v', recovered := false }]) a w')) :
    o.wp P a w K Q := by
  have hop := aop_ok (P := P) hC ht hw hf e
  unfold Oper.wp
  cases r with
  | val v =>
    obtain ⟨g', w', v', q1, q2, q3, q4⟩ := hop
    rw [q1, Oper.upon_value]
    exact hK v (.inl rfl) g' w' v' q2 q3 q4
  | skip =>
    obtain ⟨g', w', q1, q3, q4⟩ := hop
    rw [q1, Oper.upon_skip]
    exact hK undef (.inr ⟨rfl, rfl⟩) g' w' undef (VR.undef g') q3 q4
  | panic v =>
    obtain ⟨rfl, v', q1, q2⟩ := hop
    rw [q2, Oper.upon_panic]
    exact hP v rfl v' q1 rfl
  | call f args =>
    obtain ⟨rfl, args', q1, q2⟩ := hop
    obtain ⟨r2, h2, e2, hf2, k1, k2⟩ := hcall f args rfl
    rw [q2]
    rcases (hF f args _ r2 h2 e2).2 g w args' q1 hw hf2 with ⟨c1, c2⟩ | ⟨v, v', rfl, rfl, hv, c2⟩
    · rw [c1, Oper.upon_enter]
      refine c2.mono ?_
      rintro e' w' ⟨g', r1, r2', r3⟩
      cases r2 with
      | ret v =>
        obtain ⟨v', hv, rfl⟩ := r3
        exact k1 v rfl g' w' v' hv r1 r2'
      | panic v =>
        obtain ⟨v', hv, rfl⟩ := r3
        exact k2 v rfl g' w' v' hv r1 r2'
    · rw [c2, Oper.upon_value]
      exact k1 v rfl g w v' hv hw (Ext.refl g _ w)

end
end Ev
namespace Ev
open Go

section
variable {C : Ctx} {P : Program} {g : Gh} {h h' : Hp} {w : World} {t : Tr Value} {a : Act}

theorem vres_next {x : Option Value} {r : AR} (e : vres h x = some (r, h')) : h.next ≤ h'.next := by
  obtain ⟨_, _, _, rfl⟩ := vres_inv e; exact Nat.le_refl _

theorem newB_le {b : Blk} {i : Nat} (e : newB h b = some (i, h')) : h.next ≤ h'.next := by
  have := (newB_next e).2; omega

theorem storeV_next {ty : TypeId} {p v : Value} (e : storeV C h ty p v = some h') : h.next ≤ h'.next := by
  unfold storeV at e
  split at e
  · split at e
    · rename_i B n _ _
      cases hc : (Nat.beq v.cells.size n && Nat.blt 0 n) <;> rw [hc] at e
      · cases e
      · simp only [cond_true] at e
        split at e
        · cases e; exact Nat.le_refl _
        · cases e
    · cases e
  · cases e

theorem opAlloc_next {x : Option Value} {r : AR} (e : opAlloc h x = some (r, h')) : h.next ≤ h'.next := by
  unfold opAlloc at e
  split at e
  · unfold pres at e
    split at e
    · rename_i hn; cases e; exact newB_le hn
    · cases e
  · cases e

theorem buildSlice_next {len : Nat} {d : Option TypeDesc} {vs : Option (List (Nat × Value))} {r : AR} (e : opBuildSlice C h len d vs = some (r, h')) : h.next ≤ h'.next := by
  unfold opBuildSlice at e
  split at e
  · unfold opBuildSlice2 at e
    split at e
    · rename_i sz z _ _
      cases hc : (Nat.beq sz 0 || Nat.blt 16777216 (Nat.mul len sz) || Nat.beq z.cells.size 0) <;> rw [hc] at e
      · simp only [cond_false] at e
        unfold bslice at e
        split at e
        · unfold sres at e
          split at e
          · rename_i hn; cases e; exact newB_le hn
          · cases e
        · cases e
      · cases e
    · cases e
  · cases e

theorem mkSlice_next {d : Option TypeDesc} {x y : Option Value} {r : AR} (e : mkSlice C h d x y = some (r, h')) : h.next ≤ h'.next := by
  unfold mkSlice at e
  split at e
  · unfold mkSlice2 at e
    split at e
    · rename_i l0 _ c0 _ _ _ sz by_ z _ _ _
      cases hc : (Nat.ble l0 c0 && Nat.ble (Nat.mul by_ c0) 1099511627776 && Nat.ble c0 4294967296 && Nat.blt 0 sz && Nat.blt 0 z.cells.size) <;> rw [hc] at e
      · cases e
      · simp only [cond_true] at e
        split at e
        · rename_i hn; cases e; exact newB_le hn
        · cases e
    · cases e
  · cases e

theorem convV_next {src dst : TypeId} {x v : Value} (e : convV C src dst x h = some (v, h')) : h.next ≤ h'.next := by
  unfold convV at e
  repeat' split at e
  all_goals first
    | (cases e; done)
    | (cases e; exact Nat.le_refl _)
    | (rename_i hn; cases e; exact newB_le hn)
    | (simp only [Option.map_eq_some_iff] at e; obtain ⟨_, _, e⟩ := e; cases e; exact Nat.le_refl _)

theorem appendV_next {ats : Array TypeId} {args : Array Value} {v : Value} (e : appendV C ats args h = some (v, h')) : h.next ≤ h'.next := by
  unfold appendV at e
  simp only [cond_eq_ite] at e
  repeat' split at e
  all_goals first
    | (cases e; done)
    | (cases e; exact Nat.le_refl _)
    | (rename_i hn _ _ _; cases e; have q := newB_le hn; exact q)
    | (rename_i hn _ _; cases e; have q := newB_le hn; exact q)
    | (rename_i hn _; cases e; have q := newB_le hn; exact q)
    | (rename_i hn; cases e; have q := newB_le hn; exact q)

theorem copyV_next {ats : Array TypeId} {args : Array Value} {v : Value} (e : copyV C ats args h = some (v, h')) : h.next ≤ h'.next := by
  unfold copyV at e
  simp only at e
  repeat' split at e
  all_goals first
    | (cases e; done)
    | (cases e; exact Nat.le_refl _)

theorem vhres_next {x : Option (Value × Hp)} {r : AR} (hx : ∀ v, x = some (v, h') → h.next ≤ h'.next) (e : vhres x = some (r, h')) : h.next ≤ h'.next := by
  obtain ⟨v, hv, _⟩ := vhres_inv e; exact hx v hv

theorem aop_next {o : Oper} {r : AR} (e : aop C o t h = some (r, h')) : h.next ≤ h'.next := by
  obtain ⟨dst, op, ty0, pos, after, guard⟩ := o
  unfold aop at e
  simp only at e
  cases op
  case move x => exact vres_next (show vres h (opd t x) = _ from e)
  case assign x => exact vres_next (show vres h (opd t x) = _ from e)
  case pick c x y => exact vres_next (show vres h (pickV (opd t c) (opd t x) (opd t y)) = _ from e)
  case alloc el => exact opAlloc_next (show opAlloc h (zeroT C el) = _ from e)
  case box el x => exact opAlloc_next (show opAlloc h (opd t x) = _ from e)
  case build ty ps =>
    have e' : opBuild C h ty (parts t ps.toList) = some (r, h') := e
    unfold opBuild at e'
    split at e'
    · exact vres_next e'
    · cases e'
  case buildSlice ty len ps => exact buildSlice_next (show opBuildSlice C h len (und C ty) (parts t ps.toList) = _ from e)
  case load ty x =>
    have e' : opLoad C h ty (opd t x) = some (r, h') := e
    unfold opLoad at e'
    split at e'
    · exact vres_next e'
    · cases e'
  case store ty x y =>
    have e' : opStore C h ty (opd t x) (opd t y) = some (r, h') := e
    unfold opStore at e'
    split at e'
    · unfold skres at e'
      split at e'
      · rename_i hs; cases e'; exact storeV_next hs
      · cases e'
    · cases e'
  case nilCheck x => exact vres_next (show vres h (nilV (opd t x)) = _ from e)
  case binOp op ty x y yt => exact vres_next (show vres h (opBin2 C op ty x y (opd t x) (opd t y)) = _ from e)
  case unOp op ty x => exact vres_next (show vres h (unV op (opd t x)) = _ from e)
  case convert src dst' x =>
    have e' : opConv C src dst' h (opd t x) = some (r, h') := e
    unfold opConv at e'
    split at e'
    · exact vhres_next (fun v hv => convV_next hv) e'
    · cases e'
  case makeInterface ty x => exact vres_next (show vres h (ifaceV ty (und C ty) (opd t x)) = _ from e)
  case makeFunc fn first cap => exact vres_next (show vres h (funV fn (opds t first.toList) (opds t cap.toList)) = _ from e)
  case makeSlice ty x y => exact mkSlice_next (show mkSlice C h (und C ty) (opd t x) (opd t y) = _ from e)
  case slice ty x lo hi mx => exact vres_next (show vres h (opSlice C h ty (opd t x) (optV opd t lo) (optV opd t hi) (optV opd t mx)) = _ from e)
  case fieldAddr s x k => exact vres_next (show vres h (opFieldAddr C k (und C s) (opd t x)) = _ from e)
  case field s x k => exact vres_next (show vres h (opField C k (und C s) (opd t x)) = _ from e)
  case indexAddr ty x i => exact vres_next (show vres h (opIndexAddr C (und C ty) (opd t x) (opd t i)) = _ from e)
  case index ty x i => exact vres_next (show vres h (opIndex C (und C ty) (opd t x) (opd t i)) = _ from e)
  case typeAssert x xT ty ok => exact vres_next (show vres h (opAssert ty ok (und C ty) (opd t x)) = _ from e)
  case extract x k => exact vres_next (show vres h (opExtract k (opd t x)) = _ from e)
  case panic x =>
    have e' : opPanic h (opd t x) = some (r, h') := e
    unfold opPanic at e'
    split at e'
    · cases e'; exact Nat.le_refl _
    · cases e'
  case call c =>
    have e' : opCall C t h c.callee c.argTypes (opds t c.args.toList) = some (r, h') := e
    unfold opCall at e'
    split at e'
    · split at e'
      · rename_i b _
        refine vhres_next (fun v hv => ?_) e'
        cases b <;> simp only [builtinV] at hv <;> first
          | (cases hv; done)
          | exact appendV_next hv
          | exact copyV_next hv
          | (simp only [Option.map_eq_some_iff] at hv; obtain ⟨_, _, hv⟩ := hv; cases hv; exact Nat.le_refl _)
      · obtain ⟨rfl, _⟩ := callO_inv e'; exact Nat.le_refl _
      · cases e'
    · cases e'
  all_goals (exact absurd e (by simp [aopSel, x_none]))

end
end Ev
namespace Ev
open Go

section
variable {C : Ctx} {P : Program} {F : CallF}

theorem evOps_next (hF : FOk P F) {all : List Oper} {draw : Bool} : ∀ (l : List Oper) (i : Nat) (s : St) (m : Met) {o : Out} {s' : St} {m' : Met},
    evOps C F all draw l i s m = some (o, s', m') → s.h.next ≤ s'.h.next
  | [], i, s, m, o, s', m', e => by simp [evOps] at e; obtain ⟨_, rfl, _⟩ := e; exact Nat.le_refl _
  | op :: l, i, s, m, o, s', m', e => by
    simp only [evOps] at e
    cases hw : wantedA all s.t op with
    | false =>
      rw [hw] at e
      exact evOps_next hF l (Nat.succ i) ⟨putT s.t op.dst undef, s.h⟩ m e
    | true =>
      rw [hw] at e
      simp only [cond_true] at e
      cases ha : aop C op s.t s.h with
      | none => rw [ha] at e; cases e
      | some x =>
        obtain ⟨r, h1⟩ := x
        rw [ha] at e
        have hn := aop_next ha
        cases r with
        | val v =>
          simp only [opK] at e
          generalize (draw && isReader op && !(Nat.beq h1.next s.h.next)) = q at e
          cases q with
          | true => cases e
          | false => exact Nat.le_trans hn (evOps_next hF l _ _ _ e)
        | skip => exact Nat.le_trans hn (evOps_next hF l _ _ _ e)
        | panic v =>
          simp only [opK] at e
          cases draw <;> simp at e
          obtain ⟨_, rfl, _⟩ := e
          exact hn
        | call f args =>
          simp only [opK] at e
          cases hf : F f args h1 with
          | none => rw [hf] at e; cases e
          | some y =>
            obtain ⟨r2, h2⟩ := y
            rw [hf] at e
            have hn2 := (hF f args h1 r2 h2 hf).1
            cases r2 with
            | ret v => exact Nat.le_trans hn (Nat.le_trans hn2 (evOps_next hF l _ _ _ e))
            | panic v =>
              simp only [retK, Option.some.injEq, Prod.mk.injEq] at e
              obtain ⟨_, rfl, _⟩ := e
              exact Nat.le_trans hn hn2

theorem Fr.left {g : Gh} {h h1 h2 : Hp} (f : Fr g h h2) (hle : h1.next ≤ h2.next) : Fr g h h1 := fun i a b => f i a (by omega)

theorem Fr.right {g g' : Gh} {h h1 h2 : Hp} {w w' : World} (f : Fr g h h2) (x : Ext g h w g' h1 w') : Fr g' h1 h2 := by
  intro i a b
  cases hg : g' i with
  | none => rfl
  | some y =>
    have hn := x.next
    rcases x.new i y hg with h' | h'
    · rw [f i (by omega) b] at h'; cases h'
    · omega

theorem seq_ok (hC : CtxOk C P) (hF : FOk P F) {ops : Array Oper} {N : Nat} (hN4 : N ≤ 4000) (hdst : ∀ (j : Nat) (o : Oper) d, ops[j]? = some o → o.dst = some d → d < N) :
    ∀ (l : List Oper) (i : Nat) (s : St) (m : Met) {o : Out} {s' : St} {m' : Met}, evOps C F ops.toList false l i s m = some (o, s', m') →
    (∀ k, l[k]? = ops[i + k]?) → ∀ (g : Gh) (w : World) (a : Act) (Q : Exit → Act → World → Prop), TR g s.t a.tmps → WR g s.h w → Fr g s.h s'.h → a.tmps.size = N → a.defers = [] →
    (∀ e a' w', OutRel g s.h w N o s' e a' w' → Q e a' w') → wpOps P ops Q (List.range' i l.length) a w
  | [], i, s, m, o, s', m', e, _, g, w, a, Q, ht, hw, hf, hN, hd, hQ => by
    simp [evOps] at e
    obtain ⟨rfl, rfl, _⟩ := e
    exact hQ _ _ _ ⟨g, hN, hd, hw, Ext.refl _ _ _, rfl, ht⟩
  | op :: l, i, s, m, o, s', m', e, hl, g, w, a, Q, ht, hw, hf, hN, hd, hQ => by
    have hi : ops[i]? = some op := by have := hl 0; simpa using this.symm
    have hl' : ∀ k, l[k]? = ops[Nat.succ i + k]? := fun k => by
      have := hl (k + 1)
      rw [show i + (k + 1) = Nat.succ i + k by omega] at this
      simpa using this
    have hput : ∀ {g' : Gh} {v v' : Value}, TR g' s.t a.tmps → VR g' v v' → TR g' (putT s.t op.dst v) (a.put op.dst v').tmps := fun h1 h2 =>
      h1.put h2 (fun x hx => by rw [hN]; exact hdst i op x hi hx) (by omega)
    simp only [List.length_cons, List.range'_succ, wpOps, hi]
    rw [wanted_eq ht (by rw [hN]; exact hdst)]
    simp only [evOps] at e
    cases hwt : wantedA ops.toList s.t op with
    | false =>
      rw [hwt] at e
      simp only [cond_false] at e
      simp only [Bool.false_eq_true, if_false]
      exact seq_ok hC hF hN4 hdst l (Nat.succ i) ⟨putT s.t op.dst undef, s.h⟩ m e hl' g w (a.put op.dst undef) Q (hput ht (VR.undef g)) hw hf (by simpa using hN) (by simpa using hd) hQ
    | true =>
      rw [hwt] at e
      simp only [cond_true] at e
      simp only [if_true]
      refine .inl ?_
      cases ha : aop C op s.t s.h with
      | none => rw [ha] at e; cases e
      | some x =>
        obtain ⟨r, h1⟩ := x
        rw [ha] at e
        have hn := aop_next ha
        have hle : h1.next ≤ s'.h.next := by
          cases r with
          | val v => exact evOps_next hF l _ _ _ e
          | skip => exact evOps_next hF l _ _ _ e
          | panic v => simp [opK] at e; obtain ⟨_, rfl, _⟩ := e; exact Nat.le_refl _
          | call f args =>
            simp only [opK] at e
            cases hff : F f args h1 with
            | none => rw [hff] at e; cases e
            | some y =>
              obtain ⟨r2, h2⟩ := y
              rw [hff] at e
              have hn2 := (hF f args h1 r2 h2 hff).1
              cases r2 with
              | ret v => exact Nat.le_trans hn2 (evOps_next hF l _ _ _ e)
              | panic v => simp [retK] at e; obtain ⟨_, rfl, _⟩ := e; exact hn2
        refine op_step (P := P) hC hF ht hw (hf.left hle) ha ?_ ?_ ?_
        · intro v hv g' w' v' hvr hwr hex
          have e' : evOps C F ops.toList false l (Nat.succ i) ⟨putT s.t op.dst v, h1⟩ m = some (o, s', m') := by
            rcases hv with rfl | ⟨rfl, rfl⟩
            · simpa [opK] using e
            · simpa [opK] using e
          exact seq_ok hC hF hN4 hdst l (Nat.succ i) ⟨putT s.t op.dst v, h1⟩ m e' hl' g' w' (a.put op.dst v') Q (hput (ht.mono hex.ge) hvr) hwr (hf.right hex)
            (by simpa using hN) (by simpa using hd) (fun e a' w'' hr => hQ e a' w'' (hr.weaken hex))
        · intro v hv v' hvr heq
          subst hv
          simp [opK] at e
          obtain ⟨rfl, rfl, _⟩ := e
          subst heq
          exact hQ _ _ _ ⟨g, hN, hd, hw, Ext.refl _ _ _, v', hvr, rfl⟩
        · intro f args hr
          subst hr
          simp only [opK] at e
          cases hff : F f args h1 with
          | none => rw [hff] at e; cases e
          | some y =>
            obtain ⟨r2, h2⟩ := y
            rw [hff] at e
            have hh1 : h1 = s.h := by
              have := aop_ok (P := P) hC ht hw (hf.left hle) ha
              exact this.1
            subst hh1
            have hn2 := (hF f args _ r2 h2 hff).1
            refine ⟨r2, h2, hff, ?_, ?_, ?_⟩
            · cases r2 with
              | ret v => exact hf.left (evOps_next hF l _ _ _ e)
              | panic v => simp [retK] at e; obtain ⟨_, rfl, _⟩ := e; exact hf
            · rintro v rfl g' w' v' hvr hwr hex
              have e' : evOps C F ops.toList false l (Nat.succ i) ⟨putT s.t op.dst v, h2⟩ m = some (o, s', m') := by simpa [retK] using e
              exact seq_ok hC hF hN4 hdst l (Nat.succ i) ⟨putT s.t op.dst v, h2⟩ m e' hl' g' w' (a.put op.dst v') Q (hput (ht.mono hex.ge) hvr) hwr (hf.right hex)
                (by simpa using hN) (by simpa using hd) (fun e a' w'' hr => hQ e a' w'' (hr.weaken hex))
            · rintro v rfl g' w' v' hvr hwr hex
              simp [retK] at e
              obtain ⟨rfl, rfl, _⟩ := e
              exact hQ _ _ _ ⟨g', hN, hd, hwr, hex, v', hvr, rfl⟩

end
end Ev
namespace Ev
open Go

def dstOk (N : Nat) (ops : Array Oper) : Bool := ops.all fun o => match o.dst with | some d => Nat.blt d N | none => true

/-- what must be so of a drawn region, whatever it meets. -/
def reads (ops : Array Oper) (o : Oper) : List Tmp := o.looksAt ops

def pairOk (ops : Array Oper) (bef : Array Nat) (i j : Nat) (x y : Oper) : Bool :=
  -- i < j: x at i, y at j
  (match x.dst with
   | some d => !((reads ops y).contains d) || (bef.getD j 0).testBit i
   | none => true) &&
  (match y.dst with
   | some d => !((reads ops x).contains d) || (bef.getD j 0).testBit i
   | none => true) &&
  (x.dst.isNone || x.dst != y.dst) &&
  (!(isWriter x && isWriter y) || (bef.getD j 0).testBit i)

def makes (o : Oper) : Bool :=
  match o.op with
  | .alloc _ | .box .. | .buildSlice .. | .makeSlice .. | .convert .. => true
  | _ => false

def drawGood (ops : Array Oper) : Bool :=
  let bef := Region.before ops
  let l := ops.toList.zipIdx
  Region.noSelect ops &&
  (l.all fun (o, i) => o.after.all fun e => !Region.binds .any e || Nat.blt e.on i) &&
  (l.all fun (y, j) => l.all fun (x, i) => !Nat.blt i j || (pairOk ops bef i j x y && (!(makes x && isWriter y) || (bef.getD j 0).testBit i)))

def goodC (N : Nat) : Code → Bool
  | .region _ ops draw => dstOk N ops && (!draw || drawGood ops)
  | .seq a b => goodC N a && goodC N b
  | .cond _ a b => goodC N a && goodC N b
  | .block _ a => goodC N a
  | .loop a => goodC N a
  | .skip | .exit _ | .ret => true
  | _ => false

theorem dstOk_spec {N : Nat} {ops : Array Oper} (h : dstOk N ops = true) (j : Nat) (o : Oper) (d : Nat) (ho : ops[j]? = some o) (hd : o.dst = some d) : d < N := by
  have := Array.all_eq_true_iff_forall_mem.1 h o (Array.mem_of_getElem? ho)
  rw [hd] at this
  simpa [Nat.blt_eq] using this

/-! ### another order -/

section
variable {P : Program} {ops ops' : Array Oper} {Q : Exit → Act → World → Prop}

theorem wp_same {o o' : Oper} (h1 : o'.op = o.op) (h2 : o'.dst = o.dst) (h3 : o'.type = o.type) (h4 : o'.pos = o.pos) {a : Act} {w : World} {K : Act → World → Prop} :
    (o'.wp P a w K Q ↔ o.wp P a w K Q) ∧ (o'.asks P a w ↔ o.asks P a w) := by
  obtain ⟨d, op, ty, pos, af, gd⟩ := o
  obtain ⟨d', op', ty', pos', af', gd'⟩ := o'
  simp only at h1 h2 h3 h4
  subst h1 h2 h3 h4
  exact ⟨Iff.rfl, Iff.rfl⟩

theorem perm_wpAny {p : Nat → Nat} (hsz : ops'.size = ops.size) (hp : ∀ i, i < ops.size → p i < ops.size) (hsur : ∀ k, k < ops.size → ∃ i, i < ops.size ∧ p i = k)
    (hinj : ∀ i j, i < ops.size → j < ops.size → p i = p j → i = j)
    (hop : ∀ (i : Nat) (o : Oper), ops[i]? = some o → ∃ o', ops'[p i]? = some o' ∧ o'.op = o.op ∧ o'.dst = o.dst ∧ o'.type = o.type ∧ o'.pos = o.pos ∧
      (∀ e ∈ o.after, Region.binds .any e = true → e.on < ops.size ∧ ∃ e' ∈ o'.after, Region.binds .any e' = true ∧ e'.on = p e.on) ∧
      (∀ e' ∈ o'.after, Region.binds .any e' = true → ∃ e ∈ o.after, Region.binds .any e = true ∧ e.on < ops.size ∧ e'.on = p e.on) ∧
      ((o.guard = none ∧ o'.guard = none) ∨ ∃ j b, j < ops.size ∧ o.guard = some (j, b) ∧ o'.guard = some (p j, b))) :
    ∀ (fuel : Nat) (L L' : Array Bool) (a : Act) (w : World), L.size = ops.size → L'.size = ops.size → (∀ i, i < ops.size → L'.getD (p i) false = L.getD i false) →
      wpAny P .any ops' Q fuel L' a w → wpAny P .any ops Q fuel L a w := by
  have getD2 : ∀ (L : Array Bool) (i : Nat), i < L.size → L.getD i true = L.getD i false := by
    intro L i hi
    simp [hi]
  have fwd : ∀ (L L' : Array Bool), L.size = ops.size → L'.size = ops.size → (∀ i, i < ops.size → L'.getD (p i) false = L.getD i false) → ∀ i, i ∈ Region.ready .any ops L → p i ∈ Region.ready .any ops' L' := by
    intro L L' h1 h2 hl i hi
    obtain ⟨hu, o, ho, hall⟩ := mem_ready.1 hi
    have hlt : i < ops.size := (Array.getElem?_eq_some_iff.1 ho).1
    obtain ⟨o', ho', _, _, _, _, _, he', _⟩ := hop i o ho
    refine mem_ready.2 ⟨?_, o', ho', ?_⟩
    · rw [getD2 L' _ (by rw [h2]; exact hp i hlt), hl i hlt, ← getD2 L i (by omega)]
      exact hu
    · intro e' hm hb
      obtain ⟨e, h3, h4, h5, h6⟩ := he' e' hm hb
      rw [h6, hl _ h5]
      exact hall e h3 h4
  have bwd : ∀ (L L' : Array Bool), L.size = ops.size → L'.size = ops.size → (∀ i, i < ops.size → L'.getD (p i) false = L.getD i false) → Region.ready .any ops L = [] → Region.ready .any ops' L' = [] := by
    intro L L' h1 h2 hl hn
    cases hr : Region.ready .any ops' L' with
    | nil => rfl
    | cons k r =>
      exfalso
      have hk : k ∈ Region.ready .any ops' L' := by rw [hr]; simp
      obtain ⟨hu, o', ho', hall⟩ := mem_ready.1 hk
      have hlt' : k < ops.size := by rw [← hsz]; exact (Array.getElem?_eq_some_iff.1 ho').1
      obtain ⟨i, hi, rfl⟩ := hsur k hlt'
      have ho : ops[i]? = some ops[i] := by simp [hi]
      obtain ⟨o2, ho2, _, _, _, _, he, _, _⟩ := hop i _ ho
      rw [ho'] at ho2; cases ho2
      have : i ∈ Region.ready .any ops L := by
        refine mem_ready.2 ⟨?_, _, ho, ?_⟩
        · rw [getD2 L i (by omega), ← hl i hi, ← getD2 L' _ (by omega)]
          exact hu
        · intro e hm hb
          obtain ⟨h5, e', h6, h7, h8⟩ := he e hm hb
          have := hall e' h6 h7
          rw [h8, hl _ h5] at this
          exact this
      rw [hn] at this
      cases this
  have fwdN : ∀ (L L' : Array Bool), L.size = ops.size → L'.size = ops.size → (∀ i, i < ops.size → L'.getD (p i) false = L.getD i false) → Region.ready .any ops' L' = [] → Region.ready .any ops L = [] := by
    intro L L' h1 h2 hl hn
    cases hr : Region.ready .any ops L with
    | nil => rfl
    | cons k r =>
      exfalso
      have := fwd L L' h1 h2 hl k (by rw [hr]; simp)
      rw [hn] at this
      cases this
  intro fuel
  induction fuel with
  | zero =>
    intro L L' a w h1 h2 hl hh
    exact ⟨fwdN L L' h1 h2 hl hh.1, hh.2⟩
  | succ fuel ih =>
    intro L L' a w h1 h2 hl hh
    refine ⟨fun hn => hh.1 (bwd L L' h1 h2 hl hn), ?_⟩
    intro i hi
    have hpi := hh.2 (p i) (fwd L L' h1 h2 hl i hi)
    obtain ⟨_, o, ho, _⟩ := mem_ready.1 hi
    have hlt : i < ops.size := (Array.getElem?_eq_some_iff.1 ho).1
    obtain ⟨o', ho', q1, q2, q3, q4, _, _, q5⟩ := hop i o ho
    have hw : Region.wanted o' (yielded ops' a.tmps) = Region.wanted o (yielded ops a.tmps) := by
      unfold Region.wanted
      rcases q5 with ⟨g1, g2⟩ | ⟨j, b, hj, g1, g2⟩
      · rw [g1, g2]
      · rw [g1, g2]
        simp only
        have hoj : ops[j]? = some ops[j] := by simp [hj]
        obtain ⟨oj', hoj', _, d2, _⟩ := hop j _ hoj
        unfold yielded
        rw [hoj, hoj']
        simp only [Option.bind_some, d2]
    have hset : ∀ k, k < ops.size → (L'.setIfInBounds (p i) true).getD (p k) false = (L.setIfInBounds i true).getD k false := by
      intro k hk
      by_cases e : i = k
      · subst e
        have := hp i hlt
        simp [h1, h2, hlt, this]
      · rw [getD_set_ne false e, getD_set_ne false (fun h => e (hinj i k hlt hk h))]
        exact hl k hk
    have hmono : ∀ a w, wpAny P .any ops' Q fuel (L'.setIfInBounds (p i) true) a w → wpAny P .any ops Q fuel (L.setIfInBounds i true) a w :=
      fun a w hx => ih _ _ a w (by simpa using h1) (by simpa using h2) hset hx
    unfold wpOp at hpi ⊢
    simp only [ho, ho'] at hpi ⊢
    rw [← hw]
    split
    · rename_i hwt
      rw [if_pos hwt] at hpi
      rcases hpi with hx | ⟨hx, hy⟩
      · exact .inl (Oper.wp_mono hmono ((wp_same q1 q2 q3 q4).1.1 hx))
      · exact .inr ⟨(wp_same (Q := Q) (K := fun _ _ => True) q1 q2 q3 q4).2.1 hx, hy⟩
    · rename_i hwt
      rw [if_neg hwt] at hpi
      rw [q2] at hpi
      exact hmono _ _ hpi

theorem perm_region {a : Act} {w : World} (h : PermOk ops' ops) (hh : wpAny P .any ops' Q ops'.size (Array.replicate ops'.size false) a w) :
    wpAny P .any ops Q ops.size (Array.replicate ops.size false) a w := by
  obtain ⟨p, hsz, hp, hsur, hinj, hop⟩ := h.ex
  rw [hsz] at hh
  refine perm_wpAny hsz hp hsur hinj hop ops.size _ _ a w (by simp) (by simp) ?_ hh
  intro i hi
  have := hp i hi
  simp [hi, this]

end

section
variable {C : Ctx} {P : Program}

/-- what the proof of a drawn region has to give. -/
def DrawnSound (C : Ctx) (P : Program) : Prop :=
  ∀ (F : CallF) (_id : Nat) (ops : Array Oper) (N : Nat) (s : St) (o : Out) (s' : St) (m : Met), CtxOk C P → FOk P F → N ≤ 4000 →
    (∀ (j : Nat) (o : Oper) d, ops[j]? = some o → o.dst = some d → d < N) → drawGood ops = true →
    evOps C F ops.toList true ops.toList 0 s ⟨[], [], none⟩ = some (o, s', m) → drawnOk ops s.h m = true → stopOk ops m.stop = true →
    ∀ (g : Gh) (w : World) (a : Act), TR g s.t a.tmps → WR g s.h w → Fr g s.h s'.h → a.tmps.size = N → a.defers = [] →
    wpAny P .any ops (fun e a' w' => OutRel g s.h w N o s' e a' w') ops.size (Array.replicate ops.size false) a { w with drawn := w.drawn + 1 }

/-- a recursion that is good for code of frames of size N. -/
structure RecOk (P : Program) (ev : Code → St → Option (Out × St)) : Prop where
  next : ∀ c s o s', ev c s = some (o, s') → s.h.next ≤ s'.h.next
  wp : ∀ (N : Nat) c c0 s o s', CLike c c0 → N ≤ 4000 → ev c s = some (o, s') → goodC N c = true → ∀ (g : Gh) (w : World) (a : Act), TR g s.t a.tmps → WR g s.h w → Fr g s.h s'.h → a.tmps.size = N → a.defers = [] →
    c0.wp P (fun e a' w' => OutRel g s.h w N o s' e a' w') a w
  loop : ∀ (N : Nat) c c0 s o s', CLike c c0 → N ≤ 4000 → ev (.loop c) s = some (o, s') → goodC N c = true → ∀ (g : Gh) (w : World) (a : Act), TR g s.t a.tmps → WR g s.h w → Fr g s.h s'.h → a.tmps.size = N → a.defers = [] →
    ∀ (b : Frame) (k : List Item) (cs : List Frame), ∃ e a' w', OutRel g s.h w N o s' e a' w' ∧ Arrives P (lone (b.at a (.code c0 :: .inLoop c0 :: k)) cs w) b k cs e a' w'

theorem evCode_zero (c : Code) (s : St) : evCode C 0 c s = none := rfl
theorem evCode_succ (n : Nat) (c : Code) (s : St) : evCode C (n + 1) c s = evStep C (evCode C n) c s := rfl

theorem OutRel.norm_inv {g : Gh} {h : Hp} {w : World} {N : Nat} {s' : St} {e : Exit} {a' : Act} {w' : World} (r : OutRel g h w N .norm s' e a' w') :
    e = .normal ∧ ∃ g', a'.tmps.size = N ∧ a'.defers = [] ∧ WR g' s'.h w' ∧ Ext g h w g' s'.h w' ∧ TR g' s'.t a'.tmps :=
  let ⟨g', q1, q2, q3, q4, q5, q6⟩ := r
  ⟨q5, g', q1, q2, q3, q4, q6⟩

theorem OutRel.ne_norm {g : Gh} {h : Hp} {w : World} {N : Nat} {o : Out} {s' : St} {e : Exit} {a' : Act} {w' : World} (r : OutRel g h w N o s' e a' w') (ho : o ≠ .norm) : e ≠ .normal := by
  obtain ⟨g', q1, q2, q3, q4, q5⟩ := r
  cases o with
  | norm => exact absurd rfl ho
  | exit id => rw [q5.1]; intro h; cases h
  | ret => rw [q5.1]; intro h; cases h
  | panic v => obtain ⟨v', _, rfl⟩ := q5; intro h; cases h

theorem wp_then {x y : Code} {g : Gh} {h : Hp} {w : World} {N : Nat} {a : Act} {Q : Exit → Act → World → Prop} {o : Out} {s1 : St}
    (h1 : x.wp P (fun e a' w' => OutRel g h w N o s1 e a' w') a w)
    (hn : o = .norm → ∀ a' w' g', a'.tmps.size = N → a'.defers = [] → WR g' s1.h w' → Ext g h w g' s1.h w' → TR g' s1.t a'.tmps → y.wp P Q a' w')
    (ho : o ≠ .norm → ∀ e a' w', OutRel g h w N o s1 e a' w' → Q e a' w') : (Code.seq x y).wp P Q a w := by
  refine wp_seq (wp_mono h1 ?_)
  intro e a' w' r
  by_cases hno : o = .norm
  · subst hno
    obtain ⟨rfl, g', q1, q2, q3, q4, q5⟩ := r.norm_inv
    exact hn rfl a' w' g' q1 q2 q3 q4 q5
  · have := r.ne_norm hno
    cases e <;> first | exact absurd rfl this | exact ho hno _ _ _ r

/-- calls, by the recursion. -/
theorem resOf_ok (hC : CtxOk C P) {g : Gh} {s : St} {w : World} {tm : Array Value} (ht : TR g s.t tm) (hw : WR g s.h w) : ∀ {rs : List ResultVar} {vs : List Value}, resOf C s rs = some vs →
    ∃ vs', (rs.mapM fun (r : ResultVar) => (match r with
      | .tmp t => pure (tm.getD t undef)
      | .cell a t => do loadVar t (← asAddr (tm.getD a undef)) : Sem Value)).run P w = .ok vs' w ∧ VRL g vs vs'
  | [], vs, e => by simp [resOf] at e; subst e; exact ⟨[], by simp, .nil⟩
  | .tmp x :: l, vs, e => by
    simp only [resOf, Option.map_eq_some_iff] at e
    obtain ⟨vs0, h0, rfl⟩ := e
    obtain ⟨vs', h1, h2⟩ := resOf_ok hC ht hw h0
    exact ⟨tm.getD x undef :: vs', by rw [List.mapM_cons]; simp only [Sem.run_bind, Sem.run_pure, Result.andThen_ok, h1], .cons (ht x) h2⟩
  | .cell ad ty :: l, vs, e => by
    simp only [resOf] at e
    split at e
    · rename_i v r h0 h1
      cases e
      obtain ⟨vs', q1, q2⟩ := resOf_ok hC ht hw h1
      obtain ⟨v', p1, p2⟩ := load_ok (P := P) hw (ht ad) hC h0
      refine ⟨v' :: vs', ?_, .cons p2 q2⟩
      have hp : (do loadVar ty (← asAddr (tm.getD ad undef)) : Sem Value).run P w = .ok v' w := by
        have hr := ht ad
        unfold loadV at h0
        split at h0
        · rename_i b off hgt
          rw [hgt] at hr
          obtain ⟨_, x, hx, hv⟩ := hr.ptr_inv
          rw [hv] at p1 ⊢
          simpa [Instr.loadAt, Instr.sureAddr, asAddr] using p1
        · cases h0
      rw [List.mapM_cons]
      simp only [Sem.run_bind] at hp
      simp only [Sem.run_bind, q1, Result.andThen_ok, Sem.run_pure, hp]
    · cases e

theorem results_ok (hC : CtxOk C P) {g : Gh} {s : St} {w : World} {fn : Func} {tm : Array Value} {v : Value} (ht : TR g s.t tm) (hw : WR g s.h w) (e : resV C s fn.results.toList = some v) :
    ∃ v', (results fn tm).run P w = .ok v' w ∧ VR g v v' := by
  unfold resV at e
  have key : ∀ {vs}, resOf C s fn.results.toList = some vs → ∃ vs' : List Value, (results fn tm).run P w = .ok (if h : vs'.toArray.size = 1 then vs'.toArray[0] else .tuple vs'.toArray) w ∧ VRL g vs vs' := by
    intro vs h
    obtain ⟨vs', q1, q2⟩ := resOf_ok (P := P) hC ht hw h
    refine ⟨vs', ?_, q2⟩
    unfold results
    rw [Sem.run_bind, Array.mapM_eq_mapM_toList, Sem.run_map]
    refine Eq.trans (congrArg (fun r : Result (List Value) => (r.andThen fun a w' => Result.ok a.toArray w').andThen fun a w' => Sem.run P (pure (if h : a.size = 1 then a[0] else Value.tuple a)) w') q1) ?_
    rfl
  split at e
  · rename_i u hu
    cases e
    obtain ⟨vs', q1, q2⟩ := key hu
    cases q2 with
    | cons h1 t1 => cases t1; exact ⟨_, q1, by simpa using h1⟩
  · rename_i l hne hl
    cases e
    obtain ⟨vs', q1, q2⟩ := key hl
    refine ⟨_, q1, ?_⟩
    have hlen := q2.length
    have : ¬ vs'.toArray.size = 1 := by
      intro h
      have h1 : vs'.length = 1 := by simpa using h
      cases l with
      | nil => simp at hlen; omega
      | cons x l =>
        cases l with
        | nil => exact hne x rfl
        | cons y l => simp at hlen; omega
    rw [dif_neg this]
    exact .tuple _ _ (by simpa using q2)
  · cases e

end
end Ev
namespace Ev
open Go

section
variable {C : Ctx} {P : Program}

/-- the functions of the program, as the evaluator has them. -/
structure FnsOk (C : Ctx) (P : Program) : Prop where
  good : ∀ f fn c, C.fn.get f = some fn → fn.body = some c → goodC fn.ntmps c = true ∧ fn.ntmps ≤ 4000
  ext : ∀ f fn args v, C.fn.get f = some fn → fn.body = none → extV C f args = some v → ∀ w : World, (callFunc f args).run P w = .ok (.value v) w

theorem initT_get : ∀ (l : List Value) (i : Nat) (t : Tr Value) (x : Nat), i + l.length ≤ 4000 →
    getT (initT l i t) x = if i ≤ x ∧ x < i + l.length then l.getD (x - i) undef else getT t x
  | [], i, t, x, _ => by simp only [initT, List.length_nil]; rw [if_neg (by omega)]
  | v :: l, i, t, x, h => by
    simp only [initT]
    simp only [List.length_cons] at h ⊢
    rw [initT_get l (i + 1) _ x (by omega)]
    have hp : getT (Tr.set (some v) depthT t i) x = if x = i then v else getT t x := getT_putT (t := t) (d := i) (v := v) (by omega) x
    rw [hp]
    by_cases h1 : i + 1 ≤ x ∧ x < i + 1 + l.length
    · rw [if_pos h1, if_pos (by omega), show x - i = (x - (i + 1)) + 1 by omega]
      simp
    · rw [if_neg h1]
      by_cases h2 : x = i
      · subst h2; rw [if_pos rfl, if_pos (by omega)]; simp
      · rw [if_neg h2, if_neg (by omega)]

theorem initT_rel {g : Gh} {args args' : Array Value} {n : Nat} (h : VRL g args.toList args'.toList) (hn : args.size ≤ 4000) :
    TR g (initT args.toList 0 .nil) (args' ++ Array.replicate (n - args'.size) undef) := by
  intro x
  rw [initT_get _ _ _ _ (by simpa using hn)]
  have hlen := h.length
  simp only [Array.length_toList] at hlen
  simp only [Nat.zero_le, true_and, Nat.zero_add, Nat.sub_zero]
  by_cases hx : x < args.size
  · rw [if_pos (by simpa using hx)]
    obtain ⟨v', hv', r⟩ := h.get (k := x) (v := args[x]) (by simp [hx])
    have e1 : args.toList.getD x undef = args[x] := by simp [hx]
    have e2 : (args' ++ Array.replicate (n - args'.size) undef).getD x undef = v' := by
      rw [Array.getD_eq_getD_getElem?, Array.getElem?_append_left (by omega)]
      have : args'[x]? = some v' := by simpa using hv'
      rw [this]; rfl
    rw [e1, e2]
    exact r
  · rw [if_neg (by simpa using hx)]
    have e2 : (args' ++ Array.replicate (n - args'.size) undef).getD x undef = undef := by
      rw [Array.getD_eq_getD_getElem?, Array.getElem?_append_right (by omega)]
      rw [Array.getElem?_replicate]
      split <;> rfl
    rw [e2]
    exact VR.undef g

theorem callFunc_enter (hC : CtxOk C P) {f : FuncId} {fn : Func} {c : Code} (hf : C.fn.get f = some fn) (hb : fn.body = some c) (args : Array Value) (w : World) :
    (callFunc f args).run P w = .ok (.enter f args) w := by
  obtain ⟨fn0, h1, hl⟩ := hC.fn f fn hf
  have h2 := hC.name f fn hf
  have h3 : ¬ fn0.name = "runtime.NumGoroutine" := by rw [← hl.name]; simpa using h2
  obtain ⟨c0, hb0, _⟩ := hl.some c hb
  simp [callFunc, h1, h3, hb0]

theorem extV_args {f : FuncId} {args args' : Array Value} {v : Value} {g : Gh} (h : VRL g args.toList args'.toList) (e : extV C f args = some v) : args' = args ∧ closedV v = true := by
  unfold extV at e
  split at e
  · rename_i b ha
    rw [ha] at h
    generalize hl : args'.toList = l at h
    cases h with
    | cons h1 t1 =>
      cases t1
      rw [h1.float_inv] at hl
      refine ⟨by apply Array.ext'; rw [hl, ha], ?_⟩
      cases hb : Nat.beq f C.fbits <;> rw [hb] at e <;> cases e
      rfl
  · rename_i b ha
    rw [ha] at h
    generalize hl : args'.toList = l at h
    cases h with
    | cons h1 t1 =>
      cases t1
      rw [h1.int_inv] at hl
      refine ⟨by apply Array.ext'; rw [hl, ha], ?_⟩
      cases hb : Nat.beq f C.ffrom <;> rw [hb] at e <;> cases e
      rfl
  · cases e

theorem callBody_ok (hC : CtxOk C P) (hFn : FnsOk C P) {ev : Code → St → Option (Out × St)} (hr : RecOk P ev) : FOk P (callBody C ev) := by
  intro f args h r h' e
  unfold callBody at e
  cases hf : C.fn.get f with
  | none => rw [hf] at e; cases e
  | some fn =>
    rw [hf] at e
    simp only at e
    cases hb : fn.body with
    | none =>
      rw [hb] at e
      simp only [Option.map_eq_some_iff] at e
      obtain ⟨v, hv, e⟩ := e
      cases e
      refine ⟨Nat.le_refl _, ?_⟩
      intro g w args' ha hw _
      obtain ⟨rfl, hcl⟩ := extV_args ha hv
      exact .inr ⟨v, v, rfl, rfl, VR.of_closed hcl, hFn.ext f fn _ v hf hb hv w⟩
    | some c =>
      rw [hb] at e
      simp only at e
      obtain ⟨hgood, h4⟩ := hFn.good f fn c hf hb
      cases hsz : Nat.ble args.size fn.ntmps with
      | false => rw [hsz] at e; cases e
      | true =>
      rw [hsz] at e
      simp only [cond_true] at e
      have hsz' : args.size ≤ fn.ntmps := by simpa [Nat.ble_eq] using hsz
      cases hev : ev c ⟨initT args.toList 0 .nil, h⟩ with
      | none => rw [hev] at e; cases e
      | some x =>
        obtain ⟨o, s1⟩ := x
        rw [hev] at e
        have hnx := hr.next _ _ _ _ hev
        have hh' : h' = s1.h := by
          cases o <;> simp only at e
          · simp only [Option.map_eq_some_iff] at e; obtain ⟨_, _, e⟩ := e; cases e; rfl
          · cases e
          · simp only [Option.map_eq_some_iff] at e; obtain ⟨_, _, e⟩ := e; cases e; rfl
          · cases e; rfl
        subst hh'
        refine ⟨hnx, ?_⟩
        intro g w args' ha hw hfr
        refine .inl ⟨callFunc_enter hC hf hb args' w, ?_⟩
        have hlen := ha.length
        simp only [Array.length_toList] at hlen
        obtain ⟨fn0, hf0, hlk⟩ := hC.fn f fn hf
        obtain ⟨c0, hb0, hcl⟩ := hlk.some c hb
        refine calls_of_wp hf0 hb0 ?_
        rw [← hlk.ntmps]
        have hres : ∀ tm, results fn tm = results fn0 tm := fun tm => by unfold results; rw [hlk.results]
        have hwp := hr.wp fn.ntmps c c0 _ o s1 hcl h4 hev hgood g w { tmps := args' ++ Array.replicate (fn.ntmps - args'.size) undef, defers := [] }
          (initT_rel ha (by omega)) hw hfr (by simp; omega) rfl
        refine wp_mono hwp ?_
        rintro e' a' w' ⟨g', q1, q2, q3, q4, q5⟩
        cases o with
        | norm =>
          obtain ⟨rfl, q6⟩ := q5
          simp only [Option.map_eq_some_iff] at e
          obtain ⟨v, hv, e⟩ := e
          cases e
          obtain ⟨v', r1, r2⟩ := results_ok (P := P) hC q6 q3 hv
          rw [hres] at r1
          exact ⟨q2, v', r1, g', q3, q4, v', r2, rfl⟩
        | ret =>
          obtain ⟨rfl, q6⟩ := q5
          simp only [Option.map_eq_some_iff] at e
          obtain ⟨v, hv, e⟩ := e
          cases e
          obtain ⟨v', r1, r2⟩ := results_ok (P := P) hC q6 q3 hv
          rw [hres] at r1
          exact ⟨q2, v', r1, g', q3, q4, v', r2, rfl⟩
        | panic v =>
          obtain ⟨v', hv, rfl⟩ := q5
          cases e
          exact ⟨q2, g', q3, q4, v', hv, rfl⟩
        | exit id => cases e

end
end Ev
namespace Ev
open Go

section
variable {C : Ctx} {P : Program}

theorem seqK_inv {ev : EvF} {b : Code} {x : Option (Out × St)} {o : Out} {s' : St} (e : seqK ev b x = some (o, s')) :
    (∃ s1, x = some (.norm, s1) ∧ ev b s1 = some (o, s')) ∨ (x = some (o, s') ∧ o ≠ .norm) := by
  cases x with
  | none => cases e
  | some y =>
    obtain ⟨o1, s1⟩ := y
    cases o1 with
    | norm => exact .inl ⟨s1, rfl, e⟩
    | exit i => simp only [seqK] at e; cases e; exact .inr ⟨rfl, by simp⟩
    | ret => simp only [seqK] at e; cases e; exact .inr ⟨rfl, by simp⟩
    | panic v => simp only [seqK] at e; cases e; exact .inr ⟨rfl, by simp⟩

theorem blockK_inv {id : Nat} {x : Option (Out × St)} {o : Out} {s' : St} (e : blockK id x = some (o, s')) :
    ∃ o1, x = some (o1, s') ∧ ((o1 = .exit id ∧ o = .norm) ∨ (o1 = o ∧ o1 ≠ .exit id)) := by
  cases x with
  | none => cases e
  | some y =>
    obtain ⟨o1, s1⟩ := y
    cases o1 with
    | norm => simp only [blockK] at e; cases e; exact ⟨_, rfl, .inr ⟨rfl, by simp⟩⟩
    | exit i =>
      simp only [blockK] at e
      cases h : Nat.beq i id with
      | true =>
        rw [h] at e
        simp only [cond_true] at e; cases e
        rw [Nat.eq_of_beq_eq_true h]
        exact ⟨_, rfl, .inl ⟨rfl, rfl⟩⟩
      | false =>
        rw [h] at e
        simp only [cond_false] at e; cases e
        refine ⟨_, rfl, .inr ⟨rfl, ?_⟩⟩
        intro q; cases q
        rw [Nat.beq_refl] at h; cases h
    | ret => simp only [blockK] at e; cases e; exact ⟨_, rfl, .inr ⟨rfl, by simp⟩⟩
    | panic v => simp only [blockK] at e; cases e; exact ⟨_, rfl, .inr ⟨rfl, by simp⟩⟩

theorem regK_inv {ops : Array Oper} {draw : Bool} {h : Hp} {x : Option (Out × St × Met)} {o : Out} {s' : St} (e : regK ops draw h x = some (o, s')) :
    ∃ m, x = some (o, s', m) ∧ (draw = true → drawnOk ops h m = true ∧ stopOk ops m.stop = true) := by
  cases x with
  | none => cases e
  | some y =>
    obtain ⟨o1, s1, m⟩ := y
    simp only [regK] at e
    cases draw with
    | false => simp only [cond_false] at e; cases e; exact ⟨m, rfl, by simp⟩
    | true =>
      simp only [cond_true] at e
      cases hd : (drawnOk ops h m && stopOk ops m.stop) with
      | false => rw [hd] at e; cases e
      | true => rw [hd] at e; cases e; exact ⟨m, rfl, fun _ => by simpa using hd⟩

theorem condK_inv {ev : EvF} {a b : Code} {s : St} {x : Option Value} {r : Option (Out × St)} (e : condK ev a b s x = r) (hr : r ≠ none) :
    ∃ t, x = some (.bool t) ∧ (if t = true then ev a s else ev b s) = r := by
  unfold condK at e
  split at e
  · rename_i c
    exact ⟨c, rfl, by cases c <;> simpa using e⟩
  · exact absurd e.symm hr

theorem loop_first {ev : EvF} (hr : RecOk P ev) {N : Nat} {c c0 : Code} (hl : CLike c c0) {s : St} {o : Out} {s' : St} (hN : N ≤ 4000)
    (e : seqK ev (.loop c) (ev c s) = some (o, s')) (hg : goodC N c = true) (g : Gh) (w : World) (a : Act) (ht : TR g s.t a.tmps) (hw : WR g s.h w)
    (hf : Fr g s.h s'.h) (hs : a.tmps.size = N) (hd : a.defers = []) (b : Frame) (k : List Item) (cs : List Frame) :
    ∃ e a' w', OutRel g s.h w N o s' e a' w' ∧ Arrives P (lone (b.at a (.code c0 :: .inLoop c0 :: k)) cs w) b k cs e a' w' := by
  rcases seqK_inv e with ⟨s1, h1, h2⟩ | ⟨h1, hno⟩
  · have n1 := hr.next _ _ _ _ h1
    have n2 := hr.next _ _ _ _ h2
    obtain ⟨e1, a1, w1, r1, q1⟩ := hr.wp N c c0 s _ s1 hl hN h1 hg g w a ht hw (hf.left n2) hs hd b (.inLoop c0 :: k) cs
    obtain ⟨rfl, g1, p1, p2, p3, p4, p5⟩ := r1.norm_inv
    obtain ⟨e2, a2, w2, r2, q2⟩ := hr.loop N c c0 s1 o s' hl hN h2 hg g1 w1 a1 p5 p3 (hf.right p4) p1 p2 b k cs
    exact ⟨e2, a2, w2, r2.weaken p4, .of_steps (Steps.trans q1 (Steps.one step_inLoop)) q2⟩
  · obtain ⟨e1, a1, w1, r1, q1⟩ := hr.wp N c c0 s o s' hl hN h1 hg g w a ht hw hf hs hd b (.inLoop c0 :: k) cs
    exact ⟨e1, a1, w1, r1, .pass rfl (fun _ _ => .inl (r1.ne_norm hno)) q1⟩

theorem evCode_ok (hC : CtxOk C P) (hD : DrawnSound C P) (hT : ∀ ev, RecOk P ev → FOk P (callF C ev)) : ∀ n, RecOk P (evCode C n)
  | 0 => by
    refine ⟨?_, ?_, ?_⟩
    · intro c s o s' e
      cases e
    · intro N c c0 s o s' _ _ e
      cases e
    · intro N c c0 s o s' _ _ e
      cases e
  | n + 1 => by
    have hr := evCode_ok hC hD hT n
    have hF := hT _ hr
    refine ⟨?_, ?_, ?_⟩
    · intro c s o s' e
      rw [evCode_succ] at e
      cases c <;> simp only [evStep, evSel, c_skip, c_seq, c_cond, c_block, c_loop, c_exit, c_ret, c_region, c_none] at e
      all_goals try (cases e; done)
      all_goals try (cases e; exact Nat.le_refl _)
      case region id ops draw =>
        obtain ⟨m, h1, _⟩ := regK_inv e
        exact evOps_next hF _ _ _ _ h1
      case seq x y =>
        rcases seqK_inv e with ⟨s1, h1, h2⟩ | ⟨h1, _⟩
        · exact Nat.le_trans (hr.next _ _ _ _ h1) (hr.next _ _ _ _ h2)
        · exact hr.next _ _ _ _ h1
      case cond x y z =>
        obtain ⟨t, _, h1⟩ := condK_inv e (by simp)
        cases t
        · exact hr.next _ _ _ _ (by simpa using h1)
        · exact hr.next _ _ _ _ (by simpa using h1)
      case block id x =>
        obtain ⟨o1, h1, _⟩ := blockK_inv e
        exact hr.next _ _ _ _ h1
      case loop x =>
        rcases seqK_inv e with ⟨s1, h1, h2⟩ | ⟨h1, _⟩
        · exact Nat.le_trans (hr.next _ _ _ _ h1) (hr.next _ _ _ _ h2)
        · exact hr.next _ _ _ _ h1
    · intro N c c0 s o s' hl hN e hg g w a ht hw hf hs hd
      rw [evCode_succ] at e
      cases c <;> simp only [evStep, evSel, c_skip, c_seq, c_cond, c_block, c_loop, c_exit, c_ret, c_region, c_none] at e
      all_goals try (cases e; done)
      case skip => cases hl; cases e; exact wp_skip ⟨g, hs, hd, hw, Ext.refl g _ w, rfl, ht⟩
      case exit id => cases hl; cases e; exact wp_exit ⟨g, hs, hd, hw, Ext.refl g _ w, rfl, ht⟩
      case ret => cases hl; cases e; exact wp_ret ⟨g, hs, hd, hw, Ext.refl g _ w, rfl, ht⟩
      case region id ops draw =>
        obtain ⟨m, h1, h2⟩ := regK_inv e
        simp only [goodC, Bool.and_eq_true] at hg
        have hdst := fun j o d ho hd => dstOk_spec hg.1 j o d ho hd
        cases draw with
        | false =>
          cases hl
          refine wp_region ?_
          rw [List.range_eq_range']
          have := seq_ok (P := P) hC hF hN hdst ops.toList 0 s ⟨[], [], none⟩ h1 (by intro k; simp) g w a _ ht hw hf hs hd (fun _ _ _ h => h)
          simpa using this
        | true =>
          have hany := hD _ id ops N s o s' m hC hF hN hdst (by simpa using hg.2) h1 (h2 rfl).1 (h2 rfl).2 g w a ht hw hf hs hd
          cases hl with
          | refl => exact wp_region_any hC.mixed hany
          | region _ _ ops0 hp => exact wp_region_any hC.mixed (perm_region hp hany)
      case seq x y =>
        have hl' : ∃ x0 y0, c0 = .seq x0 y0 ∧ CLike x x0 ∧ CLike y y0 := by
          cases hl with
          | refl => exact ⟨_, _, rfl, .refl _, .refl _⟩
          | seq h k => exact ⟨_, _, rfl, h, k⟩
        obtain ⟨x0, y0, rfl, hlx, hly⟩ := hl'
        simp only [goodC, Bool.and_eq_true] at hg
        rcases seqK_inv e with ⟨s1, h1, h2⟩ | ⟨h1, hno⟩
        · have n2 := hr.next _ _ _ _ h2
          refine wp_then (hr.wp N x x0 s _ s1 hlx hN h1 hg.1 g w a ht hw (hf.left n2) hs hd) ?_ (fun h => absurd rfl h)
          intro _ a' w' g' q1 q2 q3 q4 q5
          exact wp_mono (hr.wp N y y0 s1 o s' hly hN h2 hg.2 g' w' a' q5 q3 (hf.right q4) q1 q2) (fun _ _ _ r => r.weaken q4)
        · exact wp_then (hr.wp N x x0 s o s' hlx hN h1 hg.1 g w a ht hw hf hs hd) (fun h => absurd h hno) (fun _ _ _ _ r => r)
      case cond x y z =>
        have hl' : ∃ y0 z0, c0 = .cond x y0 z0 ∧ CLike y y0 ∧ CLike z z0 := by
          cases hl with
          | refl => exact ⟨_, _, rfl, .refl _, .refl _⟩
          | cond t h k => exact ⟨_, _, rfl, h, k⟩
        obtain ⟨y0, z0, rfl, hly, hlz⟩ := hl'
        simp only [goodC, Bool.and_eq_true] at hg
        obtain ⟨t, h0, h1⟩ := condK_inv e (by simp)
        have hv := ((opd_rel ht h0).bool_iff t).2 rfl
        refine wp_cond hv ?_
        cases t with
        | true => exact hr.wp N y y0 s o s' hly hN (by simpa using h1) hg.1 g w a ht hw hf hs hd
        | false => exact hr.wp N z z0 s o s' hlz hN (by simpa using h1) hg.2 g w a ht hw hf hs hd
      case block id x =>
        have hl' : ∃ x0, c0 = .block id x0 ∧ CLike x x0 := by
          cases hl with
          | refl => exact ⟨_, rfl, .refl _⟩
          | block id h => exact ⟨_, rfl, h⟩
        obtain ⟨x0, rfl, hlx⟩ := hl'
        obtain ⟨o1, h1, h2⟩ := blockK_inv e
        simp only [goodC] at hg
        refine wp_block (wp_mono (hr.wp N x x0 s o1 s' hlx hN h1 hg g w a ht hw hf hs hd) ?_)
        rintro e' a' w' r
        rcases h2 with ⟨rfl, rfl⟩ | ⟨rfl, hno⟩
        · obtain ⟨g', q1, q2, q3, q4, rfl, q5⟩ := r
          simp only [Exit.inBlock, if_true]
          exact ⟨g', q1, q2, q3, q4, rfl, q5⟩
        · have hr' := r
          obtain ⟨g', q1, q2, q3, q4, q5⟩ := r
          cases o1 with
          | norm => obtain ⟨rfl, _⟩ := q5; exact hr'
          | exit i =>
            obtain ⟨rfl, _⟩ := q5
            have : i ≠ id := fun h => hno (by rw [h])
            simp only [Exit.inBlock, if_neg this]
            exact hr'
          | ret => obtain ⟨rfl, _⟩ := q5; exact hr'
          | panic v => obtain ⟨v', _, rfl⟩ := q5; exact hr'
      case loop x =>
        have hl' : ∃ x0, c0 = .loop x0 ∧ CLike x x0 := by
          cases hl with
          | refl => exact ⟨_, rfl, .refl _⟩
          | loop h => exact ⟨_, rfl, h⟩
        obtain ⟨x0, rfl, hlx⟩ := hl'
        simp only [goodC] at hg
        intro b k cs
        obtain ⟨e1, a1, w1, r1, q1⟩ := loop_first hr hlx hN e hg g w a ht hw hf hs hd b k cs
        exact ⟨e1, a1, w1, r1, .of_steps (Steps.one step_loop) q1⟩
    · intro N c c0 s o s' hl hN e hg g w a ht hw hf hs hd b k cs
      rw [evCode_succ] at e
      simp only [evStep, evSel, c_loop] at e
      exact loop_first hr hl hN e hg g w a ht hw hf hs hd b k cs

end
end Ev
namespace Ev
open Go

section
variable {C : Ctx} {P : Program}

def trapW (C : Ctx) (w : World) : World := w.alloc (.cells #[.int .i64 0] C.ern)

/-- what trap.Run does, whatever function it is handed. -/
def TrapSpec (C : Ctx) (P : Program) : Prop :=
  ∀ (f : FuncId) (first cap : Array Value) (w : World) (Q : Ending → World → Prop),
    (callFunc f (first ++ cap)).run P (trapW C w) = .ok (.enter f (first ++ cap)) (trapW C w) →
    Calls P f (first ++ cap) (trapW C w) Q →
    (∀ e w', Q e w' → ((∃ v, e = .returned v) ∨ ∃ k n, e = .panicked [{ v := .iface C.ern (.int k n), recovered := false }]) ∧
      w'.heap[w.heap.size]? = some (.cells #[.int .i64 0] C.ern)) →
    (callFunc C.run #[.func (.func f) first cap]).run P w = .ok (.enter C.run #[.func (.func f) first cap]) w ∧
    Calls P C.run #[.func (.func f) first cap] w fun e w'' => ∃ e0 w', Q e0 w' ∧
      ((∃ v, e0 = .returned v ∧ e = .returned (.int .i64 0) ∧ w'' = w'.setCell ⟨w.heap.size, 0, none⟩ (.int .i64 0)) ∨
       (∃ k n, e0 = .panicked [{ v := .iface C.ern (.int k n), recovered := false }] ∧ e = .returned (.int k n) ∧ w'' = w'.setCell ⟨w.heap.size, 0, none⟩ (.int k n)))

theorem BR.of_blk {g : Gh} {B : Blk} {x : GB} {w w' : World} (h : w'.heap[x.b]? = w.heap[x.b]?) (b : BR g B x w) : BR g B x w' := by
  obtain ⟨⟨c, el, fr, q1, q2, q3, q4⟩, a1, a2, a3, a4⟩ := b
  exact ⟨⟨c, el, fr, by rw [h]; exact q1, q2, q3, q4⟩, a1, a2, a3, a4⟩

theorem WR.of_blks {g : Gh} {h : Hp} {w w' : World} (hb : Base w') (e : ∀ i B x, h.m.get i = some B → g i = some x → w'.heap[x.b]? = w.heap[x.b]?) (r : WR g h w) : WR g h w' := by
  obtain ⟨r1, r2, r3, r4, _, r6⟩ := r
  refine ⟨?_, r2, r3, r4, hb, r6⟩
  intro i B hi
  obtain ⟨x, hx, hb⟩ := r1 i B hi
  exact ⟨x, hx, hb.of_blk (e i B x hi hx)⟩

theorem trapW_old (w : World) {b : Nat} (hb : b < w.heap.size) : (trapW C w).heap[b]? = w.heap[b]? := by
  simp only [trapW, World.alloc]
  rw [Array.getElem?_push, if_neg (by omega)]

theorem trapW_base {w : World} (hb : Base w) : Base (trapW C w) := by
  have hs : (trapW C w).heap.size = w.heap.size + 1 := Array.size_push _
  exact hb.keep (by omega) (fun i hi => trapW_old w (Nat.lt_of_lt_of_le hi hb.size))

theorem trap_wrap {g g' : Gh} {h h' : Hp} {w w' : World} (hw : WR g h w) (hw' : WR g' h' w') (x : Ext g h (trapW C w) g' h' w') (v : Value) :
    WR g' h' (w'.setCell ⟨w.heap.size, 0, none⟩ v) ∧ Ext g h w g' h' (w'.setCell ⟨w.heap.size, 0, none⟩ v) ∧
    w'.heap[w.heap.size]? = some (.cells #[.int .i64 0] C.ern) := by
  have hlt : ∀ i B y, h.m.get i = some B → g i = some y → y.b < w.heap.size := by
    intro i B y hi hy
    obtain ⟨y', hy', hb⟩ := hw.live i B hi
    rw [hy] at hy'; cases hy'
    exact hb.lt
  have hsz : (trapW C w).heap.size = w.heap.size + 1 := Array.size_push _
  have hne : ∀ i B y, h'.m.get i = some B → g' i = some y → y.b ≠ w.heap.size := by
    intro i B y hi hy
    rcases x.img i B y hi hy with ⟨j, B', z, q1, q2, q3⟩ | q
    · have := hlt j B' z q1 q2; omega
    · omega
  refine ⟨hw'.of_blks (hw'.base.keep (by simp [World.setCell]) (fun i hi => heap_setCell_ne v i (by have := hw.base.size; omega))) ?_, ⟨x.ge, x.new, ?_, ?_, ?_, x.next, ?_, ?_⟩, ?_⟩
  · intro i B y hi hy
    exact heap_setCell_ne v _ (hne i B y hi hy)
  · intro b hb hno
    rw [heap_setCell_ne v b (by omega), x.keep b (by omega) hno, trapW_old w hb]
  · intro i B y hi hy
    rcases x.img i B y hi hy with q | q
    · exact .inl q
    · exact .inr (by omega)
  · have := x.size
    simp only [World.setCell, Array.size_modify]
    omega
  · exact x.os
  · exact x.out
  · rw [x.keep _ (by omega) (fun i B y hi hy => by have := hlt i B y hi hy; omega)]
    exact Array.getElem?_push_size

theorem trapK_inv {x : Option (Ret × Hp)} {r : Ret} {h' : Hp} (e : trapK C x = some (r, h')) :
    (∃ v, x = some (.ret v, h') ∧ r = .ret (.int .i64 0)) ∨ (∃ k n, x = some (.panic (.iface C.ern (.int k n)), h') ∧ r = .ret (.int k n)) := by
  unfold trapK at e
  split at e
  · cases e; exact .inl ⟨_, rfl, rfl⟩
  · rename_i ty k n h1
    cases hb : Nat.beq ty C.ern with
    | false => rw [hb] at e; cases e
    | true =>
      rw [hb] at e; cases e
      rw [Nat.eq_of_beq_eq_true hb]
      exact .inr ⟨k, n, rfl, rfl⟩
  · cases e

theorem callG_ok (hC : CtxOk C P) (hFn : FnsOk C P) (hTrap : TrapSpec C P) {ev : Code → St → Option (Out × St)} (hr : RecOk P ev) : FOk P (callG C ev) := by
  intro f args h r h' e
  unfold callG at e
  cases hb : Nat.beq f C.run with
  | false =>
    rw [hb] at e
    exact callBody_ok hC hFn hr f args h r h' e
  | true =>
    rw [hb] at e
    simp only [cond_true] at e
    have hf := Nat.eq_of_beq_eq_true hb
    subst hf
    split at e
    · rename_i gf first cap hargs
      cases hh : hasBody C gf with
      | false => rw [hh] at e; cases e
      | true =>
        rw [hh] at e
        simp only [cond_true] at e
        have hbody : ∃ fn c, C.fn.get gf = some fn ∧ fn.body = some c := by
          unfold hasBody at hh
          split at hh
          · rename_i fn hfn
            obtain ⟨c, hc⟩ := Option.isSome_iff_exists.1 hh
            exact ⟨fn, c, hfn, hc⟩
          · cases hh
        obtain ⟨fn, c, hfn, hc⟩ := hbody
        have main : ∀ r0, callBody C ev gf (first ++ cap) h = some (r0, h') → ((∃ v, r0 = .ret v ∧ r = .ret (.int .i64 0)) ∨ (∃ k n, r0 = .panic (.iface C.ern (.int k n)) ∧ r = .ret (.int k n))) →
            h.next ≤ h'.next ∧ CallOk P C.run args h r h' := by
          intro r0 e0 hcase
          obtain ⟨hn, hcall⟩ := callBody_ok hC hFn hr gf (first ++ cap) h r0 h' e0
          refine ⟨hn, ?_⟩
          intro g w args' ha hw hfr
          rw [hargs] at ha
          have hargs' : ∃ first' cap', args' = #[.func (.func gf) first' cap'] ∧ VRL g first.toList first'.toList ∧ VRL g cap.toList cap'.toList := by
            generalize hl : args'.toList = l at ha
            cases ha with
            | cons h1 t1 =>
              cases t1
              obtain ⟨f', c', q1, q2, q3⟩ := h1.func_inv
              refine ⟨f', c', ?_, q2, q3⟩
              apply Array.ext'
              rw [hl, q1]
          obtain ⟨first', cap', rfl, r1, r2⟩ := hargs'
          have hlt : ∀ i B y, h.m.get i = some B → g i = some y → y.b < w.heap.size := by
            intro i B y hi hy
            obtain ⟨y', hy', hb⟩ := hw.live i B hi
            rw [hy] at hy'; cases hy'
            exact hb.lt
          have hw1 : WR g h (trapW C w) := hw.of_blks (trapW_base hw.base) (fun i B x hi hx => trapW_old w (hlt i B x hi hx))
          have hargs2 : VRL g (first ++ cap).toList (first' ++ cap').toList := by
            simp only [Array.toList_append]
            exact r1.append r2
          rcases hcall g (trapW C w) (first' ++ cap') hargs2 hw1 hfr with ⟨q1, q2⟩ | ⟨v, v', _, _, _, q1⟩
          · obtain ⟨t1, t2⟩ := hTrap gf first' cap' w _ q1 q2 (by
              rintro e' w' ⟨g', s1, s2, s3⟩
              obtain ⟨_, _, s4⟩ := trap_wrap hw s1 s2 (.int .i64 0)
              refine ⟨?_, s4⟩
              rcases hcase with ⟨v, rfl, _⟩ | ⟨k, n, rfl, _⟩
              · obtain ⟨v', _, rfl⟩ := s3
                exact .inl ⟨v', rfl⟩
              · obtain ⟨v', hv, rfl⟩ := s3
                obtain ⟨u, rfl, hu⟩ := hv.iface_inv
                rw [hu.int_inv]
                exact .inr ⟨k, n, rfl⟩)
            refine .inl ⟨t1, t2.mono ?_⟩
            rintro e' w'' ⟨e0', w', ⟨g', s1, s2, s3⟩, hh⟩
            rcases hcase with ⟨v, rfl, rfl⟩ | ⟨k, n, rfl, rfl⟩
            · obtain ⟨v', _, rfl⟩ := s3
              rcases hh with ⟨_, _, rfl, rfl⟩ | ⟨_, _, hx, _⟩
              · obtain ⟨p1, p2, _⟩ := trap_wrap hw s1 s2 (.int .i64 0)
                exact ⟨g', p1, p2, _, VR.int _ _, rfl⟩
              · cases hx
            · obtain ⟨v', hv, rfl⟩ := s3
              obtain ⟨u, rfl, hu⟩ := hv.iface_inv
              have := hu.int_inv
              subst this
              rcases hh with ⟨_, hx, _⟩ | ⟨k', n', hx, rfl, rfl⟩
              · cases hx
              · cases hx
                obtain ⟨p1, p2, _⟩ := trap_wrap hw s1 s2 (.int k n)
                exact ⟨g', p1, p2, _, VR.int _ _, rfl⟩
          · rw [callFunc_enter hC hfn hc] at q1
            cases q1
        rcases trapK_inv e with ⟨v, q1, q2⟩ | ⟨k, n, q1, q2⟩
        · exact main _ q1 (.inl ⟨v, rfl, q2⟩)
        · exact main _ q1 (.inr ⟨k, n, rfl, q2⟩)
    · cases e

/-- the oracle is asked first. -/
theorem callF_ok (hC : CtxOk C P) (hFn : FnsOk C P) (hTrap : TrapSpec C P) (hO : FOk P C.orc) {ev : Code → St → Option (Out × St)} (hr : RecOk P ev) : FOk P (callF C ev) := by
  intro f args h r h' e
  unfold callF at e
  cases ho : C.orc f args h with
  | none => rw [ho] at e; exact callG_ok hC hFn hTrap hr f args h r h' e
  | some x =>
    rw [ho] at e
    simp only [orK] at e
    cases e
    exact hO f args h r h' ho

theorem evCode_sound (hC : CtxOk C P) (hFn : FnsOk C P) (hTrap : TrapSpec C P) (hO : FOk P C.orc) (hD : DrawnSound C P) (n : Nat) : RecOk P (evCode C n) :=
  evCode_ok hC hD (fun _ hr => callF_ok hC hFn hTrap hO hr) n

theorem evFn_sound (hC : CtxOk C P) (hFn : FnsOk C P) (hTrap : TrapSpec C P) (hO : FOk P C.orc) (hD : DrawnSound C P) (n : Nat) : FOk P (evFn C n) :=
  callF_ok hC hFn hTrap hO (evCode_sound hC hFn hTrap hO hD n)

end
end Ev
