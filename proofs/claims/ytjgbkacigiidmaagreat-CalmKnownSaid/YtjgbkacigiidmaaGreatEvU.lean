import Derived.Test.YtjgbkacigiidmaaGreatEvS
import Derived.Orders
namespace Ev
open Go

def dstOk (N : Nat) (ops : Array Oper) : Bool := ops.all fun o => match o.dst with | some d => Nat.blt d N | none => true

/-- what must be so of a drawn region, whatever it meets. -/
def reads (ops : Array Oper) (o : Oper) : List Tmp := o.looksAt ops

def pairOk (ops : Array Oper) (bef : Array Nat) (i j : Nat) (x y : Oper) : Bool :=
  -- i < j: x at i, y at j
  (match x.dst with
   | some d => !((reads ops y).contains d) || (bef.getD j 0).testBit i
   | none => true) &&
  (match y.dst with
   | some d => !((reads ops x).contains d) || (bef.getD j 0).testBit i
   | none => true) &&
  (x.dst.isNone || x.dst != y.dst) &&
  (!(isWriter x && isWriter y) || (bef.getD j 0).testBit i)

def makes (o : Oper) : Bool :=
  match o.op with
  | .alloc _ | .box .. | .buildSlice .. | .makeSlice .. | .convert .. => true
  | _ => false

def drawGood (ops : Array Oper) : Bool :=
  let bef := Region.before ops
  let l := ops.toList.zipIdx
  Region.noSelect ops &&
  (l.all fun (o, i) => o.after.all fun e => !Region.binds .any e || Nat.blt e.on i) &&
  (l.all fun (y, j) => l.all fun (x, i) => !Nat.blt i j || (pairOk ops bef i j x y && (!(makes x && isWriter y) || (bef.getD j 0).testBit i)))

def goodC (N : Nat) : Code → Bool
  | .region _ ops draw => dstOk N ops && (!draw || drawGood ops)
  | .seq a b => goodC N a && goodC N b
  | .cond _ a b => goodC N a && goodC N b
  | .block _ a => goodC N a
  | .loop a => goodC N a
  | .skip | .exit _ | .ret => true
  | _ => false

theorem dstOk_spec {N : Nat} {ops : Array Oper} (h : dstOk N ops = true) (j : Nat) (o : Oper) (d : Nat) (ho : ops[j]? = some o) (hd : o.dst = some d) : d < N := by
  have := Array.all_eq_true_iff_forall_mem.1 h o (Array.mem_of_getElem? ho)
  rw [hd] at this
  simpa [Nat.blt_eq] using this

section
variable {C : Ctx} {P : Program}

/-- what the proof of a drawn region has to give. -/
def DrawnSound (C : Ctx) (P : Program) : Prop :=
  ∀ (F : CallF) (id : Nat) (ops : Array Oper) (N : Nat) (s : St) (o : Out) (s' : St) (m : Met), CtxOk C P → FOk P F → N ≤ 4000 →
    (∀ (j : Nat) (o : Oper) d, ops[j]? = some o → o.dst = some d → d < N) → drawGood ops = true →
    evOps C F ops.toList true ops.toList 0 s ⟨[], []⟩ = some (o, s', m) → drawnOk ops s.h m = true →
    ∀ (g : Gh) (w : World) (a : Act), TR g s.t a.tmps → WR g s.h w → Fr g s.h s'.h → a.tmps.size = N → a.defers = [] →
    (Code.region id ops true).wp P (fun e a' w' => OutRel g s.h w N o s' e a' w') a w

/-- a recursion that is good for code of frames of size N. -/
structure RecOk (P : Program) (ev : Code → St → Option (Out × St)) : Prop where
  next : ∀ c s o s', ev c s = some (o, s') → s.h.next ≤ s'.h.next
  wp : ∀ (N : Nat) c s o s', N ≤ 4000 → ev c s = some (o, s') → goodC N c = true → ∀ (g : Gh) (w : World) (a : Act), TR g s.t a.tmps → WR g s.h w → Fr g s.h s'.h → a.tmps.size = N → a.defers = [] →
    c.wp P (fun e a' w' => OutRel g s.h w N o s' e a' w') a w
  loop : ∀ (N : Nat) c s o s', N ≤ 4000 → ev (.loop c) s = some (o, s') → goodC N c = true → ∀ (g : Gh) (w : World) (a : Act), TR g s.t a.tmps → WR g s.h w → Fr g s.h s'.h → a.tmps.size = N → a.defers = [] →
    ∀ (b : Frame) (k : List Item) (cs : List Frame), ∃ e a' w', OutRel g s.h w N o s' e a' w' ∧ Arrives P (lone (b.at a (.code c :: .inLoop c :: k)) cs w) b k cs e a' w'

theorem evCode_zero (c : Code) (s : St) : evCode C 0 c s = none := rfl
theorem evCode_succ (n : Nat) (c : Code) (s : St) : evCode C (n + 1) c s = evStep C (evCode C n) c s := rfl

theorem OutRel.norm_inv {g : Gh} {h : Hp} {w : World} {N : Nat} {s' : St} {e : Exit} {a' : Act} {w' : World} (r : OutRel g h w N .norm s' e a' w') :
    e = .normal ∧ ∃ g', a'.tmps.size = N ∧ a'.defers = [] ∧ WR g' s'.h w' ∧ Ext g h w g' s'.h w' ∧ TR g' s'.t a'.tmps :=
  let ⟨g', q1, q2, q3, q4, q5, q6⟩ := r
  ⟨q5, g', q1, q2, q3, q4, q6⟩

theorem OutRel.ne_norm {g : Gh} {h : Hp} {w : World} {N : Nat} {o : Out} {s' : St} {e : Exit} {a' : Act} {w' : World} (r : OutRel g h w N o s' e a' w') (ho : o ≠ .norm) : e ≠ .normal := by
  obtain ⟨g', q1, q2, q3, q4, q5⟩ := r
  cases o with
  | norm => exact absurd rfl ho
  | exit id => rw [q5.1]; intro h; cases h
  | ret => rw [q5.1]; intro h; cases h
  | panic v => obtain ⟨v', _, rfl⟩ := q5; intro h; cases h

theorem wp_then {x y : Code} {g : Gh} {h : Hp} {w : World} {N : Nat} {a : Act} {Q : Exit → Act → World → Prop} {o : Out} {s1 : St}
    (h1 : x.wp P (fun e a' w' => OutRel g h w N o s1 e a' w') a w)
    (hn : o = .norm → ∀ a' w' g', a'.tmps.size = N → a'.defers = [] → WR g' s1.h w' → Ext g h w g' s1.h w' → TR g' s1.t a'.tmps → y.wp P Q a' w')
    (ho : o ≠ .norm → ∀ e a' w', OutRel g h w N o s1 e a' w' → Q e a' w') : (Code.seq x y).wp P Q a w := by
  refine wp_seq (wp_mono h1 ?_)
  intro e a' w' r
  by_cases hno : o = .norm
  · subst hno
    obtain ⟨rfl, g', q1, q2, q3, q4, q5⟩ := r.norm_inv
    exact hn rfl a' w' g' q1 q2 q3 q4 q5
  · have := r.ne_norm hno
    cases e <;> first | exact absurd rfl this | exact ho hno _ _ _ r

/-- calls, by the recursion. -/
theorem resOf_ok (hC : CtxOk C P) {g : Gh} {s : St} {w : World} {tm : Array Value} (ht : TR g s.t tm) (hw : WR g s.h w) : ∀ {rs : List ResultVar} {vs : List Value}, resOf C s rs = some vs →
    ∃ vs', (rs.mapM fun (r : ResultVar) => (match r with
      | .tmp t => pure (tm.getD t undef)
      | .cell a t => do loadVar t (← asAddr (tm.getD a undef)) : Sem Value)).run P w = .ok vs' w ∧ VRL g vs vs'
  | [], vs, e => by simp [resOf] at e; subst e; exact ⟨[], by simp, .nil⟩
  | .tmp x :: l, vs, e => by
    simp only [resOf, Option.map_eq_some_iff] at e
    obtain ⟨vs0, h0, rfl⟩ := e
    obtain ⟨vs', h1, h2⟩ := resOf_ok hC ht hw h0
    exact ⟨tm.getD x undef :: vs', by rw [List.mapM_cons]; simp only [Sem.run_bind, Sem.run_pure, Result.andThen_ok, h1], .cons (ht x) h2⟩
  | .cell ad ty :: l, vs, e => by
    simp only [resOf] at e
    split at e
    · rename_i v r h0 h1
      cases e
      obtain ⟨vs', q1, q2⟩ := resOf_ok hC ht hw h1
      obtain ⟨v', p1, p2⟩ := load_ok (P := P) hw (ht ad) hC h0
      refine ⟨v' :: vs', ?_, .cons p2 q2⟩
      have hp : (do loadVar ty (← asAddr (tm.getD ad undef)) : Sem Value).run P w = .ok v' w := by
        have hr := ht ad
        unfold loadV at h0
        split at h0
        · rename_i b off hgt
          rw [hgt] at hr
          obtain ⟨_, x, hx, hv⟩ := hr.ptr_inv
          rw [hv] at p1 ⊢
          simpa [Instr.loadAt, Instr.sureAddr, asAddr] using p1
        · cases h0
      rw [List.mapM_cons]
      simp only [Sem.run_bind] at hp
      simp only [Sem.run_bind, q1, Result.andThen_ok, Sem.run_pure, hp]
    · cases e

theorem results_ok (hC : CtxOk C P) {g : Gh} {s : St} {w : World} {fn : Func} {tm : Array Value} {v : Value} (ht : TR g s.t tm) (hw : WR g s.h w) (e : resV C s fn.results.toList = some v) :
    ∃ v', (results fn tm).run P w = .ok v' w ∧ VR g v v' := by
  unfold resV at e
  have key : ∀ {vs}, resOf C s fn.results.toList = some vs → ∃ vs' : List Value, (results fn tm).run P w = .ok (if h : vs'.toArray.size = 1 then vs'.toArray[0] else .tuple vs'.toArray) w ∧ VRL g vs vs' := by
    intro vs h
    obtain ⟨vs', q1, q2⟩ := resOf_ok (P := P) hC ht hw h
    refine ⟨vs', ?_, q2⟩
    unfold results
    rw [Sem.run_bind, Array.mapM_eq_mapM_toList, Sem.run_map]
    refine Eq.trans (congrArg (fun r : Result (List Value) => (r.andThen fun a w' => Result.ok a.toArray w').andThen fun a w' => Sem.run P (pure (if h : a.size = 1 then a[0] else Value.tuple a)) w') q1) ?_
    rfl
  split at e
  · rename_i u hu
    cases e
    obtain ⟨vs', q1, q2⟩ := key hu
    cases q2 with
    | cons h1 t1 => cases t1; exact ⟨_, q1, by simpa using h1⟩
  · rename_i l hne hl
    cases e
    obtain ⟨vs', q1, q2⟩ := key hl
    refine ⟨_, q1, ?_⟩
    have hlen := q2.length
    have : ¬ vs'.toArray.size = 1 := by
      intro h
      have h1 : vs'.length = 1 := by simpa using h
      cases l with
      | nil => simp at hlen; omega
      | cons x l =>
        cases l with
        | nil => exact hne x rfl
        | cons y l => simp at hlen; omega
    rw [dif_neg this]
    exact .tuple _ _ (by simpa using q2)
  · cases e

end
end Ev
