import Derived.Test.YtjgbkacigiidmaaGreatEvH
namespace Ev
open Go

section
variable {C : Ctx} {P : Program} {g : Gh} {h h' : Hp} {w : World} {t : Tr Value} {a : Act}

theorem shift_cl {op : BinOp} {k k' : IntKind} {x y : Int} {v : Value} (h : pureOf (Op.shift op k x k' y) = some v) : closedV v = true := by
  unfold Op.shift at h
  split at h
  · simp [runtimePanic, bind, Sem.bind, program, pureOf] at h
  · cases op <;> simp [pureOf, pure, stuck] at h <;> (subst h; rfl)

theorem intDiv_cl {op : BinOp} {k : IntKind} {x y : Int} {v : Value} (h : pureOf (Op.intDiv op k x y) = some v) : closedV v = true := by
  unfold Op.intDiv at h
  split at h
  · simp [runtimePanic, bind, Sem.bind, program, pureOf] at h
  · cases op <;> simp [pureOf, pure, stuck] at h <;> (subst h; rfl)

theorem intBits_cl {op : BinOp} {k : IntKind} {x y : Int} {v : Value} (h : pureOf (Op.intBits op k x y) = some v) : closedV v = true := by
  unfold Op.intBits at h
  cases op <;> simp [pureOf, pure, stuck] at h <;> (subst h; rfl)

theorem intCmp_cl {op : BinOp} {x y : Int} {v : Value} (h : pureOf (Op.intCmp op x y) = some v) : closedV v = true := by
  unfold Op.intCmp at h
  cases op <;> simp [pureOf, pure, stuck] at h <;> (subst h; rfl)

theorem floatCmp_cl {op : BinOp} {k : FloatKind} {x y : Nat} {v : Value} (h : pureOf (Op.floatCmp op k x y) = some v) : closedV v = true := by
  unfold Op.floatCmp at h
  cases op <;> simp [pureOf, pure, stuck] at h <;> (subst h; rfl)

theorem stringOp_cl {op : BinOp} {x y : ByteArray} {v : Value} (h : pureOf (Op.stringOp op x y) = some v) : closedV v = true := by
  unfold Op.stringOp at h
  cases op <;> simp only at h
  case add =>
    split at h
    · simp [pureOf, unsupported] at h
    · simp [pureOf, pure] at h; subst h; rfl
  all_goals (simp [pureOf, pure, stuck] at h <;> (subst h; rfl))

theorem eqGuard_int {op : BinOp} {ty : TypeId} {ox oy : Operand} {k k' : IntKind} {x y : Int} :
    (eqGuard op ty ox oy (.int k x) (.int k' y)).run P w = .ok () w := by cases op <;> simp [eqGuard]
theorem eqGuard_float {op : BinOp} {ty : TypeId} {ox oy : Operand} {k k' : FloatKind} {x y : Nat} :
    (eqGuard op ty ox oy (.float k x) (.float k' y)).run P w = .ok () w := by cases op <;> simp [eqGuard]
theorem eqGuard_string {op : BinOp} {ty : TypeId} {ox oy : Operand} {x y : ByteArray} :
    (eqGuard op ty ox oy (.string x) (.string y)).run P w = .ok () w := by cases op <;> simp [eqGuard]

theorem binInt_ok {op : BinOp} {ty : TypeId} {k k' : IntKind} {x y : Int} {v : Value} (e : binV C op ty (.int k x) (.int k' y) = some v) :
    (binOp op ty (.int k x) (.int k' y)).run P w = .ok v w ∧ closedV v = true := by
  simp only [binV] at e
  cases op
  case shl => exact ⟨pureOf_run e, shift_cl e⟩
  case shr => exact ⟨pureOf_run e, shift_cl e⟩
  all_goals
    simp only at e
    split at e
    case isFalse => cases e
    case isTrue hk =>
      subst hk
      simp only [binOp, ne_eq, not_true_eq_false, if_false]
      first
        | (simp only [Option.some.injEq] at e; subst e; exact ⟨by simp [Op.intArith, wrapF_eq], rfl⟩)
        | exact ⟨pureOf_run e, intDiv_cl e⟩
        | exact ⟨pureOf_run e, intBits_cl e⟩
        | exact ⟨pureOf_run e, intCmp_cl e⟩

theorem binFloat_ok {op : BinOp} {ty : TypeId} {k k' : FloatKind} {x y : Nat} {v : Value} (e : binV C op ty (.float k x) (.float k' y) = some v) :
    (binOp op ty (.float k x) (.float k' y)).run P w = .ok v w ∧ closedV v = true := by
  simp only [binV] at e
  split at e
  · rename_i hk; subst hk
    cases op <;> simp only at e <;> first
      | (cases e; done)
      | (simp only [binOp, ne_eq, not_true_eq_false, if_false]; exact ⟨pureOf_run e, floatCmp_cl e⟩)
  · cases e

theorem binString_ok {op : BinOp} {ty : TypeId} {x y : ByteArray} {v : Value} (e : binV C op ty (.string x) (.string y) = some v) :
    (binOp op ty (.string x) (.string y)).run P w = .ok v w ∧ closedV v = true := by
  simp only [binV] at e
  have hb : binOp op ty (.string x) (.string y) = Op.stringOp op x y := by cases op <;> rfl
  rw [hb]
  exact ⟨pureOf_run e, stringOp_cl e⟩

theorem bin_ok (hC : CtxOk C P) {op : BinOp} {ty : TypeId} {x y x' y' v : Value} {ox oy : Operand} (hx : VR g x x') (hy : VR g y y') (e : binV C op ty x y = some v) :
    ∃ v', (do eqGuard op ty ox oy x' y'; binOp op ty x' y' : Sem Value).run P w = .ok v' w ∧ VR g v v' := by
  by_cases hp : plainPair x y = true
  · have hp' : plainPair x' y' = true := by rw [plainPair_rel hx hy]; exact hp
    have e' : (match op with
      | .eql => (eqTop C ty x y).map .bool
      | .neq => (eqTop C ty x y).map fun b => .bool !b
      | _ => none) = some v := by
      unfold binV at e
      split at e
      · simp [plainPair] at hp
      · simp [plainPair] at hp
      · simp [plainPair] at hp
      · cases op <;> exact e
    cases op <;> simp only at e' <;> first
      | (cases e'; done)
      | skip
    · simp only [Option.map_eq_some_iff] at e'
      obtain ⟨b, hb, rfl⟩ := e'
      obtain ⟨h1, h2⟩ := eqTop_ok (P := P) (w := w) hC (.inl rfl) (ox := ox) (oy := oy) hx hy hb
      exact ⟨.bool b, by simp [h2, binOp_eql hp', h1], .bool b⟩
    · simp only [Option.map_eq_some_iff] at e'
      obtain ⟨b, hb, rfl⟩ := e'
      obtain ⟨h1, h2⟩ := eqTop_ok (P := P) (w := w) hC (.inr rfl) (ox := ox) (oy := oy) hx hy hb
      exact ⟨.bool !b, by simp [h2, binOp_neq hp', h1], .bool _⟩
  · cases x <;> cases y <;> simp [plainPair] at hp
    · rw [hx.int_inv, hy.int_inv]
      obtain ⟨h1, h2⟩ := binInt_ok (P := P) (w := w) e
      exact ⟨v, by simp [eqGuard_int, h1], VR.of_closed h2⟩
    · rw [hx.float_inv, hy.float_inv]
      obtain ⟨h1, h2⟩ := binFloat_ok (P := P) (w := w) e
      exact ⟨v, by simp [eqGuard_float, h1], VR.of_closed h2⟩
    · cases hx
    · rw [hx.string_inv, hy.string_inv]
      obtain ⟨h1, h2⟩ := binString_ok (P := P) (w := w) e
      exact ⟨v, by simp [eqGuard_string, h1], VR.of_closed h2⟩

theorem un_ok {op : UnOp} {x : Option Value} {x' v : Value} (hx : ∀ u, x = some u → VR g u x') (e : unV op x = some v) : ∃ v', (Op.unary op x').run P w = .ok v' w ∧ VR g v v' := by
  unfold unV at e
  split at e
  · rw [(hx _ rfl).bool_inv]
    cases op <;> simp only at e <;> first | (cases e; done) | skip
    cases e; exact ⟨_, by simp [Op.unary], .bool _⟩
  · rw [(hx _ rfl).int_inv]
    cases op <;> simp only at e <;> first | (cases e; done) | skip
    cases e; exact ⟨_, by simp [Op.unary, Op.intArith, wrapF_eq], .int _ _⟩
  · rw [(hx _ rfl).float_inv]
    cases op <;> simp only at e <;> first | (cases e; done) | skip
    cases e; exact ⟨_, by simp [Op.unary], .float _ _⟩
  · cases e

end
end Ev
