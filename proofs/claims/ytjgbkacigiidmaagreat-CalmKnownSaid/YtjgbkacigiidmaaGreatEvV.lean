import Derived.Test.YtjgbkacigiidmaaGreatEvU
namespace Ev
open Go

section
variable {C : Ctx} {P : Program}

/-- the functions of the program, as the evaluator has them. -/
structure FnsOk (C : Ctx) (P : Program) : Prop where
  good : ∀ f fn c, C.fn.get f = some fn → fn.body = some c → goodC fn.ntmps c = true ∧ fn.ntmps ≤ 4000
  ext : ∀ f fn args v, C.fn.get f = some fn → fn.body = none → extV C f args = some v → ∀ w : World, (callFunc f args).run P w = .ok (.value v) w

theorem initT_get : ∀ (l : List Value) (i : Nat) (t : Tr Value) (x : Nat), i + l.length ≤ 4000 →
    getT (initT l i t) x = if i ≤ x ∧ x < i + l.length then l.getD (x - i) undef else getT t x
  | [], i, t, x, _ => by simp only [initT, List.length_nil]; rw [if_neg (by omega)]
  | v :: l, i, t, x, h => by
    simp only [initT]
    simp only [List.length_cons] at h ⊢
    rw [initT_get l (i + 1) _ x (by omega)]
    have hp : getT (Tr.set (some v) depthT t i) x = if x = i then v else getT t x := getT_putT (t := t) (d := i) (v := v) (by omega) x
    rw [hp]
    by_cases h1 : i + 1 ≤ x ∧ x < i + 1 + l.length
    · rw [if_pos h1, if_pos (by omega), show x - i = (x - (i + 1)) + 1 by omega]
      simp
    · rw [if_neg h1]
      by_cases h2 : x = i
      · subst h2; rw [if_pos rfl, if_pos (by omega)]; simp
      · rw [if_neg h2, if_neg (by omega)]

theorem initT_rel {g : Gh} {args args' : Array Value} {n : Nat} (h : VRL g args.toList args'.toList) (hn : args.size ≤ 4000) :
    TR g (initT args.toList 0 .nil) (args' ++ Array.replicate (n - args'.size) undef) := by
  intro x
  rw [initT_get _ _ _ _ (by simpa using hn)]
  have hlen := h.length
  simp only [Array.length_toList] at hlen
  simp only [Nat.zero_le, true_and, Nat.zero_add, Nat.sub_zero]
  by_cases hx : x < args.size
  · rw [if_pos (by simpa using hx)]
    obtain ⟨v', hv', r⟩ := h.get (k := x) (v := args[x]) (by simp [hx])
    have e1 : args.toList.getD x undef = args[x] := by simp [hx]
    have e2 : (args' ++ Array.replicate (n - args'.size) undef).getD x undef = v' := by
      rw [Array.getD_eq_getD_getElem?, Array.getElem?_append_left (by omega)]
      have : args'[x]? = some v' := by simpa using hv'
      rw [this]; rfl
    rw [e1, e2]
    exact r
  · rw [if_neg (by simpa using hx)]
    have e2 : (args' ++ Array.replicate (n - args'.size) undef).getD x undef = undef := by
      rw [Array.getD_eq_getD_getElem?, Array.getElem?_append_right (by omega)]
      rw [Array.getElem?_replicate]
      split <;> rfl
    rw [e2]
    exact VR.undef g

theorem callFunc_enter (hC : CtxOk C P) {f : FuncId} {fn : Func} {c : Code} (hf : C.fn.get f = some fn) (hb : fn.body = some c) (args : Array Value) (w : World) :
    (callFunc f args).run P w = .ok (.enter f args) w := by
  have h1 := hC.fn f fn hf
  have h2 := hC.name f fn hf
  have h3 : ¬ fn.name = "runtime.NumGoroutine" := by simpa using h2
  simp [callFunc, h1, h3, hb]

theorem extV_args {f : FuncId} {args args' : Array Value} {v : Value} {g : Gh} (h : VRL g args.toList args'.toList) (e : extV C f args = some v) : args' = args ∧ closedV v = true := by
  unfold extV at e
  split at e
  · rename_i b ha
    rw [ha] at h
    generalize hl : args'.toList = l at h
    cases h with
    | cons h1 t1 =>
      cases t1
      rw [h1.float_inv] at hl
      refine ⟨by apply Array.ext'; rw [hl, ha], ?_⟩
      cases hb : Nat.beq f C.fbits <;> rw [hb] at e <;> cases e
      rfl
  · rename_i b ha
    rw [ha] at h
    generalize hl : args'.toList = l at h
    cases h with
    | cons h1 t1 =>
      cases t1
      rw [h1.int_inv] at hl
      refine ⟨by apply Array.ext'; rw [hl, ha], ?_⟩
      cases hb : Nat.beq f C.ffrom <;> rw [hb] at e <;> cases e
      rfl
  · cases e

theorem callBody_ok (hC : CtxOk C P) (hFn : FnsOk C P) {ev : Code → St → Option (Out × St)} (hr : RecOk P ev) : FOk P (callBody C ev) := by
  intro f args h r h' e
  unfold callBody at e
  cases hf : C.fn.get f with
  | none => rw [hf] at e; cases e
  | some fn =>
    rw [hf] at e
    simp only at e
    cases hb : fn.body with
    | none =>
      rw [hb] at e
      simp only [Option.map_eq_some_iff] at e
      obtain ⟨v, hv, e⟩ := e
      cases e
      refine ⟨Nat.le_refl _, ?_⟩
      intro g w args' ha hw _
      obtain ⟨rfl, hcl⟩ := extV_args ha hv
      exact .inr ⟨v, v, rfl, rfl, VR.of_closed hcl, hFn.ext f fn _ v hf hb hv w⟩
    | some c =>
      rw [hb] at e
      simp only at e
      obtain ⟨hgood, h4⟩ := hFn.good f fn c hf hb
      cases hsz : Nat.ble args.size fn.ntmps with
      | false => rw [hsz] at e; cases e
      | true =>
      rw [hsz] at e
      simp only [cond_true] at e
      have hsz' : args.size ≤ fn.ntmps := by simpa [Nat.ble_eq] using hsz
      cases hev : ev c ⟨initT args.toList 0 .nil, h⟩ with
      | none => rw [hev] at e; cases e
      | some x =>
        obtain ⟨o, s1⟩ := x
        rw [hev] at e
        have hnx := hr.next _ _ _ _ hev
        have hh' : h' = s1.h := by
          cases o <;> simp only at e
          · simp only [Option.map_eq_some_iff] at e; obtain ⟨_, _, e⟩ := e; cases e; rfl
          · cases e
          · simp only [Option.map_eq_some_iff] at e; obtain ⟨_, _, e⟩ := e; cases e; rfl
          · cases e; rfl
        subst hh'
        refine ⟨hnx, ?_⟩
        intro g w args' ha hw hfr
        refine .inl ⟨callFunc_enter hC hf hb args' w, ?_⟩
        have hlen := ha.length
        simp only [Array.length_toList] at hlen
        refine calls_of_wp (hC.fn f fn hf) hb ?_
        have hwp := hr.wp fn.ntmps c _ o s1 h4 hev hgood g w { tmps := args' ++ Array.replicate (fn.ntmps - args'.size) undef, defers := [] }
          (initT_rel ha (by omega)) hw hfr (by simp; omega) rfl
        refine wp_mono hwp ?_
        rintro e' a' w' ⟨g', q1, q2, q3, q4, q5⟩
        cases o with
        | norm =>
          obtain ⟨rfl, q6⟩ := q5
          simp only [Option.map_eq_some_iff] at e
          obtain ⟨v, hv, e⟩ := e
          cases e
          obtain ⟨v', r1, r2⟩ := results_ok (P := P) hC q6 q3 hv
          exact ⟨q2, v', r1, g', q3, q4, v', r2, rfl⟩
        | ret =>
          obtain ⟨rfl, q6⟩ := q5
          simp only [Option.map_eq_some_iff] at e
          obtain ⟨v, hv, e⟩ := e
          cases e
          obtain ⟨v', r1, r2⟩ := results_ok (P := P) hC q6 q3 hv
          exact ⟨q2, v', r1, g', q3, q4, v', r2, rfl⟩
        | panic v =>
          obtain ⟨v', hv, rfl⟩ := q5
          cases e
          exact ⟨q2, g', q3, q4, v', hv, rfl⟩
        | exit id => cases e

end
end Ev
