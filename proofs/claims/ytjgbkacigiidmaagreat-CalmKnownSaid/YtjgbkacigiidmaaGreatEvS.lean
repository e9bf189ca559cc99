import Derived.Test.YtjgbkacigiidmaaGreatEvR
namespace Ev
open Go

section
variable {C : Ctx} {P : Program} {F : CallF}

theorem evOps_next (hF : FOk P F) {all : List Oper} {draw : Bool} : ∀ (l : List Oper) (i : Nat) (s : St) (m : Met) {o : Out} {s' : St} {m' : Met},
    evOps C F all draw l i s m = some (o, s', m') → s.h.next ≤ s'.h.next
  | [], i, s, m, o, s', m', e => by simp [evOps] at e; obtain ⟨_, rfl, _⟩ := e; exact Nat.le_refl _
  | op :: l, i, s, m, o, s', m', e => by
    simp only [evOps] at e
    cases hw : wantedA all s.t op with
    | false =>
      rw [hw] at e
      exact evOps_next hF l (Nat.succ i) ⟨putT s.t op.dst undef, s.h⟩ m e
    | true =>
      rw [hw] at e
      simp only [cond_true] at e
      cases ha : aop C op s.t s.h with
      | none => rw [ha] at e; cases e
      | some x =>
        obtain ⟨r, h1⟩ := x
        rw [ha] at e
        have hn := aop_next ha
        cases r with
        | val v =>
          simp only [opK] at e
          generalize (draw && isReader op && !(Nat.beq h1.next s.h.next)) = q at e
          cases q with
          | true => cases e
          | false => exact Nat.le_trans hn (evOps_next hF l _ _ _ e)
        | skip => exact Nat.le_trans hn (evOps_next hF l _ _ _ e)
        | panic v =>
          simp only [opK] at e
          cases draw <;> simp at e
          obtain ⟨_, rfl, _⟩ := e
          exact hn
        | call f args =>
          simp only [opK] at e
          cases hf : F f args h1 with
          | none => rw [hf] at e; cases e
          | some y =>
            obtain ⟨r2, h2⟩ := y
            rw [hf] at e
            have hn2 := (hF f args h1 r2 h2 hf).1
            cases r2 with
            | ret v => exact Nat.le_trans hn (Nat.le_trans hn2 (evOps_next hF l _ _ _ e))
            | panic v =>
              simp only [retK] at e
              cases draw <;> simp at e
              obtain ⟨_, rfl, _⟩ := e
              exact Nat.le_trans hn hn2

theorem Fr.left {g : Gh} {h h1 h2 : Hp} (f : Fr g h h2) (hle : h1.next ≤ h2.next) : Fr g h h1 := fun i a b => f i a (by omega)

theorem Fr.right {g g' : Gh} {h h1 h2 : Hp} {w w' : World} (f : Fr g h h2) (x : Ext g h w g' h1 w') : Fr g' h1 h2 := by
  intro i a b
  cases hg : g' i with
  | none => rfl
  | some y =>
    have hn := x.next
    rcases x.new i y hg with h' | h'
    · rw [f i (by omega) b] at h'; cases h'
    · omega

theorem seq_ok (hC : CtxOk C P) (hF : FOk P F) {ops : Array Oper} {N : Nat} (hN4 : N ≤ 4000) (hdst : ∀ (j : Nat) (o : Oper) d, ops[j]? = some o → o.dst = some d → d < N) :
    ∀ (l : List Oper) (i : Nat) (s : St) (m : Met) {o : Out} {s' : St} {m' : Met}, evOps C F ops.toList false l i s m = some (o, s', m') →
    (∀ k, l[k]? = ops[i + k]?) → ∀ (g : Gh) (w : World) (a : Act) (Q : Exit → Act → World → Prop), TR g s.t a.tmps → WR g s.h w → Fr g s.h s'.h → a.tmps.size = N → a.defers = [] →
    (∀ e a' w', OutRel g s.h w N o s' e a' w' → Q e a' w') → wpOps P ops Q (List.range' i l.length) a w
  | [], i, s, m, o, s', m', e, _, g, w, a, Q, ht, hw, hf, hN, hd, hQ => by
    simp [evOps] at e
    obtain ⟨rfl, rfl, _⟩ := e
    exact hQ _ _ _ ⟨g, hN, hd, hw, Ext.refl _ _ _, rfl, ht⟩
  | op :: l, i, s, m, o, s', m', e, hl, g, w, a, Q, ht, hw, hf, hN, hd, hQ => by
    have hi : ops[i]? = some op := by have := hl 0; simpa using this.symm
    have hl' : ∀ k, l[k]? = ops[Nat.succ i + k]? := fun k => by
      have := hl (k + 1)
      rw [show i + (k + 1) = Nat.succ i + k by omega] at this
      simpa using this
    have hput : ∀ {g' : Gh} {v v' : Value}, TR g' s.t a.tmps → VR g' v v' → TR g' (putT s.t op.dst v) (a.put op.dst v').tmps := fun h1 h2 =>
      h1.put h2 (fun x hx => by rw [hN]; exact hdst i op x hi hx) (by omega)
    simp only [List.length_cons, List.range'_succ, wpOps, hi]
    rw [wanted_eq ht (by rw [hN]; exact hdst)]
    simp only [evOps] at e
    cases hwt : wantedA ops.toList s.t op with
    | false =>
      rw [hwt] at e
      simp only [cond_false] at e
      simp only [Bool.false_eq_true, if_false]
      exact seq_ok hC hF hN4 hdst l (Nat.succ i) ⟨putT s.t op.dst undef, s.h⟩ m e hl' g w (a.put op.dst undef) Q (hput ht (VR.undef g)) hw hf (by simpa using hN) (by simpa using hd) hQ
    | true =>
      rw [hwt] at e
      simp only [cond_true] at e
      simp only [if_true]
      refine .inl ?_
      cases ha : aop C op s.t s.h with
      | none => rw [ha] at e; cases e
      | some x =>
        obtain ⟨r, h1⟩ := x
        rw [ha] at e
        have hn := aop_next ha
        have hle : h1.next ≤ s'.h.next := by
          cases r with
          | val v => exact evOps_next hF l _ _ _ e
          | skip => exact evOps_next hF l _ _ _ e
          | panic v => simp [opK] at e; obtain ⟨_, rfl, _⟩ := e; exact Nat.le_refl _
          | call f args =>
            simp only [opK] at e
            cases hff : F f args h1 with
            | none => rw [hff] at e; cases e
            | some y =>
              obtain ⟨r2, h2⟩ := y
              rw [hff] at e
              have hn2 := (hF f args h1 r2 h2 hff).1
              cases r2 with
              | ret v => exact Nat.le_trans hn2 (evOps_next hF l _ _ _ e)
              | panic v => simp [retK] at e; obtain ⟨_, rfl, _⟩ := e; exact hn2
        refine op_step (P := P) hC hF ht hw (hf.left hle) ha ?_ ?_ ?_
        · intro v hv g' w' v' hvr hwr hex
          have e' : evOps C F ops.toList false l (Nat.succ i) ⟨putT s.t op.dst v, h1⟩ m = some (o, s', m') := by
            rcases hv with rfl | ⟨rfl, rfl⟩
            · simpa [opK] using e
            · simpa [opK] using e
          exact seq_ok hC hF hN4 hdst l (Nat.succ i) ⟨putT s.t op.dst v, h1⟩ m e' hl' g' w' (a.put op.dst v') Q (hput (ht.mono hex.ge) hvr) hwr (hf.right hex)
            (by simpa using hN) (by simpa using hd) (fun e a' w'' hr => hQ e a' w'' (hr.weaken hex))
        · intro v hv v' hvr heq
          subst hv
          simp [opK] at e
          obtain ⟨rfl, rfl, _⟩ := e
          subst heq
          exact hQ _ _ _ ⟨g, hN, hd, hw, Ext.refl _ _ _, v', hvr, rfl⟩
        · intro f args hr
          subst hr
          simp only [opK] at e
          cases hff : F f args h1 with
          | none => rw [hff] at e; cases e
          | some y =>
            obtain ⟨r2, h2⟩ := y
            rw [hff] at e
            have hh1 : h1 = s.h := by
              have := aop_ok (P := P) hC ht hw (hf.left hle) ha
              exact this.1
            subst hh1
            have hn2 := (hF f args _ r2 h2 hff).1
            refine ⟨r2, h2, hff, ?_, ?_, ?_⟩
            · cases r2 with
              | ret v => exact hf.left (evOps_next hF l _ _ _ e)
              | panic v => simp [retK] at e; obtain ⟨_, rfl, _⟩ := e; exact hf
            · rintro v rfl g' w' v' hvr hwr hex
              have e' : evOps C F ops.toList false l (Nat.succ i) ⟨putT s.t op.dst v, h2⟩ m = some (o, s', m') := by simpa [retK] using e
              exact seq_ok hC hF hN4 hdst l (Nat.succ i) ⟨putT s.t op.dst v, h2⟩ m e' hl' g' w' (a.put op.dst v') Q (hput (ht.mono hex.ge) hvr) hwr (hf.right hex)
                (by simpa using hN) (by simpa using hd) (fun e a' w'' hr => hQ e a' w'' (hr.weaken hex))
            · rintro v rfl g' w' v' hvr hwr hex
              simp [retK] at e
              obtain ⟨rfl, rfl, _⟩ := e
              exact hQ _ _ _ ⟨g', hN, hd, hwr, hex, v', hvr, rfl⟩

end
end Ev
