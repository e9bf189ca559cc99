import Derived.Test.YtjgbkacigiidmaaGreatEvV
namespace Ev
open Go

section
variable {C : Ctx} {P : Program}

theorem seqK_inv {ev : EvF} {b : Code} {x : Option (Out × St)} {o : Out} {s' : St} (e : seqK ev b x = some (o, s')) :
    (∃ s1, x = some (.norm, s1) ∧ ev b s1 = some (o, s')) ∨ (x = some (o, s') ∧ o ≠ .norm) := by
  cases x with
  | none => cases e
  | some y =>
    obtain ⟨o1, s1⟩ := y
    cases o1 with
    | norm => exact .inl ⟨s1, rfl, e⟩
    | exit i => simp only [seqK] at e; cases e; exact .inr ⟨rfl, by simp⟩
    | ret => simp only [seqK] at e; cases e; exact .inr ⟨rfl, by simp⟩
    | panic v => simp only [seqK] at e; cases e; exact .inr ⟨rfl, by simp⟩

theorem blockK_inv {id : Nat} {x : Option (Out × St)} {o : Out} {s' : St} (e : blockK id x = some (o, s')) :
    ∃ o1, x = some (o1, s') ∧ ((o1 = .exit id ∧ o = .norm) ∨ (o1 = o ∧ o1 ≠ .exit id)) := by
  cases x with
  | none => cases e
  | some y =>
    obtain ⟨o1, s1⟩ := y
    cases o1 with
    | norm => simp only [blockK] at e; cases e; exact ⟨_, rfl, .inr ⟨rfl, by simp⟩⟩
    | exit i =>
      simp only [blockK] at e
      cases h : Nat.beq i id with
      | true =>
        rw [h] at e
        simp only [cond_true] at e; cases e
        rw [Nat.eq_of_beq_eq_true h]
        exact ⟨_, rfl, .inl ⟨rfl, rfl⟩⟩
      | false =>
        rw [h] at e
        simp only [cond_false] at e; cases e
        refine ⟨_, rfl, .inr ⟨rfl, ?_⟩⟩
        intro q; cases q
        rw [Nat.beq_refl] at h; cases h
    | ret => simp only [blockK] at e; cases e; exact ⟨_, rfl, .inr ⟨rfl, by simp⟩⟩
    | panic v => simp only [blockK] at e; cases e; exact ⟨_, rfl, .inr ⟨rfl, by simp⟩⟩

theorem regK_inv {ops : Array Oper} {draw : Bool} {h : Hp} {x : Option (Out × St × Met)} {o : Out} {s' : St} (e : regK ops draw h x = some (o, s')) :
    ∃ m, x = some (o, s', m) ∧ (draw = true → drawnOk ops h m = true) := by
  cases x with
  | none => cases e
  | some y =>
    obtain ⟨o1, s1, m⟩ := y
    simp only [regK] at e
    cases draw with
    | false => simp only [cond_false] at e; cases e; exact ⟨m, rfl, by simp⟩
    | true =>
      simp only [cond_true] at e
      cases hd : drawnOk ops h m with
      | false => rw [hd] at e; cases e
      | true => rw [hd] at e; cases e; exact ⟨m, rfl, fun _ => hd⟩

theorem condK_inv {ev : EvF} {a b : Code} {s : St} {x : Option Value} {r : Option (Out × St)} (e : condK ev a b s x = r) (hr : r ≠ none) :
    ∃ t, x = some (.bool t) ∧ (if t = true then ev a s else ev b s) = r := by
  unfold condK at e
  split at e
  · rename_i c
    exact ⟨c, rfl, by cases c <;> simpa using e⟩
  · exact absurd e.symm hr

theorem loop_first {ev : EvF} (hr : RecOk P ev) {N : Nat} {c : Code} {s : St} {o : Out} {s' : St} (hN : N ≤ 4000)
    (e : seqK ev (.loop c) (ev c s) = some (o, s')) (hg : goodC N c = true) (g : Gh) (w : World) (a : Act) (ht : TR g s.t a.tmps) (hw : WR g s.h w)
    (hf : Fr g s.h s'.h) (hs : a.tmps.size = N) (hd : a.defers = []) (b : Frame) (k : List Item) (cs : List Frame) :
    ∃ e a' w', OutRel g s.h w N o s' e a' w' ∧ Arrives P (lone (b.at a (.code c :: .inLoop c :: k)) cs w) b k cs e a' w' := by
  rcases seqK_inv e with ⟨s1, h1, h2⟩ | ⟨h1, hno⟩
  · have n1 := hr.next _ _ _ _ h1
    have n2 := hr.next _ _ _ _ h2
    obtain ⟨e1, a1, w1, r1, q1⟩ := hr.wp N c s _ s1 hN h1 hg g w a ht hw (hf.left n2) hs hd b (.inLoop c :: k) cs
    obtain ⟨rfl, g1, p1, p2, p3, p4, p5⟩ := r1.norm_inv
    obtain ⟨e2, a2, w2, r2, q2⟩ := hr.loop N c s1 o s' hN h2 hg g1 w1 a1 p5 p3 (hf.right p4) p1 p2 b k cs
    exact ⟨e2, a2, w2, r2.weaken p4, .of_steps (Steps.trans q1 (Steps.one step_inLoop)) q2⟩
  · obtain ⟨e1, a1, w1, r1, q1⟩ := hr.wp N c s o s' hN h1 hg g w a ht hw hf hs hd b (.inLoop c :: k) cs
    exact ⟨e1, a1, w1, r1, .pass rfl (fun _ _ => .inl (r1.ne_norm hno)) q1⟩

theorem evCode_ok (hC : CtxOk C P) (hD : DrawnSound C P) (hT : ∀ ev, RecOk P ev → FOk P (callF C ev)) : ∀ n, RecOk P (evCode C n)
  | 0 => by
    refine ⟨?_, ?_, ?_⟩
    · intro c s o s' e
      cases e
    · intro N c s o s' _ e
      cases e
    · intro N c s o s' _ e
      cases e
  | n + 1 => by
    have hr := evCode_ok hC hD hT n
    have hF := hT _ hr
    refine ⟨?_, ?_, ?_⟩
    · intro c s o s' e
      rw [evCode_succ] at e
      cases c <;> simp only [evStep, evSel, c_skip, c_seq, c_cond, c_block, c_loop, c_exit, c_ret, c_region, c_none] at e
      all_goals try (cases e; done)
      all_goals try (cases e; exact Nat.le_refl _)
      case region id ops draw =>
        obtain ⟨m, h1, _⟩ := regK_inv e
        exact evOps_next hF _ _ _ _ h1
      case seq x y =>
        rcases seqK_inv e with ⟨s1, h1, h2⟩ | ⟨h1, _⟩
        · exact Nat.le_trans (hr.next _ _ _ _ h1) (hr.next _ _ _ _ h2)
        · exact hr.next _ _ _ _ h1
      case cond x y z =>
        obtain ⟨t, _, h1⟩ := condK_inv e (by simp)
        cases t
        · exact hr.next _ _ _ _ (by simpa using h1)
        · exact hr.next _ _ _ _ (by simpa using h1)
      case block id x =>
        obtain ⟨o1, h1, _⟩ := blockK_inv e
        exact hr.next _ _ _ _ h1
      case loop x =>
        rcases seqK_inv e with ⟨s1, h1, h2⟩ | ⟨h1, _⟩
        · exact Nat.le_trans (hr.next _ _ _ _ h1) (hr.next _ _ _ _ h2)
        · exact hr.next _ _ _ _ h1
    · intro N c s o s' hN e hg g w a ht hw hf hs hd
      rw [evCode_succ] at e
      cases c <;> simp only [evStep, evSel, c_skip, c_seq, c_cond, c_block, c_loop, c_exit, c_ret, c_region, c_none] at e
      all_goals try (cases e; done)
      case skip => cases e; exact wp_skip ⟨g, hs, hd, hw, Ext.refl g _ w, rfl, ht⟩
      case exit id => cases e; exact wp_exit ⟨g, hs, hd, hw, Ext.refl g _ w, rfl, ht⟩
      case ret => cases e; exact wp_ret ⟨g, hs, hd, hw, Ext.refl g _ w, rfl, ht⟩
      case region id ops draw =>
        obtain ⟨m, h1, h2⟩ := regK_inv e
        simp only [goodC, Bool.and_eq_true] at hg
        have hdst := fun j o d ho hd => dstOk_spec hg.1 j o d ho hd
        cases draw with
        | false =>
          refine wp_region ?_
          rw [List.range_eq_range']
          have := seq_ok (P := P) hC hF hN hdst ops.toList 0 s ⟨[], []⟩ h1 (by intro k; simp) g w a _ ht hw hf hs hd (fun _ _ _ h => h)
          simpa using this
        | true =>
          exact hD _ id ops N s o s' m hC hF hN hdst (by simpa using hg.2) h1 (h2 rfl) g w a ht hw hf hs hd
      case seq x y =>
        simp only [goodC, Bool.and_eq_true] at hg
        rcases seqK_inv e with ⟨s1, h1, h2⟩ | ⟨h1, hno⟩
        · have n2 := hr.next _ _ _ _ h2
          refine wp_then (hr.wp N x s _ s1 hN h1 hg.1 g w a ht hw (hf.left n2) hs hd) ?_ (fun h => absurd rfl h)
          intro _ a' w' g' q1 q2 q3 q4 q5
          exact wp_mono (hr.wp N y s1 o s' hN h2 hg.2 g' w' a' q5 q3 (hf.right q4) q1 q2) (fun _ _ _ r => r.weaken q4)
        · exact wp_then (hr.wp N x s o s' hN h1 hg.1 g w a ht hw hf hs hd) (fun h => absurd h hno) (fun _ _ _ _ r => r)
      case cond x y z =>
        simp only [goodC, Bool.and_eq_true] at hg
        obtain ⟨t, h0, h1⟩ := condK_inv e (by simp)
        have hv := ((opd_rel ht h0).bool_iff t).2 rfl
        refine wp_cond hv ?_
        cases t with
        | true => exact hr.wp N y s o s' hN (by simpa using h1) hg.1 g w a ht hw hf hs hd
        | false => exact hr.wp N z s o s' hN (by simpa using h1) hg.2 g w a ht hw hf hs hd
      case block id x =>
        obtain ⟨o1, h1, h2⟩ := blockK_inv e
        simp only [goodC] at hg
        refine wp_block (wp_mono (hr.wp N x s o1 s' hN h1 hg g w a ht hw hf hs hd) ?_)
        rintro e' a' w' r
        rcases h2 with ⟨rfl, rfl⟩ | ⟨rfl, hno⟩
        · obtain ⟨g', q1, q2, q3, q4, rfl, q5⟩ := r
          simp only [Exit.inBlock, if_true]
          exact ⟨g', q1, q2, q3, q4, rfl, q5⟩
        · have hr' := r
          obtain ⟨g', q1, q2, q3, q4, q5⟩ := r
          cases o1 with
          | norm => obtain ⟨rfl, _⟩ := q5; exact hr'
          | exit i =>
            obtain ⟨rfl, _⟩ := q5
            have : i ≠ id := fun h => hno (by rw [h])
            simp only [Exit.inBlock, if_neg this]
            exact hr'
          | ret => obtain ⟨rfl, _⟩ := q5; exact hr'
          | panic v => obtain ⟨v', _, rfl⟩ := q5; exact hr'
      case loop x =>
        simp only [goodC] at hg
        intro b k cs
        obtain ⟨e1, a1, w1, r1, q1⟩ := loop_first hr hN e hg g w a ht hw hf hs hd b k cs
        exact ⟨e1, a1, w1, r1, .of_steps (Steps.one step_loop) q1⟩
    · intro N c s o s' hN e hg g w a ht hw hf hs hd b k cs
      rw [evCode_succ] at e
      simp only [evStep, evSel, c_loop] at e
      exact loop_first hr hN e hg g w a ht hw hf hs hd b k cs

end
end Ev
