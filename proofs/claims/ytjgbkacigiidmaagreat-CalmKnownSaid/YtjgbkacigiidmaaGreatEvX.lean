import Derived.Test.YtjgbkacigiidmaaGreatEvW
namespace Ev
open Go

section
variable {C : Ctx} {P : Program}

def trapW (C : Ctx) (w : World) : World := w.alloc (.cells #[.int .i64 0] C.ern)

/-- what trap.Run does, whatever function it is handed. -/
def TrapSpec (C : Ctx) (P : Program) : Prop :=
  ∀ (f : FuncId) (first cap : Array Value) (w : World) (Q : Ending → World → Prop),
    (callFunc f (first ++ cap)).run P (trapW C w) = .ok (.enter f (first ++ cap)) (trapW C w) →
    Calls P f (first ++ cap) (trapW C w) Q →
    (∀ e w', Q e w' → ((∃ v, e = .returned v) ∨ ∃ k n, e = .panicked [{ v := .iface C.ern (.int k n), recovered := false }]) ∧
      w'.heap[w.heap.size]? = some (.cells #[.int .i64 0] C.ern)) →
    (callFunc C.run #[.func (.func f) first cap]).run P w = .ok (.enter C.run #[.func (.func f) first cap]) w ∧
    Calls P C.run #[.func (.func f) first cap] w fun e w'' => ∃ e0 w', Q e0 w' ∧
      ((∃ v, e0 = .returned v ∧ e = .returned (.int .i64 0) ∧ w'' = w'.setCell ⟨w.heap.size, 0, none⟩ (.int .i64 0)) ∨
       (∃ k n, e0 = .panicked [{ v := .iface C.ern (.int k n), recovered := false }] ∧ e = .returned (.int k n) ∧ w'' = w'.setCell ⟨w.heap.size, 0, none⟩ (.int k n)))

theorem BR.of_blk {g : Gh} {B : Blk} {x : GB} {w w' : World} (h : w'.heap[x.b]? = w.heap[x.b]?) (b : BR g B x w) : BR g B x w' := by
  obtain ⟨⟨c, el, fr, q1, q2, q3, q4⟩, a1, a2, a3, a4⟩ := b
  exact ⟨⟨c, el, fr, by rw [h]; exact q1, q2, q3, q4⟩, a1, a2, a3, a4⟩

theorem WR.of_blks {g : Gh} {h : Hp} {w w' : World} (e : ∀ i B x, h.m.get i = some B → g i = some x → w'.heap[x.b]? = w.heap[x.b]?) (r : WR g h w) : WR g h w' := by
  obtain ⟨r1, r2, r3, r4⟩ := r
  refine ⟨?_, r2, r3, r4⟩
  intro i B hi
  obtain ⟨x, hx, hb⟩ := r1 i B hi
  exact ⟨x, hx, hb.of_blk (e i B x hi hx)⟩

theorem trapW_old (w : World) {b : Nat} (hb : b < w.heap.size) : (trapW C w).heap[b]? = w.heap[b]? := by
  simp only [trapW, World.alloc]
  rw [Array.getElem?_push, if_neg (by omega)]

theorem trap_wrap {g g' : Gh} {h h' : Hp} {w w' : World} (hw : WR g h w) (hw' : WR g' h' w') (x : Ext g h (trapW C w) g' h' w') (v : Value) :
    WR g' h' (w'.setCell ⟨w.heap.size, 0, none⟩ v) ∧ Ext g h w g' h' (w'.setCell ⟨w.heap.size, 0, none⟩ v) ∧
    w'.heap[w.heap.size]? = some (.cells #[.int .i64 0] C.ern) := by
  have hlt : ∀ i B y, h.m.get i = some B → g i = some y → y.b < w.heap.size := by
    intro i B y hi hy
    obtain ⟨y', hy', hb⟩ := hw.live i B hi
    rw [hy] at hy'; cases hy'
    exact hb.lt
  have hsz : (trapW C w).heap.size = w.heap.size + 1 := Array.size_push _
  have hne : ∀ i B y, h'.m.get i = some B → g' i = some y → y.b ≠ w.heap.size := by
    intro i B y hi hy
    rcases x.img i B y hi hy with ⟨j, B', z, q1, q2, q3⟩ | q
    · have := hlt j B' z q1 q2; omega
    · omega
  refine ⟨hw'.of_blks ?_, ⟨x.ge, x.new, ?_, ?_, ?_, x.next, ?_, ?_⟩, ?_⟩
  · intro i B y hi hy
    exact heap_setCell_ne v _ (hne i B y hi hy)
  · intro b hb hno
    rw [heap_setCell_ne v b (by omega), x.keep b (by omega) hno, trapW_old w hb]
  · intro i B y hi hy
    rcases x.img i B y hi hy with q | q
    · exact .inl q
    · exact .inr (by omega)
  · have := x.size
    simp only [World.setCell, Array.size_modify]
    omega
  · exact x.os
  · exact x.out
  · rw [x.keep _ (by omega) (fun i B y hi hy => by have := hlt i B y hi hy; omega)]
    exact Array.getElem?_push_size

theorem trapK_inv {x : Option (Ret × Hp)} {r : Ret} {h' : Hp} (e : trapK C x = some (r, h')) :
    (∃ v, x = some (.ret v, h') ∧ r = .ret (.int .i64 0)) ∨ (∃ k n, x = some (.panic (.iface C.ern (.int k n)), h') ∧ r = .ret (.int k n)) := by
  unfold trapK at e
  split at e
  · cases e; exact .inl ⟨_, rfl, rfl⟩
  · rename_i ty k n h1
    cases hb : Nat.beq ty C.ern with
    | false => rw [hb] at e; cases e
    | true =>
      rw [hb] at e; cases e
      rw [Nat.eq_of_beq_eq_true hb]
      exact .inr ⟨k, n, rfl, rfl⟩
  · cases e

theorem callG_ok (hC : CtxOk C P) (hFn : FnsOk C P) (hTrap : TrapSpec C P) {ev : Code → St → Option (Out × St)} (hr : RecOk P ev) : FOk P (callG C ev) := by
  intro f args h r h' e
  unfold callG at e
  cases hb : Nat.beq f C.run with
  | false =>
    rw [hb] at e
    exact callBody_ok hC hFn hr f args h r h' e
  | true =>
    rw [hb] at e
    simp only [cond_true] at e
    have hf := Nat.eq_of_beq_eq_true hb
    subst hf
    split at e
    · rename_i gf first cap hargs
      cases hh : hasBody C gf with
      | false => rw [hh] at e; cases e
      | true =>
        rw [hh] at e
        simp only [cond_true] at e
        have hbody : ∃ fn c, C.fn.get gf = some fn ∧ fn.body = some c := by
          unfold hasBody at hh
          split at hh
          · rename_i fn hfn
            obtain ⟨c, hc⟩ := Option.isSome_iff_exists.1 hh
            exact ⟨fn, c, hfn, hc⟩
          · cases hh
        obtain ⟨fn, c, hfn, hc⟩ := hbody
        have main : ∀ r0, callBody C ev gf (first ++ cap) h = some (r0, h') → ((∃ v, r0 = .ret v ∧ r = .ret (.int .i64 0)) ∨ (∃ k n, r0 = .panic (.iface C.ern (.int k n)) ∧ r = .ret (.int k n))) →
            h.next ≤ h'.next ∧ CallOk P C.run args h r h' := by
          intro r0 e0 hcase
          obtain ⟨hn, hcall⟩ := callBody_ok hC hFn hr gf (first ++ cap) h r0 h' e0
          refine ⟨hn, ?_⟩
          intro g w args' ha hw hfr
          rw [hargs] at ha
          have hargs' : ∃ first' cap', args' = #[.func (.func gf) first' cap'] ∧ VRL g first.toList first'.toList ∧ VRL g cap.toList cap'.toList := by
            generalize hl : args'.toList = l at ha
            cases ha with
            | cons h1 t1 =>
              cases t1
              obtain ⟨f', c', q1, q2, q3⟩ := h1.func_inv
              refine ⟨f', c', ?_, q2, q3⟩
              apply Array.ext'
              rw [hl, q1]
          obtain ⟨first', cap', rfl, r1, r2⟩ := hargs'
          have hlt : ∀ i B y, h.m.get i = some B → g i = some y → y.b < w.heap.size := by
            intro i B y hi hy
            obtain ⟨y', hy', hb⟩ := hw.live i B hi
            rw [hy] at hy'; cases hy'
            exact hb.lt
          have hw1 : WR g h (trapW C w) := hw.of_blks (fun i B x hi hx => trapW_old w (hlt i B x hi hx))
          have hargs2 : VRL g (first ++ cap).toList (first' ++ cap').toList := by
            simp only [Array.toList_append]
            exact r1.append r2
          rcases hcall g (trapW C w) (first' ++ cap') hargs2 hw1 hfr with ⟨q1, q2⟩ | ⟨v, v', _, _, _, q1⟩
          · obtain ⟨t1, t2⟩ := hTrap gf first' cap' w _ q1 q2 (by
              rintro e' w' ⟨g', s1, s2, s3⟩
              obtain ⟨_, _, s4⟩ := trap_wrap hw s1 s2 (.int .i64 0)
              refine ⟨?_, s4⟩
              rcases hcase with ⟨v, rfl, _⟩ | ⟨k, n, rfl, _⟩
              · obtain ⟨v', _, rfl⟩ := s3
                exact .inl ⟨v', rfl⟩
              · obtain ⟨v', hv, rfl⟩ := s3
                obtain ⟨u, rfl, hu⟩ := hv.iface_inv
                rw [hu.int_inv]
                exact .inr ⟨k, n, rfl⟩)
            refine .inl ⟨t1, t2.mono ?_⟩
            rintro e' w'' ⟨e0', w', ⟨g', s1, s2, s3⟩, hh⟩
            rcases hcase with ⟨v, rfl, rfl⟩ | ⟨k, n, rfl, rfl⟩
            · obtain ⟨v', _, rfl⟩ := s3
              rcases hh with ⟨_, _, rfl, rfl⟩ | ⟨_, _, hx, _⟩
              · obtain ⟨p1, p2, _⟩ := trap_wrap hw s1 s2 (.int .i64 0)
                exact ⟨g', p1, p2, _, VR.int _ _, rfl⟩
              · cases hx
            · obtain ⟨v', hv, rfl⟩ := s3
              obtain ⟨u, rfl, hu⟩ := hv.iface_inv
              have := hu.int_inv
              subst this
              rcases hh with ⟨_, hx, _⟩ | ⟨k', n', hx, rfl, rfl⟩
              · cases hx
              · cases hx
                obtain ⟨p1, p2, _⟩ := trap_wrap hw s1 s2 (.int k n)
                exact ⟨g', p1, p2, _, VR.int _ _, rfl⟩
          · rw [callFunc_enter hC hfn hc] at q1
            cases q1
        rcases trapK_inv e with ⟨v, q1, q2⟩ | ⟨k, n, q1, q2⟩
        · exact main _ q1 (.inl ⟨v, rfl, q2⟩)
        · exact main _ q1 (.inr ⟨k, n, rfl, q2⟩)
    · cases e

/-- the oracle is asked first. -/
theorem callF_ok (hC : CtxOk C P) (hFn : FnsOk C P) (hTrap : TrapSpec C P) (hO : FOk P C.orc) {ev : Code → St → Option (Out × St)} (hr : RecOk P ev) : FOk P (callF C ev) := by
  intro f args h r h' e
  unfold callF at e
  cases ho : C.orc f args h with
  | none => rw [ho] at e; exact callG_ok hC hFn hTrap hr f args h r h' e
  | some x =>
    rw [ho] at e
    simp only [orK] at e
    cases e
    exact hO f args h r h' ho

theorem evCode_sound (hC : CtxOk C P) (hFn : FnsOk C P) (hTrap : TrapSpec C P) (hO : FOk P C.orc) (hD : DrawnSound C P) (n : Nat) : RecOk P (evCode C n) :=
  evCode_ok hC hD (fun _ hr => callF_ok hC hFn hTrap hO hr) n

theorem evFn_sound (hC : CtxOk C P) (hFn : FnsOk C P) (hTrap : TrapSpec C P) (hO : FOk P C.orc) (hD : DrawnSound C P) (n : Nat) : FOk P (evFn C n) :=
  callF_ok hC hFn hTrap hO (evCode_sound hC hFn hTrap hO hD n)

end
end Ev
