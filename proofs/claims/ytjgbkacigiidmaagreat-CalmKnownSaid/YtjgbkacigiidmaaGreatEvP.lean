import Derived.Test.YtjgbkacigiidmaaGreatEvO
namespace Ev
open Go

section
variable {C : Ctx} {P : Program} {g : Gh} {h h' : Hp} {w : World} {t : Tr Value} {a : Act}

theorem vhres_inv {x : Option (Value × Hp)} {r : AR} (e : vhres x = some (r, h')) : ∃ v, x = some (v, h') ∧ r = .val v := by
  unfold vhres at e
  split at e
  · cases e; exact ⟨_, rfl, rfl⟩
  · cases e

theorem alloc_ok' {ty : TypeId} {v v' : Value} {r : AR} (hw : WR g h w) (hf : Fr g h h') (hv : VR g v v') (e : opAlloc h (some v) = some (r, h')) :
    OpOk P (do pure (Next.value (.pointer (some (← newVar ty v')))) : Sem Next) g h w r h' := by
  simp only [opAlloc] at e
  cases hn : newB h ⟨v.cells.toList, 0, false⟩ with
  | none => rw [hn] at e; cases e
  | some x =>
    obtain ⟨i, h1⟩ := x
    rw [hn] at e
    cases e
    obtain ⟨g', w', p', q1, q2, q3, q4⟩ := box_ok (P := P) (ty := ty) hw hf hv hn
    refine ⟨g', w', p', ?_, q2, q3, q4⟩
    have := run_v q1
    simpa using this

theorem callO_inv {f : Option Value} {args : List Value} {r : AR} (e : callO h f args = some (r, h')) :
    h' = h ∧ ∃ k first cap, f = some (.func (.func k) first cap) ∧ r = .call k (first ++ args.toArray ++ cap) := by
  unfold callO at e
  split at e
  · rename_i f0
    simp only [Option.map_eq_some_iff] at e
    obtain ⟨r0, hr0, e⟩ := e
    cases e
    unfold callV at hr0
    split at hr0
    · cases hr0; exact ⟨rfl, _, _, _, rfl, rfl⟩
    · cases hr0
  · cases e

set_option maxHeartbeats 600000 in
theorem aop_ok (hC : CtxOk C P) {o : Oper} {r : AR} (ht : TR g t a.tmps) (hw : WR g h w) (hf : Fr g h h') (e : aop C o t h = some (r, h')) :
    OpOk P (execOp a.eval o) g h w r h' := by
  obtain ⟨dst, op, ty0, pos, after, guard⟩ := o
  have ho : ∀ x (u : Value), opd t x = some u → VR g u (a.eval x) := fun x u hu => opd_rel ht hu
  unfold aop at e
  simp only at e
  cases op
  case move x =>
    obtain ⟨v, hv, rfl, rfl⟩ := vres_inv (show vres h (opd t x) = _ from e)
    exact OpOk.pure hw rfl (ho x v hv)
  case assign x =>
    obtain ⟨v, hv, rfl, rfl⟩ := vres_inv (show vres h (opd t x) = _ from e)
    exact OpOk.pure hw rfl (ho x v hv)
  case pick c x y =>
    obtain ⟨v, hv, rfl, rfl⟩ := vres_inv (show vres h (pickV (opd t c) (opd t x) (opd t y)) = _ from e)
    obtain ⟨v', h1, h2⟩ := pick_ok (P := P) (w := w) ht hv
    exact OpOk.pure hw h1 h2
  case alloc el =>
    have e' : opAlloc h (zeroT C el) = some (r, h') := e
    cases hz : zeroT C el with
    | none => rw [hz] at e'; cases e'
    | some z =>
      rw [hz] at e'
      have hzv : ∃ z', (zeroValue el).run P w = .ok z' w ∧ z' = z := ⟨z, run_zeroValue hC hz w, rfl⟩
      have := alloc_ok' (P := P) (ty := el) (v := .agg z.cells) (v' := .agg z.cells) hw hf (.agg _ _ (zeros_closed (hC.zc _ z hz))) (by simpa [opAlloc, Value.cells] using e')
      unfold OpOk at this ⊢
      have hrun : (execOp a.eval ⟨dst, .alloc el, ty0, pos, after, guard⟩).run P w = (do pure (Next.value (.pointer (some (← newVar el (.agg z.cells))))) : Sem Next).run P w := by
        simp [execOp, Instr.alloc, run_zeroValue hC hz, newVar, Value.cells]
      cases r <;> simp only [hrun] <;> exact this
  case box el x =>
    have e' : opAlloc h (opd t x) = some (r, h') := e
    cases hx : opd t x with
    | none => rw [hx] at e'; cases e'
    | some v =>
      rw [hx] at e'
      have := alloc_ok' (P := P) (ty := el) hw hf (ho x v hx) e'
      unfold OpOk at this ⊢
      have hrun : (execOp a.eval ⟨dst, .box el x, ty0, pos, after, guard⟩).run P w = (do pure (Next.value (.pointer (some (← newVar el (a.eval x))))) : Sem Next).run P w := by
        simp [execOp, Instr.box]
      cases r <;> simp only [hrun] <;> exact this
  case build ty ps =>
    have e' : opBuild C h ty (parts t ps.toList) = some (r, h') := e
    cases hp : parts t ps.toList with
    | none => rw [hp] at e'; cases e'
    | some vs =>
      rw [hp] at e'
      obtain ⟨v, hv, rfl, rfl⟩ := vres_inv (show vres h (buildV C ty vs) = _ from e')
      have hrel := parts_rel ht hp
      obtain ⟨v', h1, h2⟩ := build_ok (P := P) (w := w) hC (ps' := ps.map fun p => (p.1, a.eval p.2)) (by simpa using hrel) hv
      exact OpOk.pure hw (run_v h1) h2
  case buildSlice ty len ps =>
    have e' : opBuildSlice C h len (und C ty) (parts t ps.toList) = some (r, h') := e
    have q := buildSlice_ok (P := P) hC (vs' := ps.map fun p => (p.1, a.eval p.2)) hw hf (fun u hu => by simpa using parts_rel ht hu) e'
    have hx : execOp a.eval ⟨dst, .buildSlice ty len ps, ty0, pos, after, guard⟩ = (do pure (Next.value (← Instr.buildSlice ty len (ps.map fun p => (p.1, a.eval p.2)))) : Sem Next) := by
      unfold execOp
      rfl
    rw [hx]
    exact q
  case load ty x =>
    have e' : opLoad C h ty (opd t x) = some (r, h') := e
    cases hx : opd t x with
    | none => rw [hx] at e'; cases e'
    | some p =>
      rw [hx] at e'
      obtain ⟨v, hv, rfl, rfl⟩ := vres_inv (show vres h (loadV C h ty p) = _ from e')
      obtain ⟨v', h1, h2⟩ := load_ok (P := P) hw (ho x p hx) hC hv
      exact OpOk.pure hw (run_v h1) h2
  case store ty x y =>
    have e' : opStore C h ty (opd t x) (opd t y) = some (r, h') := e
    cases hx : opd t x with
    | none => rw [hx] at e'; cases e'
    | some p =>
      cases hy : opd t y with
      | none => rw [hx, hy] at e'; cases e'
      | some v =>
        rw [hx, hy] at e'
        have e'' : skres (storeV C h ty p v) = some (r, h') := e'
        cases hs : storeV C h ty p v with
        | none => rw [hs] at e''; cases e''
        | some h1 =>
          rw [hs] at e''
          cases e''
          obtain ⟨w', q1, q2, q3⟩ := store_ok (P := P) hw (ho x p hx) (ho y v hy) hC hs
          exact ⟨g, w', by simp [execOp, q1], q2, q3⟩
  case nilCheck x =>
    obtain ⟨v, hv, rfl, rfl⟩ := vres_inv (show vres h (nilV (opd t x)) = _ from e)
    unfold nilV at hv
    split at hv
    · rename_i ad hx
      cases hv
      obtain ⟨i, off, sp⟩ := ad
      have rr := ho x _ hx
      obtain ⟨rfl, x0, hg, hv'⟩ := rr.ptr_inv
      exact OpOk.pure hw (by simp only [execOp, hv']; rfl) (.ptr i off x0 hg)
    · rename_i f b c hx
      cases hv
      have rr := ho x _ hx
      obtain ⟨b', c', hv', hb, hc⟩ := rr.func_inv
      exact OpOk.pure hw (by simp only [execOp, hv']; rfl) (.func _ _ _ _ _ hb hc)
    · cases hv
  case binOp op ty x y yt =>
    obtain ⟨v, hv, rfl, rfl⟩ := vres_inv (show vres h (opBin C op ty (opd t x) (opd t y)) = _ from e)
    unfold opBin at hv
    split at hv
    · rename_i u1 u2 h1 h2
      obtain ⟨v', q1, q2⟩ := bin_ok (P := P) (w := w) hC (ox := x) (oy := y) (ho x _ h1) (ho y _ h2) hv
      have q3 := run_v q1
      have hx : execOp a.eval ⟨dst, .binOp op ty x y yt, ty0, pos, after, guard⟩ =
        (do pure (Next.value (← (do eqGuard op ty x y (a.eval x) (a.eval y); binOp op ty (a.eval x) (a.eval y) : Sem Value))) : Sem Next) := rfl
      rw [hx]
      exact OpOk.pure hw q3 q2
    · cases hv
  case unOp op ty x =>
    obtain ⟨v, hv, rfl, rfl⟩ := vres_inv (show vres h (unV op (opd t x)) = _ from e)
    obtain ⟨v', q1, q2⟩ := un_ok (P := P) (w := w) (x' := a.eval x) (fun u hu => ho x u hu) hv
    exact OpOk.pure hw (run_v q1) q2
  case convert src dst' x =>
    have e' : opConv C src dst' h (opd t x) = some (r, h') := e
    cases hx : opd t x with
    | none => rw [hx] at e'; cases e'
    | some v =>
      rw [hx] at e'
      obtain ⟨u, hu, rfl⟩ := vhres_inv (show vhres (convV C src dst' v h) = _ from e')
      exact conv_ok (P := P) hC hw hf (ho x v hx) hu
  case makeInterface ty x =>
    obtain ⟨v, hv, rfl, rfl⟩ := vres_inv (show vres h (ifaceV ty (und C ty) (opd t x)) = _ from e)
    obtain ⟨v', q1, q2⟩ := iface_ok (P := P) (w := w) hC (x' := a.eval x) (fun u hu => ho x u hu) hv
    exact OpOk.pure hw (run_v q1) q2
  case makeFunc fn first cap =>
    obtain ⟨v, hv, rfl, rfl⟩ := vres_inv (show vres h (funV fn (opds t first.toList) (opds t cap.toList)) = _ from e)
    unfold funV at hv
    split at hv
    · rename_i u1 u2 h1 h2
      cases hv
      refine OpOk.pure (v' := .func fn (first.map a.eval) (cap.map a.eval)) hw rfl (.func _ _ _ _ _ ?_ ?_)
      · simpa using opds_rel ht h1
      · simpa using opds_rel ht h2
    · cases hv
  case makeSlice ty x y =>
    have e' : mkSlice C h (und C ty) (opd t x) (opd t y) = some (r, h') := e
    exact mkSlice_ok (P := P) hC hw hf (fun u hu => ho x u hu) (fun u hu => ho y u hu) e'
  case slice ty x lo hi mx =>
    obtain ⟨v, hv, rfl, rfl⟩ := vres_inv (show vres h (opSlice C h ty (opd t x) (optV opd t lo) (optV opd t hi) (optV opd t mx)) = _ from e)
    unfold opSlice at hv
    split at hv
    · rename_i u l0 h0 m0 h1 h2 h3 h4
      obtain ⟨v', q1, q2⟩ := slice_ok (P := P) hC hw (ho x u h1) (optV_rel ht h2) (optV_rel ht h3) (optV_rel ht h4) hv
      exact OpOk.pure hw (run_v q1) q2
    · cases hv
  case fieldAddr s x k =>
    obtain ⟨v, hv, rfl, rfl⟩ := vres_inv (show vres h (opFieldAddr C k (und C s) (opd t x)) = _ from e)
    obtain ⟨v', q1, q2⟩ := fieldAddr_ok (P := P) (w := w) hC (x' := a.eval x) (fun u hu => ho x u hu) hv
    exact OpOk.pure hw (run_v q1) q2
  case field s x k =>
    obtain ⟨v, hv, rfl, rfl⟩ := vres_inv (show vres h (opField C k (und C s) (opd t x)) = _ from e)
    obtain ⟨v', q1, q2⟩ := field_ok (P := P) (w := w) hC (x' := a.eval x) (fun u hu => ho x u hu) hv
    exact OpOk.pure hw (run_v q1) q2
  case indexAddr ty x i =>
    obtain ⟨v, hv, rfl, rfl⟩ := vres_inv (show vres h (opIndexAddr C (und C ty) (opd t x) (opd t i)) = _ from e)
    obtain ⟨v', q1, q2⟩ := indexAddr_ok (P := P) (w := w) hC (x' := a.eval x) (i' := a.eval i) (fun u hu => ho x u hu) (fun u hu => ho i u hu) hv
    exact OpOk.pure hw (run_v q1) q2
  case index ty x i =>
    obtain ⟨v, hv, rfl, rfl⟩ := vres_inv (show vres h (opIndex C (und C ty) (opd t x) (opd t i)) = _ from e)
    obtain ⟨v', q1, q2⟩ := index_ok (P := P) (w := w) hC (x' := a.eval x) (i' := a.eval i) (fun u hu => ho x u hu) (fun u hu => ho i u hu) hv
    exact OpOk.pure hw (run_v q1) q2
  case typeAssert x xT ty ok =>
    obtain ⟨v, hv, rfl, rfl⟩ := vres_inv (show vres h (opAssert ty ok (und C ty) (opd t x)) = _ from e)
    obtain ⟨v', q1, q2⟩ := assert_ok (P := P) (w := w) hC (xT := xT) (x' := a.eval x) (fun u hu => ho x u hu) hv
    exact OpOk.pure hw (run_v q1) q2
  case extract x k =>
    obtain ⟨v, hv, rfl, rfl⟩ := vres_inv (show vres h (opExtract k (opd t x)) = _ from e)
    obtain ⟨v', q1, q2⟩ := extract_ok (P := P) (w := w) (x' := a.eval x) (fun u hu => ho x u hu) hv
    exact OpOk.pure hw (run_v q1) q2
  case panic x =>
    have e' : opPanic h (opd t x) = some (r, h') := e
    unfold opPanic at e'
    split at e'
    · rename_i ty u hx
      cases e'
      obtain ⟨u', hu', rr⟩ := (ho x _ hx).iface_inv
      refine ⟨rfl, .iface ty u', .iface _ _ _ rr, ?_⟩
      simp [execOp, hu', Instr.panic]
    · cases e'
  case call c =>
    have e' : opCall C t h c.callee c.argTypes (opds t c.args.toList) = some (r, h') := e
    cases ha : opds t c.args.toList with
    | none => rw [ha] at e'; cases e'
    | some args =>
      rw [ha] at e'
      have hrel : VRL g args.toArray.toList (c.args.map a.eval).toList := by simpa using opds_rel ht ha
      unfold opCall at e'
      simp only at e'
      split at e'
      · rename_i b hcal
        obtain ⟨v, hv, rfl⟩ := vhres_inv e'
        have hexec : execOp a.eval ⟨dst, .call c, ty0, pos, after, guard⟩ = builtin b c.argTypes ty0 (c.args.map fun | .const _ => true | _ => false) (c.args.map a.eval) := by
          simp only [execOp, resolve, hcal]; rfl
        rw [hexec]
        cases b <;> simp only [builtinV] at hv <;> first
          | (cases hv; done)
          | skip
        · obtain ⟨g', w', v', q1, q2, q3, q4⟩ := append_ok (P := P) (ty := ty0) hC hw hf hrel hv
          exact ⟨g', w', v', run_v q1, q2, q3, q4⟩
        · obtain ⟨w', v', q1, q2, q3, q4⟩ := copy_ok (P := P) (ty := ty0) hC hw hrel hv
          exact ⟨g, w', v', run_v q1, q2, q3, q4⟩
        · simp only [Option.map_eq_some_iff] at hv
          obtain ⟨u, hu, hv⟩ := hv
          cases hv
          obtain ⟨v', q1, q2⟩ := len_ok (P := P) (w := w) (ty := ty0) hC hrel hu
          exact OpOk.pure hw (run_v q1) q2
        · simp only [Option.map_eq_some_iff] at hv
          obtain ⟨u, hu, hv⟩ := hv
          cases hv
          obtain ⟨v', q1, q2⟩ := max_ok (P := P) (w := w) (ty := ty0) (ats := c.argTypes) hrel hu
          exact OpOk.pure hw (run_v q1) q2
        · simp only [Option.map_eq_some_iff] at hv
          obtain ⟨u, hu, hv⟩ := hv
          cases hv
          obtain ⟨v', q1, q2⟩ := min_ok (P := P) (w := w) (ty := ty0) (ats := c.argTypes) hrel hu
          exact OpOk.pure hw (run_v q1) q2
      · rename_i f hcal
        obtain ⟨rfl, k, first, cap, hf', rfl⟩ := callO_inv e'
        obtain ⟨first', cap', hv', hfi, hca⟩ := (ho f _ hf').func_inv
        refine ⟨rfl, first' ++ c.args.map a.eval ++ cap', ?_, ?_⟩
        · simp only [Array.toList_append]
          exact (hfi.append hrel).append hca
        · simp [execOp, resolve, hcal, hv', Deferred.ofValue, invoke]
      · cases e'
  all_goals (exact absurd e (by simp [aopSel, x_none]))

end
end Ev
