import Derived.Test.YtjgbkacigiidmaaGreatEvQ
namespace Ev
open Go

section
variable {C : Ctx} {P : Program} {g : Gh} {h h' : Hp} {w : World} {t : Tr Value} {a : Act}

theorem vres_next {x : Option Value} {r : AR} (e : vres h x = some (r, h')) : h.next ≤ h'.next := by
  obtain ⟨_, _, _, rfl⟩ := vres_inv e; exact Nat.le_refl _

theorem newB_le {b : Blk} {i : Nat} (e : newB h b = some (i, h')) : h.next ≤ h'.next := by
  have := (newB_next e).2; omega

theorem storeV_next {ty : TypeId} {p v : Value} (e : storeV C h ty p v = some h') : h.next ≤ h'.next := by
  unfold storeV at e
  split at e
  · split at e
    · rename_i B n _ _
      cases hc : (Nat.beq v.cells.size n && Nat.blt 0 n) <;> rw [hc] at e
      · cases e
      · simp only [cond_true] at e
        split at e
        · cases e; exact Nat.le_refl _
        · cases e
    · cases e
  · cases e

theorem opAlloc_next {x : Option Value} {r : AR} (e : opAlloc h x = some (r, h')) : h.next ≤ h'.next := by
  unfold opAlloc at e
  split at e
  · unfold pres at e
    split at e
    · rename_i hn; cases e; exact newB_le hn
    · cases e
  · cases e

theorem buildSlice_next {len : Nat} {d : Option TypeDesc} {vs : Option (List (Nat × Value))} {r : AR} (e : opBuildSlice C h len d vs = some (r, h')) : h.next ≤ h'.next := by
  unfold opBuildSlice at e
  split at e
  · unfold opBuildSlice2 at e
    split at e
    · rename_i sz z _ _
      cases hc : (Nat.beq sz 0 || Nat.blt 16777216 (Nat.mul len sz) || Nat.beq z.cells.size 0) <;> rw [hc] at e
      · simp only [cond_false] at e
        unfold bslice at e
        split at e
        · unfold sres at e
          split at e
          · rename_i hn; cases e; exact newB_le hn
          · cases e
        · cases e
      · cases e
    · cases e
  · cases e

theorem mkSlice_next {d : Option TypeDesc} {x y : Option Value} {r : AR} (e : mkSlice C h d x y = some (r, h')) : h.next ≤ h'.next := by
  unfold mkSlice at e
  split at e
  · unfold mkSlice2 at e
    split at e
    · rename_i l0 _ c0 _ _ _ sz by_ z _ _ _
      cases hc : (Nat.ble l0 c0 && Nat.ble (Nat.mul by_ c0) 1099511627776 && Nat.ble c0 4294967296 && Nat.blt 0 sz && Nat.blt 0 z.cells.size) <;> rw [hc] at e
      · cases e
      · simp only [cond_true] at e
        split at e
        · rename_i hn; cases e; exact newB_le hn
        · cases e
    · cases e
  · cases e

theorem convV_next {src dst : TypeId} {x v : Value} (e : convV C src dst x h = some (v, h')) : h.next ≤ h'.next := by
  unfold convV at e
  repeat' split at e
  all_goals first
    | (cases e; done)
    | (cases e; exact Nat.le_refl _)
    | (rename_i hn; cases e; exact newB_le hn)
    | (simp only [Option.map_eq_some_iff] at e; obtain ⟨_, _, e⟩ := e; cases e; exact Nat.le_refl _)

theorem appendV_next {ats : Array TypeId} {args : Array Value} {v : Value} (e : appendV C ats args h = some (v, h')) : h.next ≤ h'.next := by
  unfold appendV at e
  simp only [cond_eq_ite] at e
  repeat' split at e
  all_goals first
    | (cases e; done)
    | (cases e; exact Nat.le_refl _)
    | (rename_i hn _ _ _; cases e; have q := newB_le hn; exact q)
    | (rename_i hn _ _; cases e; have q := newB_le hn; exact q)
    | (rename_i hn _; cases e; have q := newB_le hn; exact q)
    | (rename_i hn; cases e; have q := newB_le hn; exact q)

theorem copyV_next {ats : Array TypeId} {args : Array Value} {v : Value} (e : copyV C ats args h = some (v, h')) : h.next ≤ h'.next := by
  unfold copyV at e
  simp only at e
  repeat' split at e
  all_goals first
    | (cases e; done)
    | (cases e; exact Nat.le_refl _)

theorem vhres_next {x : Option (Value × Hp)} {r : AR} (hx : ∀ v, x = some (v, h') → h.next ≤ h'.next) (e : vhres x = some (r, h')) : h.next ≤ h'.next := by
  obtain ⟨v, hv, _⟩ := vhres_inv e; exact hx v hv

theorem aop_next {o : Oper} {r : AR} (e : aop C o t h = some (r, h')) : h.next ≤ h'.next := by
  obtain ⟨dst, op, ty0, pos, after, guard⟩ := o
  unfold aop at e
  simp only at e
  cases op
  case move x => exact vres_next (show vres h (opd t x) = _ from e)
  case assign x => exact vres_next (show vres h (opd t x) = _ from e)
  case pick c x y => exact vres_next (show vres h (pickV (opd t c) (opd t x) (opd t y)) = _ from e)
  case alloc el => exact opAlloc_next (show opAlloc h (zeroT C el) = _ from e)
  case box el x => exact opAlloc_next (show opAlloc h (opd t x) = _ from e)
  case build ty ps =>
    have e' : opBuild C h ty (parts t ps.toList) = some (r, h') := e
    unfold opBuild at e'
    split at e'
    · exact vres_next e'
    · cases e'
  case buildSlice ty len ps => exact buildSlice_next (show opBuildSlice C h len (und C ty) (parts t ps.toList) = _ from e)
  case load ty x =>
    have e' : opLoad C h ty (opd t x) = some (r, h') := e
    unfold opLoad at e'
    split at e'
    · exact vres_next e'
    · cases e'
  case store ty x y =>
    have e' : opStore C h ty (opd t x) (opd t y) = some (r, h') := e
    unfold opStore at e'
    split at e'
    · unfold skres at e'
      split at e'
      · rename_i hs; cases e'; exact storeV_next hs
      · cases e'
    · cases e'
  case nilCheck x => exact vres_next (show vres h (nilV (opd t x)) = _ from e)
  case binOp op ty x y yt => exact vres_next (show vres h (opBin C op ty (opd t x) (opd t y)) = _ from e)
  case unOp op ty x => exact vres_next (show vres h (unV op (opd t x)) = _ from e)
  case convert src dst' x =>
    have e' : opConv C src dst' h (opd t x) = some (r, h') := e
    unfold opConv at e'
    split at e'
    · exact vhres_next (fun v hv => convV_next hv) e'
    · cases e'
  case makeInterface ty x => exact vres_next (show vres h (ifaceV ty (und C ty) (opd t x)) = _ from e)
  case makeFunc fn first cap => exact vres_next (show vres h (funV fn (opds t first.toList) (opds t cap.toList)) = _ from e)
  case makeSlice ty x y => exact mkSlice_next (show mkSlice C h (und C ty) (opd t x) (opd t y) = _ from e)
  case slice ty x lo hi mx => exact vres_next (show vres h (opSlice C h ty (opd t x) (optV opd t lo) (optV opd t hi) (optV opd t mx)) = _ from e)
  case fieldAddr s x k => exact vres_next (show vres h (opFieldAddr C k (und C s) (opd t x)) = _ from e)
  case field s x k => exact vres_next (show vres h (opField C k (und C s) (opd t x)) = _ from e)
  case indexAddr ty x i => exact vres_next (show vres h (opIndexAddr C (und C ty) (opd t x) (opd t i)) = _ from e)
  case index ty x i => exact vres_next (show vres h (opIndex C (und C ty) (opd t x) (opd t i)) = _ from e)
  case typeAssert x xT ty ok => exact vres_next (show vres h (opAssert ty ok (und C ty) (opd t x)) = _ from e)
  case extract x k => exact vres_next (show vres h (opExtract k (opd t x)) = _ from e)
  case panic x =>
    have e' : opPanic h (opd t x) = some (r, h') := e
    unfold opPanic at e'
    split at e'
    · cases e'; exact Nat.le_refl _
    · cases e'
  case call c =>
    have e' : opCall C t h c.callee c.argTypes (opds t c.args.toList) = some (r, h') := e
    unfold opCall at e'
    split at e'
    · split at e'
      · rename_i b _
        refine vhres_next (fun v hv => ?_) e'
        cases b <;> simp only [builtinV] at hv <;> first
          | (cases hv; done)
          | exact appendV_next hv
          | exact copyV_next hv
          | (simp only [Option.map_eq_some_iff] at hv; obtain ⟨_, _, hv⟩ := hv; cases hv; exact Nat.le_refl _)
      · obtain ⟨rfl, _⟩ := callO_inv e'; exact Nat.le_refl _
      · cases e'
    · cases e'
  all_goals (exact absurd e (by simp [aopSel, x_none]))

end
end Ev
