import Derived.Test.YtjgbkacigiidmaaGreatEvF
namespace Ev
open Go

def OpOk (P : Program) (s : Sem Next) (g : Gh) (h : Hp) (w : World) (r : AR) (h' : Hp) : Prop :=
  match r with
  | .val v => ∃ g' w' v', s.run P w = .ok (.value v') w' ∧ VR g' v v' ∧ WR g' h' w' ∧ Ext g h w g' h' w'
  | .skip => ∃ g' w', s.run P w = .ok .skip w' ∧ WR g' h' w' ∧ Ext g h w g' h' w'
  | .call f args => h' = h ∧ ∃ args' : Array Value, VRL g args.toList args'.toList ∧ s.run P w = (callFunc f args').run P w
  | .panic v => h' = h ∧ ∃ v', VR g v v' ∧ s.run P w = .halt (.panic v') w

/-- the ghost says nothing yet of what will be made. -/
def Fr (g : Gh) (h h' : Hp) : Prop := ∀ i, h.next ≤ i → i < h'.next → g i = none

theorem run_v {P : Program} {s : Sem Value} {w w' : World} {v : Value} (h : s.run P w = .ok v w') :
    (do pure (Next.value (← s)) : Sem Next).run P w = .ok (.value v) w' := by simp [h]

theorem OpOk.pure {P : Program} {s : Sem Next} {g : Gh} {h : Hp} {w : World} {v v' : Value} (hw : WR g h w)
    (hr : s.run P w = .ok (.value v') w) (hv : VR g v v') : OpOk P s g h w (.val v) h :=
  ⟨g, w, v', hr, hv, hw, Ext.refl g h w⟩

theorem vres_inv {h h' : Hp} {x : Option Value} {r : AR} (e : vres h x = some (r, h')) : ∃ v, x = some v ∧ r = .val v ∧ h' = h := by
  cases x with
  | none => cases e
  | some v => simp [vres] at e; exact ⟨v, rfl, e.1.symm, e.2.symm⟩

theorem VR.bool_inv {g : Gh} {b : Bool} {v : Value} (r : VR g (.bool b) v) : v = .bool b := by cases r; rfl
theorem VR.int_inv {g : Gh} {k : IntKind} {n : Int} {v : Value} (r : VR g (.int k n) v) : v = .int k n := by cases r; rfl
theorem VR.float_inv {g : Gh} {k : FloatKind} {n : Nat} {v : Value} (r : VR g (.float k n) v) : v = .float k n := by cases r; rfl
theorem VR.string_inv {g : Gh} {s : ByteArray} {v : Value} (r : VR g (.string s) v) : v = .string s := by cases r; rfl
theorem VR.iface_inv {g : Gh} {t : TypeId} {x v : Value} (r : VR g (.iface t x) v) : ∃ x', v = .iface t x' ∧ VR g x x' := by
  cases r with | iface _ _ v' h => exact ⟨v', rfl, h⟩
theorem VR.agg_inv {g : Gh} {a : Array Value} {v : Value} (r : VR g (.agg a) v) : ∃ a', v = .agg a' ∧ VRL g a.toList a'.toList := by
  cases r with | agg _ a' h => exact ⟨a', rfl, h⟩
theorem VR.tuple_inv {g : Gh} {a : Array Value} {v : Value} (r : VR g (.tuple a) v) : ∃ a', v = .tuple a' ∧ VRL g a.toList a'.toList := by
  cases r with | tuple _ a' h => exact ⟨a', rfl, h⟩
theorem VR.func_inv {g : Gh} {fn : Fn} {a b : Array Value} {v : Value} (r : VR g (.func fn a b) v) :
    ∃ a' b', v = .func fn a' b' ∧ VRL g a.toList a'.toList ∧ VRL g b.toList b'.toList := by
  cases r with | func _ _ a' _ b' ha hb => exact ⟨a', b', rfl, ha, hb⟩
theorem VR.ptr_inv {g : Gh} {i off : Nat} {sp : Option Nat} {v : Value} (r : VR g (.pointer (some ⟨i, off, sp⟩)) v) :
    sp = none ∧ ∃ x, g i = some x ∧ v = .pointer (some ⟨x.b, off, none⟩) := by
  cases r with | ptr _ _ x h => exact ⟨rfl, x, h, rfl⟩
theorem VR.ptrN_inv {g : Gh} {v : Value} (r : VR g (.pointer none) v) : v = .pointer none := by cases r; rfl
theorem VR.slice_inv {g : Gh} {i off n c : Nat} {sp : Option Nat} {v : Value} (r : VR g (.slice (some ⟨i, off, sp⟩) n c) v) :
    sp = none ∧ ∃ x c', g i = some x ∧ capR x off c c' ∧ v = .slice (some ⟨x.b, off, none⟩) n c' := by
  cases r with | slice _ _ _ _ c' x h hc => exact ⟨rfl, x, c', h, hc, rfl⟩
theorem VR.sliceN_inv {g : Gh} {n c : Nat} {v : Value} (r : VR g (.slice none n c) v) :
    n = 0 ∧ ((c = 0 ∧ v = .slice none 0 0) ∨ (c = 1 ∧ ∃ a' c', v = .slice a' 0 c')) := by
  cases r with
  | nilSlice => exact ⟨rfl, .inl ⟨rfl, rfl⟩⟩
  | emptySlice a' c' => exact ⟨rfl, .inr ⟨rfl, a', c', rfl⟩⟩
theorem VR.sliceN0_inv {g : Gh} {n : Nat} {v : Value} (r : VR g (.slice none n 0) v) : n = 0 ∧ v = .slice none 0 0 := by
  cases r; exact ⟨rfl, rfl⟩

section
variable {C : Ctx} {P : Program} (hC : CtxOk C P) {g : Gh} {h h' : Hp} {w : World} {t : Tr Value} {a : Act}

theorem pick_ok {c x y : Operand} {v : Value} (ht : TR g t a.tmps) (e : pickV (opd t c) (opd t x) (opd t y) = some v) :
    ∃ v', (do pure (Next.value (if ← asBool (a.eval c) then a.eval x else a.eval y)) : Sem Next).run P w = .ok (.value v') w ∧ VR g v v' := by
  unfold pickV at e
  split at e
  · rename_i b u1 u2 h1 h2 h3
    have e1 := (opd_rel ht h1).bool_inv
    have e2 := opd_rel ht h2
    have e3 := opd_rel ht h3
    cases b with
    | true => simp at e; subst e; exact ⟨_, by simp [e1, asBool], e2⟩
    | false => simp at e; subst e; exact ⟨_, by simp [e1, asBool], e3⟩
  · cases e

/-- a box of these cells. -/
theorem box_ok {ty : TypeId} {v v' : Value} {i : Nat} (hw : WR g h w) (hf : Fr g h h') (hv : VR g v v') (e : newB h ⟨v.cells.toList, 0, false⟩ = some (i, h')) :
    ∃ g' w' p', (do pure (Value.pointer (some (← newVar ty v'))) : Sem Value).run P w = .ok p' w' ∧ VR g' (.pointer (some ⟨i, 0, none⟩)) p' ∧ WR g' h' w' ∧ Ext g h w g' h' w' := by
  have hi : i = h.next ∧ i < h'.next := by
    unfold newB at e
    cases hb : Nat.blt h.next limH <;> rw [hb] at e <;> simp at e
    obtain ⟨rfl, rfl⟩ := e
    exact ⟨rfl, Nat.lt_succ_self _⟩
  have hcs := hv.cells
  obtain ⟨g', r1, r2, r3, _⟩ := hw.alloc (w' := w.alloc (.cells v'.cells ty)) (csz := v'.cells.size) (c := v'.cells) (el := ty) e (hf i (by omega) hi.2) rfl (by simp) rfl rfl rfl
    (by have := hcs.length; simp at this ⊢; omega) (fun k u hu => by simpa using hcs.get hu)
  refine ⟨g', w.alloc (.cells v'.cells ty), .pointer (some ⟨w.heap.size, 0, none⟩), ?_, ?_, r1, r2⟩
  · simp [newVar, newRow]
  · exact VR.ptr i 0 _ r3

theorem load_ok {ty : TypeId} {p p' v : Value} (hw : WR g h w) (hp : VR g p p') (hC : CtxOk C P) (e : loadV C h ty p = some v) :
    ∃ v', (Instr.loadAt ty p').run P w = .ok v' w ∧ VR g v v' := by
  unfold loadV at e
  split at e
  · rename_i b off
    obtain ⟨_, x, hx, rfl⟩ := hp.ptr_inv
    split at e
    · rename_i B d hB hd
      obtain ⟨x', hx', br⟩ := hw.live b B hB
      rw [hx] at hx'; cases hx'
      cases ha : isAggD d with
      | true =>
        rw [ha] at e
        simp only [cond_true] at e
        split at e
        · rename_i n hn
          simp only [Option.map_eq_some_iff] at e
          obtain ⟨l, hl, rfl⟩ := e
          obtain ⟨l', hl', rel⟩ := run_loadCells_rel (P := P) br hl
          refine ⟨.agg l'.toArray, ?_, .agg _ _ (by simpa using rel)⟩
          simp [Instr.loadAt, Instr.sureAddr, loadVar, run_isAgg hC hd, ha, run_sizeOf hC hn, hl']
        · cases e
      | false =>
        rw [ha] at e
        simp only [cond_false] at e
        obtain ⟨v', hv', rel⟩ := run_load_rel (P := P) br e
        refine ⟨v', ?_, rel⟩
        simp only [Instr.loadAt, Instr.sureAddr, loadVar, Sem.run_bind, Sem.run_pure, Result.andThen_ok, run_isAgg hC hd, ha]
        simpa using hv'
    · cases e
  · cases e

theorem store_ok {ty : TypeId} {p p' v v' : Value} (hw : WR g h w) (hp : VR g p p') (hv : VR g v v') (hC : CtxOk C P) (e : storeV C h ty p v = some h') :
    ∃ w', (Instr.storeAt ty p' v').run P w = .ok () w' ∧ WR g h' w' ∧ Ext g h w g h' w' := by
  unfold storeV at e
  split at e
  · rename_i b off
    obtain ⟨_, x, hx, rfl⟩ := hp.ptr_inv
    split at e
    · rename_i B n hB hn
      cases hsz0 : (Nat.beq v.cells.size n && Nat.blt 0 n) with
      | false => rw [hsz0] at e; cases e
      | true =>
      rw [hsz0] at e
      simp only [cond_true] at e
      simp only [Bool.and_eq_true] at hsz0
      obtain ⟨hsz, hpos⟩ := hsz0
      have hpos : 0 < n := by simpa [Nat.blt_eq] using hpos
      split at e
      · rename_i l hl
        cases e
        obtain ⟨x', hx', br⟩ := hw.live b B hB
        rw [hx] at hx'; cases hx'
        obtain ⟨c, el, fr, h1, h2, h3, h4⟩ := br.ex
        obtain ⟨e1, e2, e3, e4⟩ := paste_spec _ _ _ _ hl
        have hcs := hv.cells
        have hlen := hcs.length
        have hone : ∀ u ∈ v'.cells.toList, u.oneCell' = true := by
          intro u hu
          obtain ⟨k, hk⟩ := List.mem_iff_getElem?.1 hu
          have hklt : k < v.cells.toList.length := by
            rw [hlen]
            rcases Nat.lt_or_ge k v'.cells.toList.length with h' | h'
            · exact h'
            · rw [List.getElem?_eq_none h'] at hk; cases hk
          obtain ⟨u', hu', rr⟩ := hcs.get (k := k) (v := v.cells.toList[k]) (List.getElem?_eq_getElem hklt)
          rw [hk] at hu'; cases hu'
          have := e3 v.cells.toList[k] (List.getElem_mem hklt)
          exact isCell_one (by rw [rr.isCell_iff]; exact this)
        have hle : off + 0 + v'.cells.toList.length ≤ c.size := by
          have := br.le
          have := br.len
          have hne : v.cells.toList ≠ [] := by
            intro h0
            have h1 := Nat.eq_of_beq_eq_true hsz
            have : v.cells.size = 0 := by have := congrArg List.length h0; simpa using this
            omega
          have := e2 hne
          omega
        obtain ⟨w', c', hrun, hwr⟩ := run_storeCells_block (P := P) (off := off) v'.cells.toList 0 w c h1 (fun _ => hle) (by rw [h2]; exact h3) hone
        obtain ⟨r1, r2⟩ := hw.wrote hB hx h1 hl hcs (by simpa using hwr)
        refine ⟨w', ?_, r1, r2⟩
        have hsz' : v'.cells.size = n := by rw [hv.cells_size]; exact Nat.eq_of_beq_eq_true hsz
        simp [Instr.storeAt, Instr.sureAddr, storeVar, run_sizeOf hC hn, hsz', hrun]
      · cases e
    · cases e
  · cases e

end
end Ev
