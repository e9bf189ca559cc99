import Derived.Test.YtfgbamkopfepdaaGreatDoorEA
import Derived.Laws.Build
import Derived.IntWalk
namespace Ev
open Go

theorem VRL.set {g : Gh} : ∀ {l l' : List Value}, VRL g l l' → ∀ {k : Nat} {v v' : Value}, VR g v v' → VRL g (l.set k v) (l'.set k v')
  | _, _, .nil, k, v, v', _ => by simpa using .nil
  | _, _, .cons hv t, 0, v, v', h => .cons h t
  | _, _, .cons hv t, k + 1, v, v', h => .cons hv (VRL.set t h)

theorem fold_rel {g : Gh} (off : Nat) : ∀ {l l' : List Value} (n : Nat) {cs cs' : Array Value}, VRL g l l' → VRL g cs.toList cs'.toList →
    VRL g ((l.zipIdx n).foldl (fun (cs : Array Value) (x : Value × Nat) => cs.setIfInBounds (off + x.2) x.1) cs).toList
      ((l'.zipIdx n).foldl (fun (cs : Array Value) (x : Value × Nat) => cs.setIfInBounds (off + x.2) x.1) cs').toList
  | [], _, n, cs, cs', .nil, h => by simpa using h
  | _ :: _, _, n, cs, cs', .cons hv t, h => by
    simp only [List.zipIdx_cons, List.foldl_cons]
    refine fold_rel off (n + 1) t ?_
    simp only [Array.toList_setIfInBounds]
    exact VRL.set h hv

theorem fill_rel {g : Gh} (place : Nat → Option (Nat × Nat)) : ∀ {ps ps' : List (Nat × Value)} {cs cs' r : Array Value}, VRP g ps ps' → VRL g cs.toList cs'.toList →
    Instr.fill place cs ps = some r → ∃ r', Instr.fill place cs' ps' = some r' ∧ VRL g r.toList r'.toList
  | [], _, cs, cs', r, .nil, hc, h => by simp [Instr.fill] at h; subst h; exact ⟨cs', by simp [Instr.fill], hc⟩
  | (i, v) :: ps, _, cs, cs', r, .cons (v' := v') (l' := ps') hv t, hc, h => by
    simp only [Instr.fill] at h ⊢
    cases hp : place i with
    | none => rw [hp] at h; cases h
    | some os =>
      obtain ⟨off, size⟩ := os
      rw [hp] at h
      have e1 := hv.cells_size
      have e2 : cs'.size = cs.size := by have := hc.length; simpa using this.symm
      simp only [e1, e2] at h ⊢
      split at h
      · cases h
      · rename_i hn
        rw [if_neg hn]
        refine fill_rel place t ?_ h
        have := fold_rel (g := g) off 0 hv.cells hc
        rw [← Array.foldl_toList, ← Array.foldl_toList, Array.toList_zipIdx, Array.toList_zipIdx]
        exact this

theorem zeros_closed {g : Gh} : ∀ {l : List Value}, l.all closedV = true → VRL g l l
  | [], _ => .nil
  | v :: l, h => by simp at h; exact .cons (VR.of_closed h.1) (zeros_closed (by simpa using h.2))

section
variable {C : Ctx} {P : Program} {g : Gh} {w : World}

theorem places_eq : ∀ (fs : List Field) {pl : List (Nat × Nat)}, (∀ t i, C.ty.get t = some i → P.info? t = some i) → places C fs = some pl →
    fs.mapM (fun f => (P.info? f.type).map fun i => (f.offset, i.size)) = some pl
  | [], pl, _, h => by simp [places] at h; subst h; rfl
  | f :: fs, pl, hC, h => by
    simp only [places] at h
    split at h
    · rename_i n r h1 h2
      cases h
      simp only [sizeT, Option.map_eq_some_iff] at h1
      obtain ⟨i, hi, rfl⟩ := h1
      simp [List.mapM_cons, hC _ _ hi, places_eq fs hC h2]
    · cases h


theorem build_ok (hC : CtxOk C P) {ty : TypeId} {ps : List (Nat × Value)} {ps' : Array (Nat × Value)} {v : Value} (hp : VRP g ps ps'.toList) (h : buildV C ty ps = some v) : ∃ v', (Instr.build ty ps').run P w = .ok v' w ∧ VR g v v' := by
  unfold buildV at h
  split at h
  · rename_i z fields h1 h2
    have hz' : VRL g z.cells.toList z.cells.toList := zeros_closed (hC.zc _ z h1)
    split at h
    · rename_i pl hpl
      simp only [Option.map_eq_some_iff] at h
      obtain ⟨r, hr, rfl⟩ := h
      obtain ⟨r', hr', hrel⟩ := fill_rel _ hp hz' hr
      obtain ⟨i, hi, hzi⟩ := zero_ok hC h1
      refine ⟨.agg r', ?_, .agg _ _ hrel⟩
      refine run_build w ty ps' r' ?_
      unfold Program.built
      simp only [hi, und_ok hC h2, hzi, places_eq fields.toList hC.ty hpl]
      simpa using hr'
    · cases h
  · rename_i z n e h1 h2
    have hz' : VRL g z.cells.toList z.cells.toList := zeros_closed (hC.zc _ z h1)
    split at h
    · rename_i sz hsz
      simp only [Option.map_eq_some_iff] at h
      obtain ⟨r, hr, rfl⟩ := h
      obtain ⟨r', hr', hrel⟩ := fill_rel _ hp hz' hr
      obtain ⟨i, hi, hzi⟩ := zero_ok hC h1
      obtain ⟨ie, hie, rfl⟩ := size_ok hC hsz
      refine ⟨.agg r', ?_, .agg _ _ hrel⟩
      refine run_build w ty ps' r' ?_
      unfold Program.built
      simp only [hi, und_ok hC h2, hzi, hie]
      exact hr'
    · cases h
  · cases h

theorem part_ok (hC : CtxOk C P) {ty : TypeId} {cs cs' : Array Value} {off : Nat} {v : Value} (hcs : VRL g cs.toList cs'.toList) (h : partV C ty cs off = some v) :
    ∃ v', (part ty cs' off).run P w = .ok v' w ∧ VR g v v' := by
  unfold partV at h
  split at h
  · rename_i d hd
    cases ha : isAggD d with
    | true =>
      rw [ha] at h
      simp only [cond_true, Option.map_eq_some_iff] at h
      obtain ⟨n, hn, rfl⟩ := h
      refine ⟨.agg (cs'.extract off (off + n)), ?_, .agg _ _ ?_⟩
      · simp [part, run_isAgg hC hd, ha, run_sizeOf hC hn]
      · have := (hcs.drop off).take n
        simp only [Array.toList_extract]
        simpa [List.extract_eq_take_drop] using this
    | false =>
      rw [ha] at h
      simp only [cond_false] at h
      obtain ⟨v', hv', r⟩ := hcs.get (k := off) (v := v) (by simpa using h)
      refine ⟨v', ?_, r⟩
      have hv'' : cs'[off]? = some v' := by simpa using hv'
      simp [part, run_isAgg hC hd, ha, hv'']
  · cases h

end

end Ev
namespace Ev
open Go

def OpOk (P : Program) (s : Sem Next) (g : Gh) (h : Hp) (w : World) (r : AR) (h' : Hp) : Prop :=
  match r with
  | .val v => ∃ g' w' v', s.run P w = .ok (.value v') w' ∧ VR g' v v' ∧ WR g' h' w' ∧ Ext g h w g' h' w'
  | .skip => ∃ g' w', s.run P w = .ok .skip w' ∧ WR g' h' w' ∧ Ext g h w g' h' w'
  | .call f args => h' = h ∧ ∃ args' : Array Value, VRL g args.toList args'.toList ∧ s.run P w = (callFunc f args').run P w
  | .panic v => h' = h ∧ ∃ v', VR g v v' ∧ s.run P w = .halt (.panic v') w

/-- the ghost says nothing yet of what will be made. -/
def Fr (g : Gh) (h h' : Hp) : Prop := ∀ i, h.next ≤ i → i < h'.next → g i = none

theorem run_v {P : Program} {s : Sem Value} {w w' : World} {v : Value} (h : s.run P w = .ok v w') :
    (do pure (Next.value (← s)) : Sem Next).run P w = .ok (.value v) w' := by simp [h]

theorem OpOk.pure {P : Program} {s : Sem Next} {g : Gh} {h : Hp} {w : World} {v v' : Value} (hw : WR g h w)
    (hr : s.run P w = .ok (.value v') w) (hv : VR g v v') : OpOk P s g h w (.val v) h :=
  ⟨g, w, v', hr, hv, hw, Ext.refl g h w⟩

theorem vres_inv {h h' : Hp} {x : Option Value} {r : AR} (e : vres h x = some (r, h')) : ∃ v, x = some v ∧ r = .val v ∧ h' = h := by
  cases x with
  | none => cases e
  | some v => simp [vres] at e; exact ⟨v, rfl, e.1.symm, e.2.symm⟩

theorem VR.bool_inv {g : Gh} {b : Bool} {v : Value} (r : VR g (.bool b) v) : v = .bool b := by cases r; rfl
theorem VR.int_inv {g : Gh} {k : IntKind} {n : Int} {v : Value} (r : VR g (.int k n) v) : v = .int k n := by cases r; rfl
theorem VR.float_inv {g : Gh} {k : FloatKind} {n : Nat} {v : Value} (r : VR g (.float k n) v) : v = .float k n := by cases r; rfl
theorem VR.string_inv {g : Gh} {s : ByteArray} {v : Value} (r : VR g (.string s) v) : v = .string s := by cases r; rfl
theorem VR.iface_inv {g : Gh} {t : TypeId} {x v : Value} (r : VR g (.iface t x) v) : ∃ x', v = .iface t x' ∧ VR g x x' := by
  cases r with | iface _ _ v' h => exact ⟨v', rfl, h⟩
theorem VR.agg_inv {g : Gh} {a : Array Value} {v : Value} (r : VR g (.agg a) v) : ∃ a', v = .agg a' ∧ VRL g a.toList a'.toList := by
  cases r with | agg _ a' h => exact ⟨a', rfl, h⟩
theorem VR.tuple_inv {g : Gh} {a : Array Value} {v : Value} (r : VR g (.tuple a) v) : ∃ a', v = .tuple a' ∧ VRL g a.toList a'.toList := by
  cases r with | tuple _ a' h => exact ⟨a', rfl, h⟩
theorem VR.func_inv {g : Gh} {fn : Fn} {a b : Array Value} {v : Value} (r : VR g (.func fn a b) v) :
    ∃ a' b', v = .func fn a' b' ∧ VRL g a.toList a'.toList ∧ VRL g b.toList b'.toList := by
  cases r with | func _ _ a' _ b' ha hb => exact ⟨a', b', rfl, ha, hb⟩
theorem VR.ptr_inv {g : Gh} {i off : Nat} {sp : Option Nat} {v : Value} (r : VR g (.pointer (some ⟨i, off, sp⟩)) v) :
    sp = none ∧ ∃ x, g i = some x ∧ v = .pointer (some ⟨x.b, off, none⟩) := by
  cases r with | ptr _ _ x h => exact ⟨rfl, x, h, rfl⟩
theorem VR.ptrN_inv {g : Gh} {v : Value} (r : VR g (.pointer none) v) : v = .pointer none := by cases r; rfl
theorem VR.slice_inv {g : Gh} {i off n c : Nat} {sp : Option Nat} {v : Value} (r : VR g (.slice (some ⟨i, off, sp⟩) n c) v) :
    sp = none ∧ ∃ x c', g i = some x ∧ capR x off c c' ∧ v = .slice (some ⟨x.b, off, none⟩) n c' := by
  cases r with | slice _ _ _ _ c' x h hc => exact ⟨rfl, x, c', h, hc, rfl⟩
theorem VR.sliceN_inv {g : Gh} {n c : Nat} {v : Value} (r : VR g (.slice none n c) v) :
    n = 0 ∧ ((c = 0 ∧ v = .slice none 0 0) ∨ (c = 1 ∧ ∃ a' c', v = .slice a' 0 c')) := by
  cases r with
  | nilSlice => exact ⟨rfl, .inl ⟨rfl, rfl⟩⟩
  | emptySlice a' c' => exact ⟨rfl, .inr ⟨rfl, a', c', rfl⟩⟩
theorem VR.sliceN0_inv {g : Gh} {n : Nat} {v : Value} (r : VR g (.slice none n 0) v) : n = 0 ∧ v = .slice none 0 0 := by
  cases r; exact ⟨rfl, rfl⟩

section
variable {C : Ctx} {P : Program} (hC : CtxOk C P) {g : Gh} {h h' : Hp} {w : World} {t : Tr Value} {a : Act}

theorem pick_ok {c x y : Operand} {v : Value} (ht : TR g t a.tmps) (e : pickV (opd t c) (opd t x) (opd t y) = some v) :
    ∃ v', (do pure (Next.value (if ← asBool (a.eval c) then a.eval x else a.eval y)) : Sem Next).run P w = .ok (.value v') w ∧ VR g v v' := by
  unfold pickV at e
  split at e
  · rename_i b u1 u2 h1 h2 h3
    have e1 := (opd_rel ht h1).bool_inv
    have e2 := opd_rel ht h2
    have e3 := opd_rel ht h3
    cases b with
    | true => simp at e; subst e; exact ⟨_, by simp [e1, asBool], e2⟩
    | false => simp at e; subst e; exact ⟨_, by simp [e1, asBool], e3⟩
  · cases e

/-- a box of these cells. -/
theorem box_ok {ty : TypeId} {v v' : Value} {i : Nat} (hw : WR g h w) (hf : Fr g h h') (hv : VR g v v') (e : newB h ⟨v.cells.toList, 0, false⟩ = some (i, h')) :
    ∃ g' w' p', (do pure (Value.pointer (some (← newVar ty v'))) : Sem Value).run P w = .ok p' w' ∧ VR g' (.pointer (some ⟨i, 0, none⟩)) p' ∧ WR g' h' w' ∧ Ext g h w g' h' w' := by
  have hi : i = h.next ∧ i < h'.next := by
    unfold newB at e
    cases hb : Nat.blt h.next limH <;> rw [hb] at e <;> simp at e
    obtain ⟨rfl, rfl⟩ := e
    exact ⟨rfl, Nat.lt_succ_self _⟩
  have hcs := hv.cells
  obtain ⟨g', r1, r2, r3, _⟩ := hw.alloc (w' := w.alloc (.cells v'.cells ty)) (csz := v'.cells.size) (c := v'.cells) (el := ty) e (hf i (by omega) hi.2) rfl (by simp) rfl rfl rfl
    (by have := hcs.length; simp at this ⊢; omega) (fun k u hu => by simpa using hcs.get hu)
  refine ⟨g', w.alloc (.cells v'.cells ty), .pointer (some ⟨w.heap.size, 0, none⟩), ?_, ?_, r1, r2⟩
  · simp [newVar, newRow]
  · exact VR.ptr i 0 _ r3

theorem load_ok {ty : TypeId} {p p' v : Value} (hw : WR g h w) (hp : VR g p p') (hC : CtxOk C P) (e : loadV C h ty p = some v) :
    ∃ v', (Instr.loadAt ty p').run P w = .ok v' w ∧ VR g v v' := by
  unfold loadV at e
  split at e
  · rename_i b off
    obtain ⟨_, x, hx, rfl⟩ := hp.ptr_inv
    split at e
    · rename_i B d hB hd
      obtain ⟨x', hx', br⟩ := hw.live b B hB
      rw [hx] at hx'; cases hx'
      cases ha : isAggD d with
      | true =>
        rw [ha] at e
        simp only [cond_true] at e
        split at e
        · rename_i n hn
          simp only [Option.map_eq_some_iff] at e
          obtain ⟨l, hl, rfl⟩ := e
          obtain ⟨l', hl', rel⟩ := run_loadCells_rel (P := P) br hl
          refine ⟨.agg l'.toArray, ?_, .agg _ _ (by simpa using rel)⟩
          simp [Instr.loadAt, Instr.sureAddr, loadVar, run_isAgg hC hd, ha, run_sizeOf hC hn, hl']
        · cases e
      | false =>
        rw [ha] at e
        simp only [cond_false] at e
        obtain ⟨v', hv', rel⟩ := run_load_rel (P := P) br e
        refine ⟨v', ?_, rel⟩
        simp only [Instr.loadAt, Instr.sureAddr, loadVar, Sem.run_bind, Sem.run_pure, Result.andThen_ok, run_isAgg hC hd, ha]
        simpa using hv'
    · cases e
  · cases e

theorem store_ok {ty : TypeId} {p p' v v' : Value} (hw : WR g h w) (hp : VR g p p') (hv : VR g v v') (hC : CtxOk C P) (e : storeV C h ty p v = some h') :
    ∃ w', (Instr.storeAt ty p' v').run P w = .ok () w' ∧ WR g h' w' ∧ Ext g h w g h' w' := by
  unfold storeV at e
  split at e
  · rename_i b off
    obtain ⟨_, x, hx, rfl⟩ := hp.ptr_inv
    split at e
    · rename_i B n hB hn
      cases hsz0 : (Nat.beq v.cells.size n && Nat.blt 0 n) with
      | false => rw [hsz0] at e; cases e
      | true =>
      rw [hsz0] at e
      simp only [cond_true] at e
      simp only [Bool.and_eq_true] at hsz0
      obtain ⟨hsz, hpos⟩ := hsz0
      have hpos : 0 < n := by simpa [Nat.blt_eq] using hpos
      split at e
      · rename_i l hl
        cases e
        obtain ⟨x', hx', br⟩ := hw.live b B hB
        rw [hx] at hx'; cases hx'
        obtain ⟨c, el, fr, h1, h2, h3, h4⟩ := br.ex
        obtain ⟨e1, e2, e3, e4⟩ := paste_spec _ _ _ _ hl
        have hcs := hv.cells
        have hlen := hcs.length
        have hone : ∀ u ∈ v'.cells.toList, u.oneCell' = true := by
          intro u hu
          obtain ⟨k, hk⟩ := List.mem_iff_getElem?.1 hu
          have hklt : k < v.cells.toList.length := by
            rw [hlen]
            rcases Nat.lt_or_ge k v'.cells.toList.length with h' | h'
            · exact h'
            · rw [List.getElem?_eq_none h'] at hk; cases hk
          obtain ⟨u', hu', rr⟩ := hcs.get (k := k) (v := v.cells.toList[k]) (List.getElem?_eq_getElem hklt)
          rw [hk] at hu'; cases hu'
          have := e3 v.cells.toList[k] (List.getElem_mem hklt)
          exact isCell_one (by rw [rr.isCell_iff]; exact this)
        have hle : off + 0 + v'.cells.toList.length ≤ c.size := by
          have := br.le
          have := br.len
          have hne : v.cells.toList ≠ [] := by
            intro h0
            have h1 := Nat.eq_of_beq_eq_true hsz
            have : v.cells.size = 0 := by have := congrArg List.length h0; simpa using this
            omega
          have := e2 hne
          omega
        obtain ⟨w', c', hrun, hwr⟩ := run_storeCells_block (P := P) (off := off) v'.cells.toList 0 w c h1 (fun _ => hle) (by rw [h2]; exact h3) hone
        obtain ⟨r1, r2⟩ := hw.wrote hB hx h1 hl hcs (by simpa using hwr)
        refine ⟨w', ?_, r1, r2⟩
        have hsz' : v'.cells.size = n := by rw [hv.cells_size]; exact Nat.eq_of_beq_eq_true hsz
        simp [Instr.storeAt, Instr.sureAddr, storeVar, run_sizeOf hC hn, hsz', hrun]
      · cases e
    · cases e
  · cases e

end
end Ev
namespace Ev
open Go

theorem pureOf_run {α : Type} {P : Program} {w : World} {s : Sem α} {v : α} (h : pureOf s = some v) : s.run P w = .ok v w := by
  cases s <;> simp [pureOf] at h
  subst h; rfl

theorem ble_cond {α : Type} (m k : Nat) (x y : α) (h : m ≤ k → x = y) : cond (Nat.ble m k) x y = y := by
  cases hb : Nat.ble m k with
  | false => rfl
  | true => exact h (Nat.le_of_ble_eq_true hb)

theorem wrapF_eq (k : IntKind) (n : Int) : wrapF k n = k.wrap n := by
  cases k <;> cases n <;> simp only [wrapF]
  case i64.ofNat m => exact ble_cond m _ _ _ fun hm => (IntWalk.i64_in (m : Int) ⟨by omega, by omega⟩).symm
  case i64.negSucc m => exact ble_cond m _ _ _ fun hm => (IntWalk.i64_in (Int.negSucc m) ⟨by omega, by omega⟩).symm
  case u8.ofNat m => rw [IntKind.wrap_u8]; simp
  case u64.ofNat m => exact ble_cond m _ _ _ fun hm => (IntWalk.u64_in (m : Int) ⟨by omega, by omega⟩).symm

section
variable {C : Ctx} {P : Program} {g : Gh} {h h' : Hp} {w : World} {t : Tr Value} {a : Act}

theorem run_run_wrap_add {k : IntKind} {x y : Int} : (Op.intArith .add k x y).run P w = .ok (.int k (wrapF k (x + y))) w := by simp [Op.intArith, wrapF_eq]

/-! equality -/

theorem eqFields_ok {d D : Nat} {xs ys xs' ys' : Array Value} (hC : CtxOk C P) (hx : VRL g xs.toList xs'.toList) (hy : VRL g ys.toList ys'.toList)
    (ih : ∀ t x y x' y' r, VR g x x' → VR g y y' → eqV C d t x y = some r → (Op.equalIn D t x' y').run P w = .ok r w) :
    ∀ (fs : List Field) {r : Bool}, eqFields (eqV C d) C xs ys fs = some r → (Op.eqFields D xs' ys' fs).run P w = .ok r w
  | [], r, e => by simp [eqFields] at e; subst e; simp [Op.eqFields]
  | f :: fs, r, e => by
    simp only [eqFields] at e
    cases hn : (f.name == "_") with
    | true => rw [hn] at e; cases e
    | false =>
    rw [hn] at e
    simp only [cond_false] at e
    have hne : f.name ≠ "_" := by simpa using hn
    split at e
    · rename_i u v h1 h2
      obtain ⟨u', hu', ru⟩ := part_ok (P := P) (w := w) hC hx h1
      obtain ⟨v', hv', rv⟩ := part_ok (P := P) (w := w) hC hy h2
      split at e
      · rename_i h3
        have := ih _ _ _ _ _ _ ru rv h3
        simp [Op.eqFields, hne, hu', hv', this, eqFields_ok hC hx hy ih fs e]
      · rename_i h3
        cases e
        have := ih _ _ _ _ _ _ ru rv h3
        simp [Op.eqFields, hne, hu', hv', this]
      · cases e
    · cases e

theorem fieldsOf_eq {t : TypeId} {fs : Array Field} (h : P.underlying t = some (.struct fs)) : P.fieldsOf t = fs := by
  simp [Program.fieldsOf, h]

theorem eqV_ok (hC : CtxOk C P) : ∀ (d D : Nat) (t : TypeId) (x y x' y' : Value) (r : Bool), d ≤ D → VR g x x' → VR g y y' → eqV C d t x y = some r →
    (Op.equalIn D t x' y').run P w = .ok r w
  | 0, _, _, _, _, _, _, _, _, _, _, e => by simp [eqV] at e
  | d + 1, 0, _, _, _, _, _, _, hd, _, _, _ => by omega
  | d + 1, D + 1, t, x, y, x', y', r, hd, hx, hy, e => by
    simp only [eqV] at e
    split at e
    · rename_i hu; rw [hx.bool_inv, hy.bool_inv]; cases e; simp [Op.equalIn, run_underlying hC hu]
    · rename_i k a k' b hu; rw [hx.int_inv, hy.int_inv]
      split at e
      · rename_i hk; subst hk; cases e; simp [Op.equalIn, run_underlying hC hu]
      · cases e
    · rename_i k a k' b hu; rw [hx.float_inv, hy.float_inv]
      split at e
      · rename_i hk; subst hk; cases e; simp [Op.equalIn, run_underlying hC hu]
      · cases e
    · rename_i hu; rw [hx.string_inv, hy.string_inv]; cases e; simp [Op.equalIn, run_underlying hC hu]
    · rename_i b hu
      rw [hx.ptrN_inv]; cases e
      cases b with
      | none => rw [hy.ptrN_inv]; simp [Op.equalIn, run_underlying hC hu]
      | some b => obtain ⟨_, x, _, rfl⟩ := hy.ptr_inv; simp [Op.equalIn, run_underlying hC hu]
    · rename_i a hu
      rw [hy.ptrN_inv]; cases e
      obtain ⟨_, x, _, rfl⟩ := hx.ptr_inv; simp [Op.equalIn, run_underlying hC hu]
    · rename_i hu
      rw [hx.sliceN0_inv.2, hy.sliceN0_inv.2]; cases e; simp [Op.equalIn, run_underlying hC hu]
    · rename_i hu
      obtain ⟨_, x, _, _, _, rfl⟩ := hy.slice_inv
      rw [hx.sliceN0_inv.2]; cases e; simp [Op.equalIn, run_underlying hC hu]
    · rename_i hu
      obtain ⟨_, x, _, _, _, rfl⟩ := hx.slice_inv
      rw [hy.sliceN0_inv.2]; cases e; simp [Op.equalIn, run_underlying hC hu]
    · rename_i hu; cases hx; cases hy; cases e; simp [Op.equalIn, run_underlying hC hu]
    · rename_i hu; cases hx; obtain ⟨_, _, rfl, _, _⟩ := hy.func_inv; cases e; simp [Op.equalIn, run_underlying hC hu]
    · rename_i hu; cases hy; obtain ⟨_, _, rfl, _, _⟩ := hx.func_inv; cases e; simp [Op.equalIn, run_underlying hC hu]
    · rename_i fs xs ys hu
      obtain ⟨xs', rfl, hxs⟩ := hx.agg_inv
      obtain ⟨ys', rfl, hys⟩ := hy.agg_inv
      cases hc : C.eqs.contains t with
      | false => rw [hc] at e; cases e
      | true =>
      rw [hc] at e
      simp only [cond_true] at e
      have ht := und_ok hC hu
      have hf := fieldsOf_eq ht
      rw [run_equalIn_struct w D t xs' ys' (by rw [hf]; exact ht) (hC.eqs t (by simpa using hc)), hf]
      exact eqFields_ok hC hxs hys (fun t x y x' y' r a b c => eqV_ok hC d D t x y x' y' r (by omega) a b c) fs.toList e
    · cases e

def plainPair : Value → Value → Bool
  | .int _ _, .int _ _ | .float _ _, .float _ _ | .complex _ _ _, .complex _ _ _ | .string _, .string _ => false
  | _, _ => true

theorem binOp_eql {t : TypeId} {x y : Value} (h : plainPair x y = true) : binOp .eql t x y = (do pure (.bool (← Op.equal t x y)) : Sem Value) := by
  cases x <;> cases y <;> first | rfl | (simp [plainPair] at h)

theorem binOp_neq {t : TypeId} {x y : Value} (h : plainPair x y = true) : binOp .neq t x y = (do pure (.bool (!(← Op.equal t x y))) : Sem Value) := by
  cases x <;> cases y <;> first | rfl | (simp [plainPair] at h)

theorem plainPair_rel {x y x' y' : Value} (hx : VR g x x') (hy : VR g y y') (h1 : x ≠ .chan none) (h2 : y ≠ .chan none) : plainPair x' y' = plainPair x y := by
  cases hx <;> cases hy <;> first | rfl | exact absurd rfl h1 | exact absurd rfl h2

theorem eqV_chan {t : TypeId} {x y : Value} {r : Bool} {d : Nat} (e : eqV C d t x y = some r) (c : Option Nat) : x ≠ .chan c ∧ y ≠ .chan c := by
  cases d with
  | zero => cases e
  | succ d =>
    unfold eqV at e
    split at e <;> first | (cases e; done) | (exact ⟨by simp, by simp⟩)

theorem eqTop_chan {t : TypeId} {x y : Value} {r : Bool} (e : eqTop C t x y = some r) : x ≠ .chan none ∧ y ≠ .chan none := by
  unfold eqTop at e
  split at e <;> first | (cases e; done) | exact eqV_chan e none | (exact ⟨by simp, by simp⟩)

theorem equalIn_nil_iface (hC : CtxOk C P) {t : TypeId} {ms : Array (String × TypeId)} (hu : und C t = some (.interface ms)) (D : Nat) (u : TypeId) (v : Value) :
    (Op.equalIn (D + 1) t .nilIface (.iface u v)).run P w = .ok false w := by simp [Op.equalIn, run_underlying hC hu]

theorem equalIn_iface_nil (hC : CtxOk C P) {t : TypeId} {ms : Array (String × TypeId)} (hu : und C t = some (.interface ms)) (D : Nat) (u : TypeId) (v : Value) :
    (Op.equalIn (D + 1) t (.iface u v) .nilIface).run P w = .ok false w := by simp [Op.equalIn, run_underlying hC hu]

theorem eqTop_ok (hC : CtxOk C P) {t : TypeId} {x y x' y' : Value} {r : Bool} {op : BinOp} (hop : op = .eql ∨ op = .neq) {ox oy : Operand} (hx : VR g x x') (hy : VR g y y') (e : eqTop C t x y = some r) :
    (Op.equal t x' y').run P w = .ok r w ∧ (eqGuard op t ox oy x' y').run P w = .ok () w := by
  have key : ∀ {r}, eqV C 20 t x y = some r → (Op.equal t x' y').run P w = .ok r w := fun e => eqV_ok hC 20 10000 t x y x' y' _ (by omega) hx hy e
  unfold eqTop at e
  split at e
  · split at e
    · rename_i hu
      cases hx; obtain ⟨u, rfl, _⟩ := hy.iface_inv; cases e
      exact ⟨equalIn_nil_iface hC hu 9999 _ _, by cases op <;> simp [eqGuard]⟩
    · cases e
  · split at e
    · rename_i hu
      cases hy; obtain ⟨u, rfl, _⟩ := hx.iface_inv; cases e
      exact ⟨equalIn_iface_nil hC hu 9999 _ _, by cases op <;> simp [eqGuard]⟩
    · cases e
  · split at e
    · rename_i hu
      cases hy; cases hx; cases e
      exact ⟨equalIn_iface_nil hC hu 9999 _ _, by cases op <;> simp [eqGuard]⟩
    · cases e
  · rename_i xs ys
    cases hc : C.eqs.contains t with
    | false => rw [hc] at e; cases e
    | true =>
    rw [hc] at e
    obtain ⟨xs', rfl, hxs⟩ := hx.agg_inv
    obtain ⟨ys', rfl, hys⟩ := hy.agg_inv
    exact ⟨key e, by cases op <;> simp [eqGuard, hC.eqg t (by simpa using hc)]⟩
  · cases e
  · rename_i h1 h2 h3 h4 h5
    refine ⟨key e, ?_⟩
    have hng : ∀ {a b : Value}, (a = .nilIface → b = .nilIface → False) → ((∃ xs ys, a = .agg xs ∧ b = .agg ys) → False) → (eqGuard op t ox oy a b).run P w = .ok () w := by
      intro a b ha hb
      rcases hop with rfl | rfl <;> cases a <;> cases b <;> first
        | (simp [eqGuard]; done)
        | (exact (ha rfl rfl).elim)
        | (exact (hb ⟨_, _, rfl, rfl⟩).elim)
    refine hng ?_ ?_
    · rintro rfl rfl; cases hx; first | exact (eqV_chan e _).1 rfl | exact h1 rfl | exact h2 rfl | exact h4 rfl | exact h3 rfl | exact h5 rfl
    · rintro ⟨xs, ys, rfl, rfl⟩
      cases hx with
      | agg xs0 _ _ => cases hy with
        | agg ys0 _ _ => first | exact h4 _ _ rfl rfl | exact h3 _ _ rfl rfl | exact h5 _ _ rfl rfl

end
end Ev
namespace Ev
open Go

section
variable {C : Ctx} {P : Program} {g : Gh} {h h' : Hp} {w : World} {t : Tr Value} {a : Act}

theorem shift_cl {op : BinOp} {k k' : IntKind} {x y : Int} {v : Value} (h : pureOf (Op.shift op k x k' y) = some v) : closedV v = true := by
  unfold Op.shift at h
  split at h
  · simp [runtimePanic, bind, Sem.bind, program, pureOf] at h
  · cases op <;> simp [pureOf, pure, stuck] at h <;> (subst h; rfl)

theorem intDiv_cl {op : BinOp} {k : IntKind} {x y : Int} {v : Value} (h : pureOf (Op.intDiv op k x y) = some v) : closedV v = true := by
  unfold Op.intDiv at h
  split at h
  · simp [runtimePanic, bind, Sem.bind, program, pureOf] at h
  · cases op <;> simp [pureOf, pure, stuck] at h <;> (subst h; rfl)

theorem intBits_cl {op : BinOp} {k : IntKind} {x y : Int} {v : Value} (h : pureOf (Op.intBits op k x y) = some v) : closedV v = true := by
  unfold Op.intBits at h
  cases op <;> simp [pureOf, pure, stuck] at h <;> (subst h; rfl)

theorem intCmp_cl {op : BinOp} {x y : Int} {v : Value} (h : pureOf (Op.intCmp op x y) = some v) : closedV v = true := by
  unfold Op.intCmp at h
  cases op <;> simp [pureOf, pure, stuck] at h <;> (subst h; rfl)

theorem floatCmp_cl {op : BinOp} {k : FloatKind} {x y : Nat} {v : Value} (h : pureOf (Op.floatCmp op k x y) = some v) : closedV v = true := by
  unfold Op.floatCmp at h
  cases op <;> simp [pureOf, pure, stuck] at h <;> (subst h; rfl)

theorem stringOp_cl {op : BinOp} {x y : ByteArray} {v : Value} (h : pureOf (Op.stringOp op x y) = some v) : closedV v = true := by
  unfold Op.stringOp at h
  cases op <;> simp only at h
  case add =>
    split at h
    · simp [pureOf, unsupported] at h
    · simp [pureOf, pure] at h; subst h; rfl
  all_goals (simp [pureOf, pure, stuck] at h <;> (subst h; rfl))

theorem eqGuard_int {op : BinOp} {ty : TypeId} {ox oy : Operand} {k k' : IntKind} {x y : Int} :
    (eqGuard op ty ox oy (.int k x) (.int k' y)).run P w = .ok () w := by cases op <;> simp [eqGuard]
theorem eqGuard_float {op : BinOp} {ty : TypeId} {ox oy : Operand} {k k' : FloatKind} {x y : Nat} :
    (eqGuard op ty ox oy (.float k x) (.float k' y)).run P w = .ok () w := by cases op <;> simp [eqGuard]
theorem eqGuard_string {op : BinOp} {ty : TypeId} {ox oy : Operand} {x y : ByteArray} :
    (eqGuard op ty ox oy (.string x) (.string y)).run P w = .ok () w := by cases op <;> simp [eqGuard]

theorem binInt_ok {op : BinOp} {ty : TypeId} {k k' : IntKind} {x y : Int} {v : Value} (e : binV C op ty (.int k x) (.int k' y) = some v) :
    (binOp op ty (.int k x) (.int k' y)).run P w = .ok v w ∧ closedV v = true := by
  simp only [binV] at e
  cases op
  case shl => exact ⟨pureOf_run e, shift_cl e⟩
  case shr => exact ⟨pureOf_run e, shift_cl e⟩
  all_goals
    simp only at e
    split at e
    case isFalse => cases e
    case isTrue hk =>
      subst hk
      simp only [binOp, ne_eq, not_true_eq_false, if_false]
      first
        | (simp only [Option.some.injEq] at e; subst e; exact ⟨by simp [Op.intArith, wrapF_eq], rfl⟩)
        | exact ⟨pureOf_run e, intDiv_cl e⟩
        | exact ⟨pureOf_run e, intBits_cl e⟩
        | exact ⟨pureOf_run e, intCmp_cl e⟩

theorem binFloat_ok {op : BinOp} {ty : TypeId} {k k' : FloatKind} {x y : Nat} {v : Value} (e : binV C op ty (.float k x) (.float k' y) = some v) :
    (binOp op ty (.float k x) (.float k' y)).run P w = .ok v w ∧ closedV v = true := by
  simp only [binV] at e
  split at e
  · rename_i hk; subst hk
    cases op <;> simp only at e <;> first
      | (cases e; done)
      | (simp only [binOp, ne_eq, not_true_eq_false, if_false]; exact ⟨pureOf_run e, floatCmp_cl e⟩)
  · cases e

theorem binString_ok {op : BinOp} {ty : TypeId} {x y : ByteArray} {v : Value} (e : binV C op ty (.string x) (.string y) = some v) :
    (binOp op ty (.string x) (.string y)).run P w = .ok v w ∧ closedV v = true := by
  simp only [binV] at e
  have hb : binOp op ty (.string x) (.string y) = Op.stringOp op x y := by cases op <;> rfl
  rw [hb]
  exact ⟨pureOf_run e, stringOp_cl e⟩

theorem bin_ok (hC : CtxOk C P) {op : BinOp} {ty : TypeId} {x y x' y' v : Value} {ox oy : Operand} (hx : VR g x x') (hy : VR g y y') (e : binV C op ty x y = some v) :
    ∃ v', (do eqGuard op ty ox oy x' y'; binOp op ty x' y' : Sem Value).run P w = .ok v' w ∧ VR g v v' := by
  by_cases hp : plainPair x y = true
  · have e' : (match op with
      | .eql => (eqTop C ty x y).map .bool
      | .neq => (eqTop C ty x y).map fun b => .bool !b
      | _ => none) = some v := by
      unfold binV at e
      split at e
      · simp [plainPair] at hp
      · simp [plainPair] at hp
      · simp [plainPair] at hp
      · cases op <;> exact e
    have hch : x ≠ .chan none ∧ y ≠ .chan none := by
      cases op <;> simp only at e' <;> first
        | (cases e'; done)
        | (simp only [Option.map_eq_some_iff] at e'; obtain ⟨b, hb, _⟩ := e'; exact eqTop_chan hb)
    have hp' : plainPair x' y' = true := by rw [plainPair_rel hx hy hch.1 hch.2]; exact hp
    cases op <;> simp only at e' <;> first
      | (cases e'; done)
      | skip
    · simp only [Option.map_eq_some_iff] at e'
      obtain ⟨b, hb, rfl⟩ := e'
      obtain ⟨h1, h2⟩ := eqTop_ok (P := P) (w := w) hC (.inl rfl) (ox := ox) (oy := oy) hx hy hb
      exact ⟨.bool b, by simp [h2, binOp_eql hp', h1], .bool b⟩
    · simp only [Option.map_eq_some_iff] at e'
      obtain ⟨b, hb, rfl⟩ := e'
      obtain ⟨h1, h2⟩ := eqTop_ok (P := P) (w := w) hC (.inr rfl) (ox := ox) (oy := oy) hx hy hb
      exact ⟨.bool !b, by simp [h2, binOp_neq hp', h1], .bool _⟩
  · cases x <;> cases y <;> simp [plainPair] at hp
    · rw [hx.int_inv, hy.int_inv]
      obtain ⟨h1, h2⟩ := binInt_ok (P := P) (w := w) e
      exact ⟨v, by simp [eqGuard_int, h1], VR.of_closed h2⟩
    · rw [hx.float_inv, hy.float_inv]
      obtain ⟨h1, h2⟩ := binFloat_ok (P := P) (w := w) e
      exact ⟨v, by simp [eqGuard_float, h1], VR.of_closed h2⟩
    · cases hx
    · rw [hx.string_inv, hy.string_inv]
      obtain ⟨h1, h2⟩ := binString_ok (P := P) (w := w) e
      exact ⟨v, by simp [eqGuard_string, h1], VR.of_closed h2⟩

theorem VR.nilIface_inv {g : Gh} {v : Value} (r : VR g .nilIface v) : v = .nilIface := by cases r; rfl

theorem equalIn_nil_nil (hC : CtxOk C P) {t : TypeId} {ms : Array (String × TypeId)} (hu : und C t = some (.interface ms)) (D : Nat) :
    (Op.equalIn (D + 1) t .nilIface .nilIface).run P w = .ok true w := by simp [Op.equalIn, run_underlying hC hu]

theorem nil_eq_ok (hC : CtxOk C P) {op : BinOp} {ty : TypeId} {ox oy : Operand} {v : Value} (hc : (isConst ox || isConst oy) = true) (e : nilEq C op ty = some v) :
    (do eqGuard op ty ox oy .nilIface .nilIface; binOp op ty .nilIface .nilIface : Sem Value).run P w = .ok v w ∧ VR g v v := by
  unfold nilEq at e
  split at e
  · rename_i ms hu
    have hg : (eqGuard op ty ox oy .nilIface .nilIface).run P w = .ok () w := by
      unfold isConst at hc
      cases ox <;> cases oy <;> simp at hc <;> cases op <;> simp [eqGuard]
    have he : (Op.equal ty .nilIface .nilIface).run P w = .ok true w := equalIn_nil_nil hC hu 9999
    cases op <;> simp only at e <;> first | (cases e; done) | skip
    · cases e
      exact ⟨by simp [hg, binOp_eql (show plainPair .nilIface .nilIface = true from rfl), he], .bool _⟩
    · cases e
      exact ⟨by simp [hg, binOp_neq (show plainPair .nilIface .nilIface = true from rfl), he], .bool _⟩
  · cases e

theorem un_ok {op : UnOp} {x : Option Value} {x' v : Value} (hx : ∀ u, x = some u → VR g u x') (e : unV op x = some v) : ∃ v', (Op.unary op x').run P w = .ok v' w ∧ VR g v v' := by
  unfold unV at e
  split at e
  · rw [(hx _ rfl).bool_inv]
    cases op <;> simp only at e <;> first | (cases e; done) | skip
    cases e; exact ⟨_, by simp [Op.unary], .bool _⟩
  · rw [(hx _ rfl).int_inv]
    cases op <;> simp only at e <;> first | (cases e; done) | skip
    cases e; exact ⟨_, by simp [Op.unary, Op.intArith, wrapF_eq], .int _ _⟩
  · rw [(hx _ rfl).float_inv]
    cases op <;> simp only at e <;> first | (cases e; done) | skip
    cases e; exact ⟨_, by simp [Op.unary], .float _ _⟩
  · cases e

end
end Ev
namespace Ev
open Go

section
variable {C : Ctx} {P : Program} {g : Gh} {h h' : Hp} {w : World} {t : Tr Value} {a : Act}

theorem bound_ok {v : Option Value} {v' : Value} {d n : Nat} (hv : ∀ u, v = some u → VR g u v') (hs : v.isSome = true) (e : bound v d = some n) {y : Nat} (hy : n ≤ y) (c : BoundsCode) :
    (Instr.sliceBound v' y c).run P w = .ok n w := by
  unfold bound at e
  split at e
  · simp at hs
  · cases e
    rw [(hv _ rfl).int_inv]
    have h1 : (0 : Int) ≤ (Int.ofNat n) ∧ (Int.ofNat n) ≤ (y : Int) := ⟨by simp, by simp; exact hy⟩
    simp only [Instr.sliceBound, asIntOf, Sem.run_bind, Sem.run_pure, Result.andThen_ok, if_pos h1]
    rfl
  · cases e

/-- an optional operand's value, abstract and concrete. -/
inductive VRO (g : Gh) : Option Value → Option Value → Prop where
  | none : VRO g none none
  | some {v v' : Value} (h : VR g v v') : VRO g (some v) (some v')

theorem optV_rel (ht : TR g t a.tmps) {x : Option Operand} {v : Option Value} (e : optV opd t x = some v) : VRO g v (x.map a.eval) := by
  cases x with
  | none => simp [optV] at e; subst e; exact .none
  | some x =>
    simp only [optV, Option.map_eq_some_iff] at e
    obtain ⟨u, hu, rfl⟩ := e
    exact .some (opd_rel ht hu)

theorem bounds_none {isS : Bool} {len cap l hh : Nat} {lo hi lo' hi' : Option Value} (hl : VRO g lo lo') (hh' : VRO g hi hi')
    (e1 : bound lo 0 = some l) (e2 : bound hi len = some hh) (h1 : l ≤ hh) (h2 : hh ≤ cap) :
    (Instr.sliceBounds isS len cap lo' hi' none).run P w = .ok (l, hh, cap) w := by
  unfold Instr.sliceBounds
  cases hl with
  | none =>
    simp [bound] at e1; subst e1
    cases hh' with
    | none => simp [bound] at e2; subst e2; simp
    | some r => simp [bound_ok (P := P) (w := w) (fun u hu => by cases hu; exact r) rfl e2 h2]
  | some r1 =>
    cases hh' with
    | none => simp [bound] at e2; subst e2; simp [bound_ok (P := P) (w := w) (fun u hu => by cases hu; exact r1) rfl e1 h1]
    | some r => simp [bound_ok (P := P) (w := w) (fun u hu => by cases hu; exact r) rfl e2 h2, bound_ok (P := P) (w := w) (fun u hu => by cases hu; exact r1) rfl e1 h1]

theorem bounds_some {isS : Bool} {len cap l hh m : Nat} {lo lo' : Option Value} {hi hi' mx mx' : Value} (hl : VRO g lo lo') (hh' : VR g hi hi') (hm : VR g mx mx')
    (e1 : bound lo 0 = some l) (e2 : bound (some hi) len = some hh) (e3 : bound (some mx) 0 = some m) (h1 : l ≤ hh) (h2 : hh ≤ m) (h3 : m ≤ cap) :
    (Instr.sliceBounds isS len cap lo' (some hi') (some mx')).run P w = .ok (l, hh, m) w := by
  unfold Instr.sliceBounds
  have b3 := fun c => bound_ok (P := P) (w := w) (fun u hu => by cases hu; exact hm) rfl e3 h3 c
  have b2 := fun c => bound_ok (P := P) (w := w) (fun u hu => by cases hu; exact hh') rfl e2 h2 c
  cases hl with
  | none => simp [bound] at e1; subst e1; simp [b3, b2]
  | some r1 =>
    have b1 := fun c => bound_ok (P := P) (w := w) (fun u hu => by cases hu; exact r1) rfl e1 h1 c
    simp [b3, b2, b1]

theorem slice_ok (hC : CtxOk C P) (hw : WR g h w) {ty : TypeId} {x x' v : Value} {lo hi mx lo' hi' mx' : Option Value} (hx : VR g x x') (hl : VRO g lo lo') (hh : VRO g hi hi') (hm : VRO g mx mx')
    (e : sliceV C h ty x lo hi mx = some v) : ∃ v', (Instr.sliceAt ty x' lo' hi' mx').run P w = .ok v' w ∧ VR g v v' := by
  unfold sliceV at e
  split at e
  · rename_i s hu
    rw [hx.string_inv]
    split at e
    · rename_i l hh0 e1 e2
      cases hm
      cases hc : (Nat.ble l hh0 && Nat.ble hh0 s.size) with
      | false => rw [hc] at e; cases e
      | true =>
      rw [hc] at e
      cases e
      simp only [Bool.and_eq_true, Nat.ble_eq] at hc
      have hb := bounds_none (P := P) (w := w) (isS := false) hl hh e1 e2 hc.1 hc.2
      refine ⟨.string (s.extract l hh0), ?_, .string _⟩
      simp [Instr.sliceAt, run_underlying hC hu, Instr.slice, hb]
    · cases e
  · rename_i el ad len cap hu
    obtain ⟨i, off, sp⟩ := ad
    obtain ⟨rfl, x0, c', hg, hcap, rfl⟩ := hx.slice_inv
    split at e
    · rename_i l hh0 sz e1 e2 hsz
      split at e
      · rename_i mv
        cases hm with
        | some hmr =>
        split at e
        · rename_i m e3
          cases hc : (Nat.ble l hh0 && Nat.ble hh0 m && Nat.ble m cap && hi.isSome) with
          | false => rw [hc] at e; cases e
          | true =>
          rw [hc] at e
          cases e
          simp only [Bool.and_eq_true, Nat.ble_eq] at hc
          obtain ⟨⟨⟨q1, q2⟩, q3⟩, q4⟩ := hc
          have hcc : cap ≤ c' := by rcases hcap with h | ⟨_, _, h, _⟩ <;> omega
          cases hh with
          | none => simp at q4
          | some hr =>
          have hb := bounds_some (P := P) (w := w) (isS := true) (len := len) (cap := c') hl hr hmr e1 e2 e3 q1 q2 (by omega)
          refine ⟨.slice (some (if m = l then ⟨x0.b, off, none⟩ else (⟨x0.b, off, none⟩ : Addr).add (l * sz))) (hh0 - l) (m - l), ?_, ?_⟩
          · simp only [Instr.sliceAt, Sem.run_bind, run_underlying hC hu, Result.andThen_ok, Instr.slice, hb, run_sizeOf hC hsz, Sem.run_pure]
            split <;> rfl
          · cases hml : Nat.beq m l with
            | true =>
              have := Nat.eq_of_beq_eq_true hml
              rw [if_pos this]
              exact .slice i off _ _ _ x0 hg (.inl rfl)
            | false =>
              rw [if_neg (by intro h; rw [beq_true_of h] at hml; cases hml)]
              simp only [cond_false, add_off]
              exact .slice i (off + l * sz) _ _ _ x0 hg (.inl rfl)
        · cases e
      · cases hm
        cases hc : (Nat.ble l hh0 && Nat.ble hh0 cap && szOk h i sz) with
        | false => rw [hc] at e; cases e
        | true =>
        rw [hc] at e
        simp only [cond_true] at e
        simp only [Bool.and_eq_true, Nat.ble_eq] at hc
        obtain ⟨hc, hszk⟩ := hc
        have hszx : x0.grown = true → x0.sz = sz := by
          intro hgr
          unfold szOk at hszk
          split at hszk
          · rename_i B hB
            obtain ⟨y, hy, br⟩ := hw.live i B hB
            rw [hg] at hy; cases hy
            rw [← br.gr] at hgr
            rw [hgr] at hszk
            rw [← br.sz]
            exact Nat.eq_of_beq_eq_true (by simpa using hszk)
          · cases hszk
        have hcc : cap ≤ c' := by rcases hcap with h | ⟨_, _, h, _⟩ <;> omega
        have hb := bounds_none (P := P) (w := w) (isS := true) (cap := c') hl hh e1 e2 hc.1 (by omega)
        have hrun : (Instr.sliceAt ty (.slice (some ⟨x0.b, off, none⟩) len c') lo' hi' none).run P w =
            .ok (.slice (some (if c' = l then ⟨x0.b, off, none⟩ else (⟨x0.b, off, none⟩ : Addr).add (l * sz))) (hh0 - l) (c' - l)) w := by
          simp only [Instr.sliceAt, Sem.run_bind, run_underlying hC hu, Result.andThen_ok, Instr.slice, hb, run_sizeOf hC hsz, Sem.run_pure]
          split <;> rfl
        cases hcl : (Nat.beq cap l && Nat.blt 0 l) with
        | true =>
          rw [hcl] at e
          cases e
          simp only [Bool.and_eq_true] at hcl
          have := Nat.eq_of_beq_eq_true hcl.1
          have h0 : hh0 - l = 0 := by omega
          rw [h0] at hrun
          exact ⟨_, hrun, .emptySlice _ _⟩
        | false =>
          rw [hcl] at e
          cases e
          refine ⟨_, hrun, ?_⟩
          have hadd : (⟨x0.b, off, none⟩ : Addr).add (l * sz) = ⟨x0.b, off + l * sz, none⟩ := add_off _ _ _
          have haddi : (⟨i, off, none⟩ : Addr).add (l * sz) = ⟨i, off + l * sz, none⟩ := add_off _ _ _
          rw [haddi]
          have hk : capR x0 (off + l * sz) (cap - l) (c' - l) := by
            rcases hcap with rfl | ⟨g1, g2, g3, g4⟩
            · exact .inl rfl
            · right
              have hs := hszx g1
              rw [hs] at g2 g4 ⊢
              have m1 : l * sz + (cap - l) * sz = cap * sz := by rw [← Nat.add_mul]; congr 1; omega
              have m2 : l * sz + (c' - l) * sz = c' * sz := by rw [← Nat.add_mul]; congr 1; omega
              exact ⟨g1, by omega, by omega, by omega⟩
          by_cases hl0 : l = 0
          · subst hl0
            simp only [Nat.zero_mul, Nat.add_zero] at hk hadd ⊢
            rw [hadd, ite_self]
            exact .slice i off _ _ _ x0 hg hk
          · have hne : cap ≠ l := by
              intro h
              rw [beq_true_of h, show Nat.blt 0 l = true by rw [Nat.blt_eq]; omega] at hcl
              cases hcl
            rw [if_neg (by omega), hadd]
            exact .slice i (off + l * sz) _ _ _ x0 hg hk
    · cases e
  · rename_i c hu
    split at e
    · rename_i sz e1 e2 hsz
      cases e
      cases hm
      rcases hx.sliceN_inv with ⟨_, ⟨rfl, rfl⟩ | ⟨rfl, a', c', rfl⟩⟩
      · have hb := bounds_none (P := P) (w := w) (isS := true) (cap := 0) hl hh e1 e2 (Nat.le_refl _) (Nat.le_refl _)
        refine ⟨.slice none 0 0, ?_, .nilSlice⟩
        simp [Instr.sliceAt, run_underlying hC hu, Instr.slice, hb, run_sizeOf hC hsz]
      · have hb := bounds_none (P := P) (w := w) (isS := true) (cap := c') hl hh e1 e2 (Nat.le_refl _) (Nat.zero_le _)
        refine ⟨_, ?_, .emptySlice (if c' = 0 then a' else a'.map (·.add (0 * sz))) c'⟩
        simp only [Instr.sliceAt, Sem.run_bind, run_underlying hC hu, Result.andThen_ok, Instr.slice, hb, run_sizeOf hC hsz, Sem.run_pure]
        rfl
    · cases e
  · cases e

theorem fieldAddr_ok (hC : CtxOk C P) {s : TypeId} {k : Nat} {x : Option Value} {x' v : Value} (hx : ∀ u, x = some u → VR g u x') (e : opFieldAddr C k (und C s) x = some v) :
    ∃ v', (Instr.fieldAt s x' k).run P w = .ok v' w ∧ VR g v v' := by
  unfold opFieldAddr at e
  split at e
  · rename_i fields ad hu
    obtain ⟨i, off, sp⟩ := ad
    obtain ⟨rfl, x0, hg, rfl⟩ := (hx _ rfl).ptr_inv
    unfold fldA at e
    split at e
    · rename_i f hf
      unfold fldP at e
      split at e
      · rename_i n hn
        cases e
        refine ⟨.pointer (some ⟨x0.b, off + f.offset, none⟩), ?_, ?_⟩
        · have hn' : (Go.sizeOf f.type).run P w = .ok (n + 1) w := run_sizeOf hC hn w
          simp [Instr.fieldAt, run_underlying hC hu, hf, Instr.sureAddr, fieldPlace, hn', add_off]
        · rw [add_off]; exact .ptr i _ x0 hg
      · cases e
    · cases e
  · cases e

theorem field_ok (hC : CtxOk C P) {s : TypeId} {k : Nat} {x : Option Value} {x' v : Value} (hx : ∀ u, x = some u → VR g u x') (e : opField C k (und C s) x = some v) :
    ∃ v', (Instr.field s x' k).run P w = .ok v' w ∧ VR g v v' := by
  unfold opField at e
  split at e
  · rename_i fields cs hu
    obtain ⟨cs', rfl, hcs⟩ := (hx _ rfl).agg_inv
    split at e
    · rename_i f hf
      obtain ⟨v', hv', r⟩ := part_ok (P := P) (w := w) hC hcs e
      exact ⟨v', by simp [Instr.field, run_underlying hC hu, hf, asAgg, hv'], r⟩
    · cases e
  · cases e

theorem indexAddr_ok (hC : CtxOk C P) {ty : TypeId} {x i : Option Value} {x' i' v : Value} (hx : ∀ u, x = some u → VR g u x') (hi : ∀ u, i = some u → VR g u i')
    (e : opIndexAddr C (und C ty) x i = some v) : ∃ v', (Instr.indexAt ty x' i').run P w = .ok v' w ∧ VR g v v' := by
  unfold opIndexAddr at e
  split at e
  · rename_i n el ad k i0 hu
    obtain ⟨b, off, sp⟩ := ad
    obtain ⟨rfl, x0, hg, rfl⟩ := (hx _ rfl).ptr_inv
    rw [(hi _ rfl).int_inv]
    unfold elemA at e
    split at e
    · rename_i sz hsz
      cases hb : Nat.blt i0 n with
      | false => rw [hb] at e; cases e
      | true =>
      rw [hb] at e; cases e
      have hlt : i0 < n := by simpa [Nat.blt_eq] using hb
      have hc : (0 : Int) ≤ Int.ofNat i0 ∧ Int.ofNat i0 < (n : Int) := ⟨by simp, by simp; exact hlt⟩
      refine ⟨.pointer (some ⟨x0.b, off + i0 * sz, none⟩), ?_, ?_⟩
      · simp only [Instr.indexAt, Sem.run_bind, asIntOf, Sem.run_pure, Result.andThen_ok, run_underlying hC hu, Instr.sureAddr, if_pos hc, run_sizeOf hC hsz, add_off]
        rfl
      · rw [show Nat.mul i0 sz = i0 * sz from rfl, add_off]; exact .ptr b _ x0 hg
    · cases e
  · rename_i el ad n cp k i0 hu
    obtain ⟨b, off, sp⟩ := ad
    obtain ⟨rfl, x0, c', hg, _, rfl⟩ := (hx _ rfl).slice_inv
    rw [(hi _ rfl).int_inv]
    unfold elemA at e
    split at e
    · rename_i sz hsz
      cases hb : Nat.blt i0 n with
      | false => rw [hb] at e; cases e
      | true =>
      rw [hb] at e; cases e
      have hlt : i0 < n := by simpa [Nat.blt_eq] using hb
      have hc : (0 : Int) ≤ Int.ofNat i0 ∧ Int.ofNat i0 < (n : Int) := ⟨by simp, by simp; exact hlt⟩
      refine ⟨.pointer (some ⟨x0.b, off + i0 * sz, none⟩), ?_, ?_⟩
      · simp only [Instr.indexAt, Sem.run_bind, asIntOf, Sem.run_pure, Result.andThen_ok, run_underlying hC hu, if_pos hc, run_sizeOf hC hsz, add_off]
        rfl
      · rw [show Nat.mul i0 sz = i0 * sz from rfl, add_off]; exact .ptr b _ x0 hg
    · cases e
  · cases e

theorem index_ok (hC : CtxOk C P) {ty : TypeId} {x i : Option Value} {x' i' v : Value} (hx : ∀ u, x = some u → VR g u x') (hi : ∀ u, i = some u → VR g u i')
    (e : opIndex C (und C ty) x i = some v) : ∃ v', (Instr.index ty x' i').run P w = .ok v' w ∧ VR g v v' := by
  unfold opIndex at e
  split at e
  · rename_i n el cs k i0 hu
    obtain ⟨cs', rfl, hcs⟩ := (hx _ rfl).agg_inv
    rw [(hi _ rfl).int_inv]
    split at e
    · rename_i sz hsz
      cases hb : Nat.blt i0 n with
      | false => rw [hb] at e; cases e
      | true =>
      rw [hb] at e
      have hlt : i0 < n := by simpa [Nat.blt_eq] using hb
      have hc : (0 : Int) ≤ Int.ofNat i0 ∧ Int.ofNat i0 < (n : Int) := ⟨by simp, by simp; exact hlt⟩
      obtain ⟨v', hv', r⟩ := part_ok (P := P) (w := w) hC hcs e
      refine ⟨v', ?_, r⟩
      simp only [Instr.index, Sem.run_bind, asIntOf, Sem.run_pure, Result.andThen_ok, run_underlying hC hu, if_pos hc, run_sizeOf hC hsz]
      exact hv'
    · cases e
  · rename_i s k i0 hu
    rw [(hx _ rfl).string_inv, (hi _ rfl).int_inv]
    split at e
    · rename_i b hb
      cases e
      refine ⟨.int .u8 b.toNat, ?_, .int _ _⟩
      have hb' : (if (0 : Int) ≤ Int.ofNat i0 then s[(Int.ofNat i0).toNat]? else none) = some b := by
        rw [if_pos (by simp)]; exact hb
      simp only [Instr.index, Sem.run_bind, asIntOf, Sem.run_pure, Result.andThen_ok, run_underlying hC hu, hb']
    · cases e
  · cases e

theorem extract_ok {k : Nat} {x : Option Value} {x' v : Value} (hx : ∀ u, x = some u → VR g u x') (e : opExtract k x = some v) :
    ∃ v', (Instr.extract x' k).run P w = .ok v' w ∧ VR g v v' := by
  unfold opExtract at e
  split at e
  · rename_i vs
    obtain ⟨vs', rfl, hvs⟩ := (hx _ rfl).tuple_inv
    obtain ⟨v', hv', r⟩ := hvs.get (k := k) (v := v) (by simpa using e)
    have : vs'[k]? = some v' := by simpa using hv'
    exact ⟨v', by simp [Instr.extract, this], r⟩
  · cases e

theorem iface_ok (hC : CtxOk C P) {ty : TypeId} {x : Option Value} {x' v : Value} (hx : ∀ u, x = some u → VR g u x') (e : ifaceV ty (und C ty) x = some v) :
    ∃ v', (Instr.makeInterface ty x').run P w = .ok v' w ∧ VR g v v' := by
  unfold ifaceV at e
  split at e
  · cases e
  · rename_i d u hn hu
    cases e
    refine ⟨.iface ty x', ?_, .iface _ _ _ (hx _ rfl)⟩
    simp only [Instr.makeInterface, Sem.run_bind, run_underlying hC hu, Result.andThen_ok]
    cases d <;> first | rfl | exact (hn _ rfl).elim
  · cases e

theorem assert_ok (hC : CtxOk C P) {xT ty : TypeId} {ok : Bool} {x : Option Value} {x' v : Value} (hx : ∀ u, x = some u → VR g u x') (e : opAssert ty ok (und C ty) x = some v) :
    ∃ v', (Instr.typeAssert x' xT ty ok).run P w = .ok v' w ∧ VR g v v' := by
  unfold opAssert at e
  split at e
  · cases e
  · rename_i d u0 v0 hn hu
    obtain ⟨v1, rfl, r⟩ := (hx _ rfl).iface_inv
    cases hb : (ok && Nat.beq u0 ty) with
    | false => rw [hb] at e; cases e
    | true =>
    rw [hb] at e
    cases e
    simp only [Bool.and_eq_true] at hb
    obtain ⟨rfl, hb⟩ := hb
    have := Nat.eq_of_beq_eq_true hb
    subst this
    refine ⟨.tuple #[v1, .bool true], ?_, .tuple _ _ (.cons r (.cons (.bool true) .nil))⟩
    simp only [Instr.typeAssert, Sem.run_bind, run_underlying hC hu, Result.andThen_ok]
    cases d <;> first | (exact (hn _ rfl).elim) | simp
  · cases e

end
end Ev
namespace Ev
open Go

section
variable {C : Ctx} {P : Program} {g : Gh} {h h' : Hp} {w : World} {t : Tr Value} {a : Act}

theorem newB_next {b : Blk} {i : Nat} (e : newB h b = some (i, h')) : i = h.next ∧ h'.next = h.next + 1 := by
  unfold newB at e
  cases hb : Nat.blt h.next limH <;> rw [hb] at e <;> simp at e
  obtain ⟨rfl, rfl⟩ := e
  exact ⟨rfl, rfl⟩

/-- a row of related cells is made. -/
theorem row_ok {el : TypeId} {i sz : Nat} {gr : Bool} {l : List Value} {c : Array Value} (hw : WR g h w) (hf : Fr g h h') (e : newB h ⟨l, sz, gr⟩ = some (i, h')) (hv : VRL g l c.toList) :
    ∃ g', (newRow el c).run P w = .ok ⟨w.heap.size, 0, none⟩ (w.alloc (.cells c el)) ∧ WR g' h' (w.alloc (.cells c el)) ∧ Ext g h w g' h' (w.alloc (.cells c el)) ∧
      g' i = some ⟨w.heap.size, c.size, l.length, sz, gr⟩ := by
  obtain ⟨hi, hn⟩ := newB_next e
  have hlen := hv.length
  obtain ⟨g', r1, r2, r3, _⟩ := hw.alloc (w' := w.alloc (.cells c el)) (csz := c.size) (c := c) (el := el) e (hf i (by omega) (by omega)) rfl (by simp) rfl rfl rfl
    (by simp at hlen; omega) (fun k u hu => by simpa using hv.get hu)
  exact ⟨g', by simp [newRow], r1, r2, r3⟩

theorem rowOf_rel {z : Array Value} {n : Nat} (hz : z.toList.all closedV = true) (hn : n = 0 ∨ 0 < z.size) : VRL g (rowOf z n).toList (rowOf z n).toList := by
  refine zeros_closed ?_
  rw [List.all_eq_true]
  intro v hv
  simp only [rowOf, Array.toList_map, List.mem_map] at hv
  obtain ⟨k, hk, rfl⟩ := hv
  rcases hn with rfl | hn
  · simp at hk
  · have : k % z.size < z.size := Nat.mod_lt _ hn
    rw [getElem!_pos z _ this]
    exact List.all_eq_true.1 hz _ (by simp)

theorem buildSlice_ok (hC : CtxOk C P) {ty : TypeId} {len : Nat} {vs : Option (List (Nat × Value))} {vs' : Array (Nat × Value)} {r : AR} (hw : WR g h w) (hf : Fr g h h')
    (hv : ∀ u, vs = some u → VRP g u vs'.toList) (e : opBuildSlice C h len (und C ty) vs = some (r, h')) :
    OpOk P (do pure (Next.value (← Instr.buildSlice ty len vs')) : Sem Next) g h w r h' := by
  unfold opBuildSlice at e
  split at e
  · rename_i el vs0 hu
    unfold opBuildSlice2 at e
    split at e
    · rename_i sz z hsz hz
      cases hb : (Nat.beq sz 0 || Nat.blt 16777216 (Nat.mul len sz) || Nat.beq z.cells.size 0) with
      | true => rw [hb] at e; cases e
      | false =>
      rw [hb] at e
      simp only [cond_false] at e
      simp only [Bool.or_eq_false_iff] at hb
      obtain ⟨⟨b1, b2⟩, b3⟩ := hb
      have c1 : sz ≠ 0 := by rintro rfl; cases b1
      have c2 : ¬ len * sz > 2 ^ 24 := by
        intro h
        have : Nat.blt 16777216 (Nat.mul len sz) = true := by rw [Nat.blt_eq]; exact h
        rw [this] at b2; cases b2
      have c3 : 0 < z.cells.size := by
        rcases Nat.eq_zero_or_pos z.cells.size with h | h
        · rw [beq_true_of h] at b3; cases b3
        · exact h
      unfold bslice at e
      split at e
      · rename_i cs hcs
        unfold sres at e
        split at e
        · rename_i i h1 hn
          cases e
          have hzc := hC.zc _ z hz
          have hzeq : (bif Nat.beq (Nat.mul len sz) 0 then (#[] : Array Value) else z.cells) = (if len * sz = 0 then #[] else z.cells) := by
            by_cases h0 : len * sz = 0
            · rw [if_pos h0, beq_true_of (show Nat.mul len sz = 0 from h0)]; rfl
            · rw [if_neg h0, beq_false_of (show Nat.mul len sz ≠ 0 from h0)]; rfl
          rw [hzeq] at hcs
          have hrow : VRL g (rowOf (if len * sz = 0 then #[] else z.cells) (Nat.mul len sz)).toList (rowOf (if len * sz = 0 then #[] else z.cells) (Nat.mul len sz)).toList := by
            refine rowOf_rel ?_ ?_
            · split
              · rfl
              · exact hzc
            · by_cases h0 : len * sz = 0
              · exact .inl h0
              · right; rw [if_neg h0]; exact c3
          obtain ⟨cs', hcs', rel⟩ := fill_rel _ (hv _ rfl) hrow hcs
          obtain ⟨g', q1, q2, q3, q4⟩ := row_ok (P := P) (el := el) (c := cs') hw hf hn rel
          refine ⟨g', _, .slice (some ⟨w.heap.size, 0, none⟩) len len, ?_, ?_, q2, q3⟩
          · have hz' := run_zeroValue hC hz w
            by_cases h0 : len * sz = 0
            · have hcs'' : Instr.fill (fun i => some (i * sz, sz)) (Array.map (fun x => (#[] : Array Value)[x % (#[] : Array Value).size]!) (Array.range (len * sz))) vs'.toList = some cs' := by
                simp only [if_pos h0] at hcs'; exact hcs'
              simp only [Sem.run_bind, Instr.buildSlice, run_underlying hC hu, Result.andThen_ok, run_sizeOf hC hsz, Sem.run_ite, if_neg c2, Sem.run_pure, if_pos h0, hcs'', q1]
            · have hcs'' : Instr.fill (fun i => some (i * sz, sz)) (Array.map (fun x => z.cells[x % z.cells.size]!) (Array.range (len * sz))) vs'.toList = some cs' := by
                simp only [if_neg h0] at hcs'; exact hcs'
              simp only [Sem.run_bind, Instr.buildSlice, run_underlying hC hu, Result.andThen_ok, run_sizeOf hC hsz, Sem.run_ite, if_neg c2, Sem.run_pure, if_neg h0, hz', hcs'', q1]
          · exact .slice i 0 len len len _ q4 (.inl rfl)
        · cases e
      · cases e
    · cases e
  · cases e

theorem mkSlice_ok (hC : CtxOk C P) {ty : TypeId} {l c : Option Value} {l' c' : Value} {r : AR} (hw : WR g h w) (hf : Fr g h h')
    (hl : ∀ u, l = some u → VR g u l') (hc : ∀ u, c = some u → VR g u c') (e : mkSlice C h (und C ty) l c = some (r, h')) :
    OpOk P (do pure (Next.value (← Instr.makeSlice ty l' c')) : Sem Next) g h w r h' := by
  unfold mkSlice at e
  split at e
  · rename_i el k1 l0 k2 c0 hu
    rw [(hl _ rfl).int_inv, (hc _ rfl).int_inv]
    unfold mkSlice2 at e
    split at e
    · rename_i sz by_ z hsz hby hz
      cases hb : (Nat.ble l0 c0 && Nat.ble (Nat.mul by_ c0) 1099511627776 && Nat.ble c0 4294967296 && Nat.blt 0 sz && Nat.blt 0 z.cells.size) with
      | false => rw [hb] at e; cases e
      | true =>
      rw [hb] at e
      simp only [cond_true] at e
      simp only [Bool.and_eq_true, Nat.ble_eq, Nat.blt_eq] at hb
      obtain ⟨⟨⟨⟨b1, b2⟩, b3⟩, b4⟩, b5⟩ := hb
      split at e
      · rename_i i h1 hn
        cases e
        have hzc := hC.zc _ z hz
        have hzeq : (bif Nat.beq (Nat.mul c0 sz) 0 then (#[] : Array Value) else z.cells) = (if c0 * sz = 0 then #[] else z.cells) := by
          by_cases h0 : c0 * sz = 0
          · rw [if_pos h0, beq_true_of (show Nat.mul c0 sz = 0 from h0)]; rfl
          · rw [if_neg h0, beq_false_of (show Nat.mul c0 sz ≠ 0 from h0)]; rfl
        rw [hzeq] at hn
        have hrow : VRL g (rowOf (if c0 * sz = 0 then #[] else z.cells) (Nat.mul c0 sz)).toList (rowOf (if c0 * sz = 0 then #[] else z.cells) (Nat.mul c0 sz)).toList := by
          refine rowOf_rel ?_ ?_
          · split
            · rfl
            · exact hzc
          · by_cases h0 : c0 * sz = 0
            · exact .inl h0
            · right; rw [if_neg h0]; exact b5
        obtain ⟨g', q1, q2, q3, q4⟩ := row_ok (P := P) (el := el) hw hf hn hrow
        refine ⟨g', _, .slice (some ⟨w.heap.size, 0, none⟩) l0 c0, ?_, ?_, q2, q3⟩
        · obtain ⟨inf, hinf, rfl⟩ := run_typeInfo_bytes hC hby w
          have hz' := run_zeroValue hC hz w
          have w1 : IntKind.i64.wrap (Int.ofNat l0) = (l0 : Int) := IntWalk.i64_in (l0 : Int) ⟨by omega, by omega⟩
          have w2 : IntKind.i64.wrap (Int.ofNat c0) = (c0 : Int) := IntWalk.i64_in (c0 : Int) ⟨by omega, by omega⟩
          have hmul : (inf.bytes : Int) * (c0 : Int) ≤ 1099511627776 := by
            have := b2
            have h2 : Nat.mul inf.bytes c0 = inf.bytes * c0 := rfl
            rw [h2] at this
            rw [← Int.natCast_mul]
            generalize inf.bytes * c0 = q at this ⊢
            omega
          have a1 : ¬ (c0 : Int) < 0 := by omega
          have a2 : ¬ (inf.bytes : Int) * (c0 : Int) > 2 ^ 48 := by have : (2 : Int) ^ 48 = 281474976710656 := by decide
                                                                    omega
          have a3 : ¬ (l0 : Int) < 0 := by omega
          have a4 : ¬ (l0 : Int) > (c0 : Int) := by omega
          by_cases h0 : c0 * sz = 0
          · simp only [if_pos h0] at q1 ⊢
            have q1' : (newRow el (Array.map (fun x => (#[] : Array Value)[x % (#[] : Array Value).size]!) (Array.range (c0 * sz)))).run P w = _ := q1
            simp only [Sem.run_bind, Instr.makeSlice, asInt, asIntOf, run_underlying hC hu, Result.andThen_ok, Sem.run_pure, hinf, w1, w2, a1, a2, a3, a4, decide_false, Bool.or_self, Bool.false_eq_true, Sem.run_ite, if_false, run_askRoom,
              run_sizeOf hC hsz, Int.toNat_natCast, if_pos h0, q1']
          · simp only [if_neg h0] at q1 ⊢
            have q1' : (newRow el (Array.map (fun x => z.cells[x % z.cells.size]!) (Array.range (c0 * sz)))).run P w = _ := q1
            simp only [Sem.run_bind, Instr.makeSlice, asInt, asIntOf, run_underlying hC hu, Result.andThen_ok, Sem.run_pure, hinf, w1, w2, a1, a2, a3, a4, decide_false, Bool.or_self, Bool.false_eq_true, Sem.run_ite, if_false, run_askRoom,
              run_sizeOf hC hsz, Int.toNat_natCast, if_neg h0, hz', q1']
        · exact .slice i 0 l0 c0 c0 _ q4 (.inl rfl)
      · cases e
    · cases e
  · cases e

end
end Ev
