import Derived.Test.YtjgbkacigiidmaaGreatEvG
import Derived.IntWalk
namespace Ev
open Go

theorem pureOf_run {α : Type} {P : Program} {w : World} {s : Sem α} {v : α} (h : pureOf s = some v) : s.run P w = .ok v w := by
  cases s <;> simp [pureOf] at h
  subst h; rfl

theorem ble_cond {α : Type} (m k : Nat) (x y : α) (h : m ≤ k → x = y) : cond (Nat.ble m k) x y = y := by
  cases hb : Nat.ble m k with
  | false => rfl
  | true => exact h (Nat.le_of_ble_eq_true hb)

theorem wrapF_eq (k : IntKind) (n : Int) : wrapF k n = k.wrap n := by
  cases k <;> cases n <;> simp only [wrapF]
  case i64.ofNat m => exact ble_cond m _ _ _ fun hm => (IntWalk.i64_in (m : Int) ⟨by omega, by omega⟩).symm
  case i64.negSucc m => exact ble_cond m _ _ _ fun hm => (IntWalk.i64_in (Int.negSucc m) ⟨by omega, by omega⟩).symm
  case u8.ofNat m => rw [IntKind.wrap_u8]; simp
  case u64.ofNat m => exact ble_cond m _ _ _ fun hm => (IntWalk.u64_in (m : Int) ⟨by omega, by omega⟩).symm

section
variable {C : Ctx} {P : Program} {g : Gh} {h h' : Hp} {w : World} {t : Tr Value} {a : Act}

theorem run_run_wrap_add {k : IntKind} {x y : Int} : (Op.intArith .add k x y).run P w = .ok (.int k (wrapF k (x + y))) w := by simp [Op.intArith, wrapF_eq]

/-! equality -/

theorem eqFields_ok {d D : Nat} {xs ys xs' ys' : Array Value} (hC : CtxOk C P) (hx : VRL g xs.toList xs'.toList) (hy : VRL g ys.toList ys'.toList)
    (ih : ∀ t x y x' y' r, VR g x x' → VR g y y' → eqV C d t x y = some r → (Op.equalIn D t x' y').run P w = .ok r w) :
    ∀ (fs : List Field) {r : Bool}, eqFields (eqV C d) C xs ys fs = some r → (Op.eqFields D xs' ys' fs).run P w = .ok r w
  | [], r, e => by simp [eqFields] at e; subst e; simp [Op.eqFields]
  | f :: fs, r, e => by
    simp only [eqFields] at e
    cases hn : (f.name == "_") with
    | true => rw [hn] at e; cases e
    | false =>
    rw [hn] at e
    simp only [cond_false] at e
    have hne : f.name ≠ "_" := by simpa using hn
    split at e
    · rename_i u v h1 h2
      obtain ⟨u', hu', ru⟩ := part_ok (P := P) (w := w) hC hx h1
      obtain ⟨v', hv', rv⟩ := part_ok (P := P) (w := w) hC hy h2
      split at e
      · rename_i h3
        have := ih _ _ _ _ _ _ ru rv h3
        simp [Op.eqFields, hne, hu', hv', this, eqFields_ok hC hx hy ih fs e]
      · rename_i h3
        cases e
        have := ih _ _ _ _ _ _ ru rv h3
        simp [Op.eqFields, hne, hu', hv', this]
      · cases e
    · cases e

theorem fieldsOf_eq {t : TypeId} {fs : Array Field} (h : P.underlying t = some (.struct fs)) : P.fieldsOf t = fs := by
  simp [Program.fieldsOf, h]

theorem eqV_ok (hC : CtxOk C P) : ∀ (d D : Nat) (t : TypeId) (x y x' y' : Value) (r : Bool), d ≤ D → VR g x x' → VR g y y' → eqV C d t x y = some r →
    (Op.equalIn D t x' y').run P w = .ok r w
  | 0, _, _, _, _, _, _, _, _, _, _, e => by simp [eqV] at e
  | d + 1, 0, _, _, _, _, _, _, hd, _, _, _ => by omega
  | d + 1, D + 1, t, x, y, x', y', r, hd, hx, hy, e => by
    simp only [eqV] at e
    split at e
    · rename_i hu; rw [hx.bool_inv, hy.bool_inv]; cases e; simp [Op.equalIn, run_underlying hC hu]
    · rename_i k a k' b hu; rw [hx.int_inv, hy.int_inv]
      split at e
      · rename_i hk; subst hk; cases e; simp [Op.equalIn, run_underlying hC hu]
      · cases e
    · rename_i k a k' b hu; rw [hx.float_inv, hy.float_inv]
      split at e
      · rename_i hk; subst hk; cases e; simp [Op.equalIn, run_underlying hC hu]
      · cases e
    · rename_i hu; rw [hx.string_inv, hy.string_inv]; cases e; simp [Op.equalIn, run_underlying hC hu]
    · rename_i b hu
      rw [hx.ptrN_inv]; cases e
      cases b with
      | none => rw [hy.ptrN_inv]; simp [Op.equalIn, run_underlying hC hu]
      | some b => obtain ⟨_, x, _, rfl⟩ := hy.ptr_inv; simp [Op.equalIn, run_underlying hC hu]
    · rename_i a hu
      rw [hy.ptrN_inv]; cases e
      obtain ⟨_, x, _, rfl⟩ := hx.ptr_inv; simp [Op.equalIn, run_underlying hC hu]
    · rename_i hu
      rw [hx.sliceN0_inv.2, hy.sliceN0_inv.2]; cases e; simp [Op.equalIn, run_underlying hC hu]
    · rename_i hu
      obtain ⟨_, x, _, _, _, rfl⟩ := hy.slice_inv
      rw [hx.sliceN0_inv.2]; cases e; simp [Op.equalIn, run_underlying hC hu]
    · rename_i hu
      obtain ⟨_, x, _, _, _, rfl⟩ := hx.slice_inv
      rw [hy.sliceN0_inv.2]; cases e; simp [Op.equalIn, run_underlying hC hu]
    · rename_i hu; cases hx; cases hy; cases e; simp [Op.equalIn, run_underlying hC hu]
    · rename_i hu; cases hx; obtain ⟨_, _, rfl, _, _⟩ := hy.func_inv; cases e; simp [Op.equalIn, run_underlying hC hu]
    · rename_i hu; cases hy; obtain ⟨_, _, rfl, _, _⟩ := hx.func_inv; cases e; simp [Op.equalIn, run_underlying hC hu]
    · rename_i fs xs ys hu
      obtain ⟨xs', rfl, hxs⟩ := hx.agg_inv
      obtain ⟨ys', rfl, hys⟩ := hy.agg_inv
      cases hc : C.eqs.contains t with
      | false => rw [hc] at e; cases e
      | true =>
      rw [hc] at e
      simp only [cond_true] at e
      have ht := und_ok hC hu
      have hf := fieldsOf_eq ht
      rw [run_equalIn_struct w D t xs' ys' (by rw [hf]; exact ht) (hC.eqs t (by simpa using hc)), hf]
      exact eqFields_ok hC hxs hys (fun t x y x' y' r a b c => eqV_ok hC d D t x y x' y' r (by omega) a b c) fs.toList e
    · cases e

def plainPair : Value → Value → Bool
  | .int _ _, .int _ _ | .float _ _, .float _ _ | .complex _ _ _, .complex _ _ _ | .string _, .string _ => false
  | _, _ => true

theorem binOp_eql {t : TypeId} {x y : Value} (h : plainPair x y = true) : binOp .eql t x y = (do pure (.bool (← Op.equal t x y)) : Sem Value) := by
  cases x <;> cases y <;> first | rfl | (simp [plainPair] at h)

theorem binOp_neq {t : TypeId} {x y : Value} (h : plainPair x y = true) : binOp .neq t x y = (do pure (.bool (!(← Op.equal t x y))) : Sem Value) := by
  cases x <;> cases y <;> first | rfl | (simp [plainPair] at h)

theorem plainPair_rel {x y x' y' : Value} (hx : VR g x x') (hy : VR g y y') : plainPair x' y' = plainPair x y := by
  cases hx <;> cases hy <;> rfl

theorem equalIn_nil_iface (hC : CtxOk C P) {t : TypeId} {ms : Array (String × TypeId)} (hu : und C t = some (.interface ms)) (D : Nat) (u : TypeId) (v : Value) :
    (Op.equalIn (D + 1) t .nilIface (.iface u v)).run P w = .ok false w := by simp [Op.equalIn, run_underlying hC hu]

theorem equalIn_iface_nil (hC : CtxOk C P) {t : TypeId} {ms : Array (String × TypeId)} (hu : und C t = some (.interface ms)) (D : Nat) (u : TypeId) (v : Value) :
    (Op.equalIn (D + 1) t (.iface u v) .nilIface).run P w = .ok false w := by simp [Op.equalIn, run_underlying hC hu]

theorem eqTop_ok (hC : CtxOk C P) {t : TypeId} {x y x' y' : Value} {r : Bool} {op : BinOp} (hop : op = .eql ∨ op = .neq) {ox oy : Operand} (hx : VR g x x') (hy : VR g y y') (e : eqTop C t x y = some r) :
    (Op.equal t x' y').run P w = .ok r w ∧ (eqGuard op t ox oy x' y').run P w = .ok () w := by
  have key : ∀ {r}, eqV C 20 t x y = some r → (Op.equal t x' y').run P w = .ok r w := fun e => eqV_ok hC 20 10000 t x y x' y' _ (by omega) hx hy e
  unfold eqTop at e
  split at e
  · split at e
    · rename_i hu
      cases hx; obtain ⟨u, rfl, _⟩ := hy.iface_inv; cases e
      exact ⟨equalIn_nil_iface hC hu 9999 _ _, by cases op <;> simp [eqGuard]⟩
    · cases e
  · split at e
    · rename_i hu
      cases hy; obtain ⟨u, rfl, _⟩ := hx.iface_inv; cases e
      exact ⟨equalIn_iface_nil hC hu 9999 _ _, by cases op <;> simp [eqGuard]⟩
    · cases e
  · rename_i xs ys
    cases hc : C.eqs.contains t with
    | false => rw [hc] at e; cases e
    | true =>
    rw [hc] at e
    obtain ⟨xs', rfl, hxs⟩ := hx.agg_inv
    obtain ⟨ys', rfl, hys⟩ := hy.agg_inv
    exact ⟨key e, by cases op <;> simp [eqGuard, hC.eqg t (by simpa using hc)]⟩
  · cases e
  · rename_i h1 h2 h3 h4
    refine ⟨key e, ?_⟩
    have hng : ∀ {a b : Value}, (a = .nilIface → b = .nilIface → False) → ((∃ xs ys, a = .agg xs ∧ b = .agg ys) → False) → (eqGuard op t ox oy a b).run P w = .ok () w := by
      intro a b ha hb
      rcases hop with rfl | rfl <;> cases a <;> cases b <;> first
        | (simp [eqGuard]; done)
        | (exact (ha rfl rfl).elim)
        | (exact (hb ⟨_, _, rfl, rfl⟩).elim)
    refine hng ?_ ?_
    · rintro rfl rfl; cases hx; first | exact h1 rfl | exact h2 rfl | exact h4 rfl | exact h3 rfl
    · rintro ⟨xs, ys, rfl, rfl⟩
      cases hx with
      | agg xs0 _ _ => cases hy with
        | agg ys0 _ _ => exact h4 _ _ rfl rfl

end
end Ev
