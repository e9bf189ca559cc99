import Derived.Test.YtjgbkacigiidmaaGreatEvI
namespace Ev
open Go

section
variable {C : Ctx} {P : Program} {g : Gh} {h h' : Hp} {w : World} {t : Tr Value} {a : Act}

theorem bound_ok {v : Option Value} {v' : Value} {d n : Nat} (hv : ∀ u, v = some u → VR g u v') (hs : v.isSome = true) (e : bound v d = some n) {y : Nat} (hy : n ≤ y) (c : BoundsCode) :
    (Instr.sliceBound v' y c).run P w = .ok n w := by
  unfold bound at e
  split at e
  · simp at hs
  · cases e
    rw [(hv _ rfl).int_inv]
    have h1 : (0 : Int) ≤ (Int.ofNat n) ∧ (Int.ofNat n) ≤ (y : Int) := ⟨by simp, by simp; exact hy⟩
    simp only [Instr.sliceBound, asIntOf, Sem.run_bind, Sem.run_pure, Result.andThen_ok, if_pos h1]
    rfl
  · cases e

/-- an optional operand's value, abstract and concrete. -/
inductive VRO (g : Gh) : Option Value → Option Value → Prop where
  | none : VRO g none none
  | some {v v' : Value} (h : VR g v v') : VRO g (some v) (some v')

theorem optV_rel (ht : TR g t a.tmps) {x : Option Operand} {v : Option Value} (e : optV opd t x = some v) : VRO g v (x.map a.eval) := by
  cases x with
  | none => simp [optV] at e; subst e; exact .none
  | some x =>
    simp only [optV, Option.map_eq_some_iff] at e
    obtain ⟨u, hu, rfl⟩ := e
    exact .some (opd_rel ht hu)

theorem bounds_none {isS : Bool} {len cap l hh : Nat} {lo hi lo' hi' : Option Value} (hl : VRO g lo lo') (hh' : VRO g hi hi')
    (e1 : bound lo 0 = some l) (e2 : bound hi len = some hh) (h1 : l ≤ hh) (h2 : hh ≤ cap) :
    (Instr.sliceBounds isS len cap lo' hi' none).run P w = .ok (l, hh, cap) w := by
  unfold Instr.sliceBounds
  cases hl with
  | none =>
    simp [bound] at e1; subst e1
    cases hh' with
    | none => simp [bound] at e2; subst e2; simp
    | some r => simp [bound_ok (P := P) (w := w) (fun u hu => by cases hu; exact r) rfl e2 h2]
  | some r1 =>
    cases hh' with
    | none => simp [bound] at e2; subst e2; simp [bound_ok (P := P) (w := w) (fun u hu => by cases hu; exact r1) rfl e1 h1]
    | some r => simp [bound_ok (P := P) (w := w) (fun u hu => by cases hu; exact r) rfl e2 h2, bound_ok (P := P) (w := w) (fun u hu => by cases hu; exact r1) rfl e1 h1]

theorem bounds_some {isS : Bool} {len cap l hh m : Nat} {lo lo' : Option Value} {hi hi' mx mx' : Value} (hl : VRO g lo lo') (hh' : VR g hi hi') (hm : VR g mx mx')
    (e1 : bound lo 0 = some l) (e2 : bound (some hi) len = some hh) (e3 : bound (some mx) 0 = some m) (h1 : l ≤ hh) (h2 : hh ≤ m) (h3 : m ≤ cap) :
    (Instr.sliceBounds isS len cap lo' (some hi') (some mx')).run P w = .ok (l, hh, m) w := by
  unfold Instr.sliceBounds
  have b3 := fun c => bound_ok (P := P) (w := w) (fun u hu => by cases hu; exact hm) rfl e3 h3 c
  have b2 := fun c => bound_ok (P := P) (w := w) (fun u hu => by cases hu; exact hh') rfl e2 h2 c
  cases hl with
  | none => simp [bound] at e1; subst e1; simp [b3, b2]
  | some r1 =>
    have b1 := fun c => bound_ok (P := P) (w := w) (fun u hu => by cases hu; exact r1) rfl e1 h1 c
    simp [b3, b2, b1]

theorem slice_ok (hC : CtxOk C P) (hw : WR g h w) {ty : TypeId} {x x' v : Value} {lo hi mx lo' hi' mx' : Option Value} (hx : VR g x x') (hl : VRO g lo lo') (hh : VRO g hi hi') (hm : VRO g mx mx')
    (e : sliceV C h ty x lo hi mx = some v) : ∃ v', (Instr.sliceAt ty x' lo' hi' mx').run P w = .ok v' w ∧ VR g v v' := by
  unfold sliceV at e
  split at e
  · rename_i s hu
    rw [hx.string_inv]
    split at e
    · rename_i l hh0 e1 e2
      cases hm
      cases hc : (Nat.ble l hh0 && Nat.ble hh0 s.size) with
      | false => rw [hc] at e; cases e
      | true =>
      rw [hc] at e
      cases e
      simp only [Bool.and_eq_true, Nat.ble_eq] at hc
      have hb := bounds_none (P := P) (w := w) (isS := false) hl hh e1 e2 hc.1 hc.2
      refine ⟨.string (s.extract l hh0), ?_, .string _⟩
      simp [Instr.sliceAt, run_underlying hC hu, Instr.slice, hb]
    · cases e
  · rename_i el ad len cap hu
    obtain ⟨i, off, sp⟩ := ad
    obtain ⟨rfl, x0, c', hg, hcap, rfl⟩ := hx.slice_inv
    split at e
    · rename_i l hh0 sz e1 e2 hsz
      split at e
      · rename_i mv
        cases hm with
        | some hmr =>
        split at e
        · rename_i m e3
          cases hc : (Nat.ble l hh0 && Nat.ble hh0 m && Nat.ble m cap && hi.isSome) with
          | false => rw [hc] at e; cases e
          | true =>
          rw [hc] at e
          cases e
          simp only [Bool.and_eq_true, Nat.ble_eq] at hc
          obtain ⟨⟨⟨q1, q2⟩, q3⟩, q4⟩ := hc
          have hcc : cap ≤ c' := by rcases hcap with h | ⟨_, _, h, _⟩ <;> omega
          cases hh with
          | none => simp at q4
          | some hr =>
          have hb := bounds_some (P := P) (w := w) (isS := true) (len := len) (cap := c') hl hr hmr e1 e2 e3 q1 q2 (by omega)
          refine ⟨.slice (some (if m = l then ⟨x0.b, off, none⟩ else (⟨x0.b, off, none⟩ : Addr).add (l * sz))) (hh0 - l) (m - l), ?_, ?_⟩
          · simp only [Instr.sliceAt, Sem.run_bind, run_underlying hC hu, Result.andThen_ok, Instr.slice, hb, run_sizeOf hC hsz, Sem.run_pure]
            split <;> rfl
          · cases hml : Nat.beq m l with
            | true =>
              have := Nat.eq_of_beq_eq_true hml
              rw [if_pos this]
              exact .slice i off _ _ _ x0 hg (.inl rfl)
            | false =>
              rw [if_neg (by intro h; rw [beq_true_of h] at hml; cases hml)]
              simp only [cond_false, add_off]
              exact .slice i (off + l * sz) _ _ _ x0 hg (.inl rfl)
        · cases e
      · cases hm
        cases hc : (Nat.ble l hh0 && Nat.ble hh0 cap && szOk h i sz) with
        | false => rw [hc] at e; cases e
        | true =>
        rw [hc] at e
        simp only [cond_true] at e
        simp only [Bool.and_eq_true, Nat.ble_eq] at hc
        obtain ⟨hc, hszk⟩ := hc
        have hszx : x0.grown = true → x0.sz = sz := by
          intro hgr
          unfold szOk at hszk
          split at hszk
          · rename_i B hB
            obtain ⟨y, hy, br⟩ := hw.live i B hB
            rw [hg] at hy; cases hy
            rw [← br.gr] at hgr
            rw [hgr] at hszk
            rw [← br.sz]
            exact Nat.eq_of_beq_eq_true (by simpa using hszk)
          · cases hszk
        have hcc : cap ≤ c' := by rcases hcap with h | ⟨_, _, h, _⟩ <;> omega
        have hb := bounds_none (P := P) (w := w) (isS := true) (cap := c') hl hh e1 e2 hc.1 (by omega)
        have hrun : (Instr.sliceAt ty (.slice (some ⟨x0.b, off, none⟩) len c') lo' hi' none).run P w =
            .ok (.slice (some (if c' = l then ⟨x0.b, off, none⟩ else (⟨x0.b, off, none⟩ : Addr).add (l * sz))) (hh0 - l) (c' - l)) w := by
          simp only [Instr.sliceAt, Sem.run_bind, run_underlying hC hu, Result.andThen_ok, Instr.slice, hb, run_sizeOf hC hsz, Sem.run_pure]
          split <;> rfl
        cases hcl : (Nat.beq cap l && Nat.blt 0 l) with
        | true =>
          rw [hcl] at e
          cases e
          simp only [Bool.and_eq_true] at hcl
          have := Nat.eq_of_beq_eq_true hcl.1
          have h0 : hh0 - l = 0 := by omega
          rw [h0] at hrun
          exact ⟨_, hrun, .emptySlice _ _⟩
        | false =>
          rw [hcl] at e
          cases e
          refine ⟨_, hrun, ?_⟩
          have hadd : (⟨x0.b, off, none⟩ : Addr).add (l * sz) = ⟨x0.b, off + l * sz, none⟩ := add_off _ _ _
          have haddi : (⟨i, off, none⟩ : Addr).add (l * sz) = ⟨i, off + l * sz, none⟩ := add_off _ _ _
          rw [haddi]
          have hk : capR x0 (off + l * sz) (cap - l) (c' - l) := by
            rcases hcap with rfl | ⟨g1, g2, g3, g4⟩
            · exact .inl rfl
            · right
              have hs := hszx g1
              rw [hs] at g2 g4 ⊢
              have m1 : l * sz + (cap - l) * sz = cap * sz := by rw [← Nat.add_mul]; congr 1; omega
              have m2 : l * sz + (c' - l) * sz = c' * sz := by rw [← Nat.add_mul]; congr 1; omega
              exact ⟨g1, by omega, by omega, by omega⟩
          by_cases hl0 : l = 0
          · subst hl0
            simp only [Nat.zero_mul, Nat.add_zero] at hk hadd ⊢
            rw [hadd, ite_self]
            exact .slice i off _ _ _ x0 hg hk
          · have hne : cap ≠ l := by
              intro h
              rw [beq_true_of h, show Nat.blt 0 l = true by rw [Nat.blt_eq]; omega] at hcl
              cases hcl
            rw [if_neg (by omega), hadd]
            exact .slice i (off + l * sz) _ _ _ x0 hg hk
    · cases e
  · rename_i c hu
    split at e
    · rename_i sz e1 e2 hsz
      cases e
      cases hm
      rcases hx.sliceN_inv with ⟨_, ⟨rfl, rfl⟩ | ⟨rfl, a', c', rfl⟩⟩
      · have hb := bounds_none (P := P) (w := w) (isS := true) (cap := 0) hl hh e1 e2 (Nat.le_refl _) (Nat.le_refl _)
        refine ⟨.slice none 0 0, ?_, .nilSlice⟩
        simp [Instr.sliceAt, run_underlying hC hu, Instr.slice, hb, run_sizeOf hC hsz]
      · have hb := bounds_none (P := P) (w := w) (isS := true) (cap := c') hl hh e1 e2 (Nat.le_refl _) (Nat.zero_le _)
        refine ⟨_, ?_, .emptySlice (if c' = 0 then a' else a'.map (·.add (0 * sz))) c'⟩
        simp only [Instr.sliceAt, Sem.run_bind, run_underlying hC hu, Result.andThen_ok, Instr.slice, hb, run_sizeOf hC hsz, Sem.run_pure]
        rfl
    · cases e
  · cases e

theorem fieldAddr_ok (hC : CtxOk C P) {s : TypeId} {k : Nat} {x : Option Value} {x' v : Value} (hx : ∀ u, x = some u → VR g u x') (e : opFieldAddr C k (und C s) x = some v) :
    ∃ v', (Instr.fieldAt s x' k).run P w = .ok v' w ∧ VR g v v' := by
  unfold opFieldAddr at e
  split at e
  · rename_i fields ad hu
    obtain ⟨i, off, sp⟩ := ad
    obtain ⟨rfl, x0, hg, rfl⟩ := (hx _ rfl).ptr_inv
    unfold fldA at e
    split at e
    · rename_i f hf
      unfold fldP at e
      split at e
      · rename_i n hn
        cases e
        refine ⟨.pointer (some ⟨x0.b, off + f.offset, none⟩), ?_, ?_⟩
        · have hn' : (Go.sizeOf f.type).run P w = .ok (n + 1) w := run_sizeOf hC hn w
          simp [Instr.fieldAt, run_underlying hC hu, hf, Instr.sureAddr, fieldPlace, hn', add_off]
        · rw [add_off]; exact .ptr i _ x0 hg
      · cases e
    · cases e
  · cases e

theorem field_ok (hC : CtxOk C P) {s : TypeId} {k : Nat} {x : Option Value} {x' v : Value} (hx : ∀ u, x = some u → VR g u x') (e : opField C k (und C s) x = some v) :
    ∃ v', (Instr.field s x' k).run P w = .ok v' w ∧ VR g v v' := by
  unfold opField at e
  split at e
  · rename_i fields cs hu
    obtain ⟨cs', rfl, hcs⟩ := (hx _ rfl).agg_inv
    split at e
    · rename_i f hf
      obtain ⟨v', hv', r⟩ := part_ok (P := P) (w := w) hC hcs e
      exact ⟨v', by simp [Instr.field, run_underlying hC hu, hf, asAgg, hv'], r⟩
    · cases e
  · cases e

theorem indexAddr_ok (hC : CtxOk C P) {ty : TypeId} {x i : Option Value} {x' i' v : Value} (hx : ∀ u, x = some u → VR g u x') (hi : ∀ u, i = some u → VR g u i')
    (e : opIndexAddr C (und C ty) x i = some v) : ∃ v', (Instr.indexAt ty x' i').run P w = .ok v' w ∧ VR g v v' := by
  unfold opIndexAddr at e
  split at e
  · rename_i n el ad k i0 hu
    obtain ⟨b, off, sp⟩ := ad
    obtain ⟨rfl, x0, hg, rfl⟩ := (hx _ rfl).ptr_inv
    rw [(hi _ rfl).int_inv]
    unfold elemA at e
    split at e
    · rename_i sz hsz
      cases hb : Nat.blt i0 n with
      | false => rw [hb] at e; cases e
      | true =>
      rw [hb] at e; cases e
      have hlt : i0 < n := by simpa [Nat.blt_eq] using hb
      have hc : (0 : Int) ≤ Int.ofNat i0 ∧ Int.ofNat i0 < (n : Int) := ⟨by simp, by simp; exact hlt⟩
      refine ⟨.pointer (some ⟨x0.b, off + i0 * sz, none⟩), ?_, ?_⟩
      · simp only [Instr.indexAt, Sem.run_bind, asIntOf, Sem.run_pure, Result.andThen_ok, run_underlying hC hu, Instr.sureAddr, if_pos hc, run_sizeOf hC hsz, add_off]
        rfl
      · rw [show Nat.mul i0 sz = i0 * sz from rfl, add_off]; exact .ptr b _ x0 hg
    · cases e
  · rename_i el ad n cp k i0 hu
    obtain ⟨b, off, sp⟩ := ad
    obtain ⟨rfl, x0, c', hg, _, rfl⟩ := (hx _ rfl).slice_inv
    rw [(hi _ rfl).int_inv]
    unfold elemA at e
    split at e
    · rename_i sz hsz
      cases hb : Nat.blt i0 n with
      | false => rw [hb] at e; cases e
      | true =>
      rw [hb] at e; cases e
      have hlt : i0 < n := by simpa [Nat.blt_eq] using hb
      have hc : (0 : Int) ≤ Int.ofNat i0 ∧ Int.ofNat i0 < (n : Int) := ⟨by simp, by simp; exact hlt⟩
      refine ⟨.pointer (some ⟨x0.b, off + i0 * sz, none⟩), ?_, ?_⟩
      · simp only [Instr.indexAt, Sem.run_bind, asIntOf, Sem.run_pure, Result.andThen_ok, run_underlying hC hu, if_pos hc, run_sizeOf hC hsz, add_off]
        rfl
      · rw [show Nat.mul i0 sz = i0 * sz from rfl, add_off]; exact .ptr b _ x0 hg
    · cases e
  · cases e

theorem index_ok (hC : CtxOk C P) {ty : TypeId} {x i : Option Value} {x' i' v : Value} (hx : ∀ u, x = some u → VR g u x') (hi : ∀ u, i = some u → VR g u i')
    (e : opIndex C (und C ty) x i = some v) : ∃ v', (Instr.index ty x' i').run P w = .ok v' w ∧ VR g v v' := by
  unfold opIndex at e
  split at e
  · rename_i n el cs k i0 hu
    obtain ⟨cs', rfl, hcs⟩ := (hx _ rfl).agg_inv
    rw [(hi _ rfl).int_inv]
    split at e
    · rename_i sz hsz
      cases hb : Nat.blt i0 n with
      | false => rw [hb] at e; cases e
      | true =>
      rw [hb] at e
      have hlt : i0 < n := by simpa [Nat.blt_eq] using hb
      have hc : (0 : Int) ≤ Int.ofNat i0 ∧ Int.ofNat i0 < (n : Int) := ⟨by simp, by simp; exact hlt⟩
      obtain ⟨v', hv', r⟩ := part_ok (P := P) (w := w) hC hcs e
      refine ⟨v', ?_, r⟩
      simp only [Instr.index, Sem.run_bind, asIntOf, Sem.run_pure, Result.andThen_ok, run_underlying hC hu, if_pos hc, run_sizeOf hC hsz]
      exact hv'
    · cases e
  · rename_i s k i0 hu
    rw [(hx _ rfl).string_inv, (hi _ rfl).int_inv]
    split at e
    · rename_i b hb
      cases e
      refine ⟨.int .u8 b.toNat, ?_, .int _ _⟩
      have hb' : (if (0 : Int) ≤ Int.ofNat i0 then s[(Int.ofNat i0).toNat]? else none) = some b := by
        rw [if_pos (by simp)]; exact hb
      simp only [Instr.index, Sem.run_bind, asIntOf, Sem.run_pure, Result.andThen_ok, run_underlying hC hu, hb']
    · cases e
  · cases e

theorem extract_ok {k : Nat} {x : Option Value} {x' v : Value} (hx : ∀ u, x = some u → VR g u x') (e : opExtract k x = some v) :
    ∃ v', (Instr.extract x' k).run P w = .ok v' w ∧ VR g v v' := by
  unfold opExtract at e
  split at e
  · rename_i vs
    obtain ⟨vs', rfl, hvs⟩ := (hx _ rfl).tuple_inv
    obtain ⟨v', hv', r⟩ := hvs.get (k := k) (v := v) (by simpa using e)
    have : vs'[k]? = some v' := by simpa using hv'
    exact ⟨v', by simp [Instr.extract, this], r⟩
  · cases e

theorem iface_ok (hC : CtxOk C P) {ty : TypeId} {x : Option Value} {x' v : Value} (hx : ∀ u, x = some u → VR g u x') (e : ifaceV ty (und C ty) x = some v) :
    ∃ v', (Instr.makeInterface ty x').run P w = .ok v' w ∧ VR g v v' := by
  unfold ifaceV at e
  split at e
  · cases e
  · rename_i d u hn hu
    cases e
    refine ⟨.iface ty x', ?_, .iface _ _ _ (hx _ rfl)⟩
    simp only [Instr.makeInterface, Sem.run_bind, run_underlying hC hu, Result.andThen_ok]
    cases d <;> first | rfl | exact (hn _ rfl).elim
  · cases e

theorem assert_ok (hC : CtxOk C P) {xT ty : TypeId} {ok : Bool} {x : Option Value} {x' v : Value} (hx : ∀ u, x = some u → VR g u x') (e : opAssert ty ok (und C ty) x = some v) :
    ∃ v', (Instr.typeAssert x' xT ty ok).run P w = .ok v' w ∧ VR g v v' := by
  unfold opAssert at e
  split at e
  · cases e
  · rename_i d u0 v0 hn hu
    obtain ⟨v1, rfl, r⟩ := (hx _ rfl).iface_inv
    cases hb : (ok && Nat.beq u0 ty) with
    | false => rw [hb] at e; cases e
    | true =>
    rw [hb] at e
    cases e
    simp only [Bool.and_eq_true] at hb
    obtain ⟨rfl, hb⟩ := hb
    have := Nat.eq_of_beq_eq_true hb
    subst this
    refine ⟨.tuple #[v1, .bool true], ?_, .tuple _ _ (.cons r (.cons (.bool true) .nil))⟩
    simp only [Instr.typeAssert, Sem.run_bind, run_underlying hC hu, Result.andThen_ok]
    cases d <;> first | (exact (hn _ rfl).elim) | simp
  · cases e

end
end Ev
