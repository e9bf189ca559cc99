import Derived.Test.YtjgbkacigiidmaaGreatEvZe
namespace Ev
open Go

section
variable {C : Ctx} {P : Program} {F : CallF} {ops : Array Oper} {st : Nat → St} {mt : Nat → Met} {N : Nat}

/-- which operations have been carried out. -/
abbrev In (listed : Array Bool) (i : Nat) : Prop := listed.getD i false = true

structure Inv (ops : Array Oper) (st : Nat → St) (N : Nat) (g0 : Gh) (w0 : World) (listed : Array Bool) (a : Act) (w : World) (g : Gh) (q : Nat) (T : Tr Value) : Prop where
  core : Core ops st (In listed) q g0 w0 g w
  hq : q = 0 ∨ ∃ p, q = p + 1 ∧ Wr ops st p
  temps : Temps ops st (In listed) T
  tr : TR g T a.tmps
  hN : a.tmps.size = N
  hd : a.defers = []

theorem in_set {listed : Array Bool} {k : Nat} (hk : k < listed.size) : In (listed.setIfInBounds k true) = fun i => In listed i ∨ i = k := by
  funext i
  apply propext
  by_cases h : k = i
  · subst h
    simp [In, hk]
  · rw [In, getD_set_ne false h]
    constructor
    · exact .inl
    · rintro (h' | h')
      · exact h'
      · exact absurd h'.symm h

variable {listed : Array Bool} {a : Act} {w w0 : World} {g g0 : Gh} {q : Nat} {T : Tr Value}

/-- one operation that may come up. -/
theorem Inv.op (hC : CtxOk C P) (hF : FOk P F) (hc : Canon C F ops st mt) (hg : Good ops) (hN4 : N ≤ 4000) (hdst : ∀ (j : Nat) (o : Oper) d, ops[j]? = some o → o.dst = some d → d < N)
    (hdr : drawnOk ops (st 0).h (mt ops.size) = true) (hls : listed.size = ops.size) (hsh : Shut ops listed)
    (I : Inv ops st N g0 w0 listed a w g q T) {k : Nat} (hkr : k ∈ Region.ready .any ops listed) {K : Act → World → Prop} {Q : Exit → Act → World → Prop}
    (hK : ∀ a' w' g' q' T', Inv ops st N g0 w0 (listed.setIfInBounds k true) a' w' g' q' T' → K a' w') : wpOp P ops Q k K a w := by
  obtain ⟨c, hq, ht, htr, hsz, hde⟩ := I
  obtain ⟨hkl, o, hk, _⟩ := mem_ready.1 hkr
  have hlt : k < ops.size := (Array.getElem?_eq_some_iff.1 hk).1
  have hSk : ¬ In listed k := by
    have : k < listed.size := by omega
    simp [In, this] at hkl ⊢
    exact hkl
  have hin := in_set (listed := listed) (k := k) (by omega)
  have hb : ∀ i, Bit ops k i → In listed i := fun i h => hsh.ready hkr h
  have hs : ∀ i j, In listed i → Bit ops i j → In listed j := by
    intro i j hi hbit
    have hil : i < ops.size := by
      rcases Nat.lt_or_ge i ops.size with h | h
      · exact h
      · rw [In, Array.getD_eq_getD_getElem?, Array.getElem?_eq_none (by omega)] at hi; cases hi
    have ho : ops[i]? = some ops[i] := by simp [hil]
    exact hsh.before i j _ ho (fun e h1 h2 => hsh i _ ho hi e h1 h2) hbit
  have hlook : ∀ x ∈ o.looksAt ops, getT T x = getT (st k).t x := fun x hx => ht.looks hc hg hN4 hdst hk hSk hb hs hx
  have hcong : ∀ h : Hp, aop C o T h = aop C o (st k).t h := fun h => aop_congr (opd_looks hlook)
  have hwant : Region.wanted o (yielded ops a.tmps) = wantedA ops.toList (st k).t o := by
    rw [wanted_eq htr (by rw [hsz]; exact hdst), wantedA_looks hlook]
  have hput : ∀ {g' : Gh} {v v' : Value}, TR g' T a.tmps → VR g' v v' → TR g' (putT T o.dst v) (a.put o.dst v').tmps := fun h1 h2 =>
    h1.put h2 (fun x hx => by rw [hsz]; exact hdst k o x hk hx) (by omega)
  have fin : ∀ {g' : Gh} {w' : World} {q' : Nat} {v v' : Value}, Core ops st (fun i => In listed i ∨ i = k) q' g0 w0 g' w' → (q' = 0 ∨ ∃ p, q' = p + 1 ∧ Wr ops st p) →
      (st (k + 1)).t = putT (st k).t o.dst v → TR g' T a.tmps → VR g' v v' → K (a.put o.dst v') w' := by
    intro g' w' q' v v' h1 h2 h3 h4 h5
    refine hK _ _ g' q' (putT T o.dst v) ⟨by rw [hin]; exact h1, h2, ?_, hput h4 h5, by simpa using hsz, by simpa using hde⟩
    rw [hin]
    exact ht.step hc hg hN4 hdst hk h3
  -- the heap is as it was
  have stay : ¬ Wr ops st k → ¬ Mk ops st k → ∀ {g' : Gh} {w' : World}, WR g' (st q).h w' → Ext g (st q).h w g' (st q).h w' → Core ops st (fun i => In listed i ∨ i = k) q g0 w0 g' w' := by
    intro hnw hnm g' w' h1 h2
    refine c.step hc hF hlt hSk (K := (st q).h) (K' := (st q).h) (q' := q) (fun _ => rfl) h1 h2 (fun _ _ h => h) c.wr.fresh c.wr.lim (Nat.le_refl _) c.qn (fun i h3 h4 => by omega) ?_ ?_ (fun h => absurd h hnm)
    · intro i hi
      rw [← c.wq i hi]
      constructor
      · rintro (h | rfl)
        · exact h
        · exact absurd hi hnw
      · exact .inl
    · intro i hi hlt'
      exact .inl (c.mq i hi hlt')
  unfold wpOp
  simp only [hk]
  rw [hwant]
  rcases hc.step k o hk with ⟨h0, h1, _⟩ | ⟨h0, h1⟩
  · rw [h0]
    simp only [Bool.false_eq_true, if_false]
    have hnw : ¬ Wr ops st k := by
      rintro ⟨o', ho', _, h⟩
      rw [hk] at ho'; cases ho'
      rw [h0] at h; cases h
    have hnm : ¬ Mk ops st k := by
      rintro ⟨o', ho', _, _, h⟩
      rw [hk] at ho'; cases ho'
      rw [h0] at h; cases h
    exact fin (v := undef) (stay hnw hnm c.wr (Ext.refl g _ w)) hq (by rw [h1]) htr (VR.undef g)
  · rw [h0]
    simp only [if_true]
    refine .inl ?_
    cases hwr : isWriter o with
    | true =>
      have hW : Wr ops st k := ⟨o, hk, hwr, h0⟩
      have hqk : q ≤ k := by
        rcases Nat.lt_or_ge k q with h | h
        · exact absurd ((c.wq k hW).2 h) hSk
        · exact h
      have ck : Core ops st (In listed) k g0 w0 g w := by
        have := c.catch hc (k - q) (by omega) ?_
        · rwa [show q + (k - q) = k by omega] at this
        · intro i h2 h3
          refine ⟨?_, ?_⟩
          · intro hWi
            obtain ⟨oi, hoi, hwi, _⟩ := hWi
            have := (c.wq i ⟨oi, hoi, hwi, by assumption⟩).1 (hb i (hg.ww i k oi o (by omega) hoi hk hwi hwr))
            omega
          · rintro ⟨oi, hoi, hmi, _⟩
            exact hb i (hg.mw i k oi o (by omega) hoi hk hmi hwr)
      have hfree : Fr g (st k).h (st (k + 1)).h := ck.free k hlt hSk
      have go : ∀ {g' : Gh} {w' : World}, WR g' (st (k + 1)).h w' → Ext g (st k).h w g' (st (k + 1)).h w' → Core ops st (fun i => In listed i ∨ i = k) (k + 1) g0 w0 g' w' := by
        intro g' w' h2 h3
        refine ck.step hc hF hlt hSk (K := (st k).h) (K' := (st (k + 1)).h) (q' := k + 1) (fun _ => rfl) h2 h3 (fun _ _ h => h) h2.fresh h2.lim (by omega) hlt (fun i h3 h4 => ⟨h3, h4⟩) ?_ ?_ ?_
        · intro i hi
          rw [ck.wq i hi]
          omega
        · intro i hi hlt'
          by_cases e : i = k
          · exact .inr e
          · exact .inl (ck.mq i hi (by omega))
        · intro hm; exact absurd hm hW.not_mk
      have e0 : ∀ {r : AR} {h' : Hp}, aop C o (st k).t (st k).h = some (r, h') → aop C o T (st k).h = some (r, h') := fun h => by rw [hcong]; exact h
      rcases h1 with ⟨v, h2, h3, _⟩ | ⟨h2, h3, _⟩ | ⟨f, args, hh, v, h2, h3, h4, _⟩
      · refine op_step (P := P) hC hF htr ck.wr hfree (e0 h2) ?_ ?_ ?_
        · intro u hu g' w' v' hvr hwr' hex
          have : u = v := by
            rcases hu with hu | ⟨hu, _⟩
            · cases hu; rfl
            · cases hu
          subst this
          exact fin (go hwr' hex) (.inr ⟨k, rfl, hW⟩) h3 (htr.mono hex.ge) hvr
        · intro u hu; cases hu
        · intro f args hu; cases hu
      · refine op_step (P := P) hC hF htr ck.wr hfree (e0 h2) ?_ ?_ ?_
        · intro u hu g' w' v' hvr hwr' hex
          have : u = undef := by
            rcases hu with hu | ⟨_, hu⟩
            · cases hu
            · exact hu
          subst this
          exact fin (go hwr' hex) (.inr ⟨k, rfl, hW⟩) h3 (htr.mono hex.ge) hvr
        · intro u hu; cases hu
        · intro f args hu; cases hu
      · have hhk := (aop_call_h h2).1
        subst hhk
        refine op_step (P := P) hC hF htr ck.wr (fun i h5 h6 => by omega) (e0 h2) ?_ ?_ ?_
        · rintro u (hu | ⟨hu, _⟩) <;> cases hu
        · intro u hu; cases hu
        · intro f' args' hu
          cases hu
          refine ⟨.ret v, (st (k + 1)).h, h3, hfree, ?_, ?_⟩
          · intro u hu g' w' v' hvr hwr' hex
            cases hu
            exact fin (go hwr' hex) (.inr ⟨k, rfl, hW⟩) h4 (htr.mono hex.ge) hvr
          · intro u hu; cases hu
    | false =>
      have hnw : ¬ Wr ops st k := by
        rintro ⟨o', ho', h, _⟩
        rw [hk] at ho'; cases ho'
        rw [hwr] at h; cases h
      -- no call
      have h1' : ∃ r v, aop C o (st k).t (st k).h = some (r, (st (k + 1)).h) ∧ (r = .val v ∨ (r = .skip ∧ v = undef)) ∧ (st (k + 1)).t = putT (st k).t o.dst v ∧
          (isReader o = true → (st (k + 1)).h.next = (st k).h.next) ∧ mt (k + 1) = Ev.note C o k (st k).t r (st (k + 1)).h (mt k) := by
        rcases h1 with ⟨v, h2, h3, h5, h4⟩ | ⟨h2, h3, h4⟩ | ⟨f, args, hh, v, h2, h3, _⟩
        · exact ⟨_, v, h2, .inl rfl, h3, h4, h5⟩
        · refine ⟨_, undef, h2, .inr ⟨rfl, rfl⟩, h3, ?_, h4⟩
          intro hr
          obtain ⟨v, hv⟩ := aop_reader_val hr h2
          cases hv
        · have := (aop_call_h h2).2
          rw [hwr] at this; cases this
      obtain ⟨r, v, h2, hrv, h3, hrn, hmt⟩ := h1'
      have hval : ∀ u, (r = .val u ∨ (r = .skip ∧ u = undef)) → u = v := by
        rintro u (hu | ⟨hu, hu'⟩) <;> rcases hrv with h | ⟨h, h'⟩
        · rw [h] at hu; cases hu; rfl
        · rw [h] at hu; cases hu
        · rw [h] at hu; cases hu
        · rw [hu', h']
      have hnp : ∀ u, r ≠ .panic u := by
        rintro u rfl
        rcases hrv with h | ⟨h, _⟩ <;> cases h
      have hnc : ∀ f args, r ≠ .call f args := by
        rintro f args rfl
        rcases hrv with h | ⟨h, _⟩ <;> cases h
      -- carried out at (st q).h, which it leaves
      have still : ¬ Mk ops st k → aop C o T (st q).h = some (r, (st q).h) → o.wp P a w K Q := by
        intro hnm e
        refine op_step (P := P) hC hF htr c.wr (fun i h5 h6 => by omega) e ?_ ?_ ?_
        · intro u hu g' w' v' hvr hwr' hex
          have := hval u hu
          subst this
          exact fin (stay hnw hnm hwr' hex) hq h3 (htr.mono hex.ge) hvr
        · intro u hu; exact absurd hu (hnp u)
        · intro f args hu; exact absurd hu (hnc f args)
      cases hr : isReader o with
      | true =>
        have hnm : ¬ Mk ops st k := by
          rintro ⟨o', ho', _, h, _⟩
          rw [hk] at ho'; cases ho'
          rw [hr] at h; cases h
        obtain ⟨u, hu⟩ := aop_reader_val hr h2
        have : u = v := hval u (.inl hu)
        subst this
        subst hu
        have hl : (k, aop C o (st k).t, u) ∈ (mt (k + 1)).loads := by
          rw [hmt]
          unfold Ev.note
          rw [hr]
          simp
        have hso := reader_at hc hsh hk hkr hSk hr hl c.wq c.qn hq hdr
        obtain ⟨h', e1, e2⟩ := sameO_inv hso
        obtain ⟨e3, _⟩ := aop_reader hr e1 e2
        subst e3
        exact still hnm (by rw [hcong]; exact e1)
      | false =>
        cases hm : makes o with
        | false =>
          have hnm : ¬ Mk ops st k := by
            rintro ⟨o', ho', h, _⟩
            rw [hk] at ho'; cases ho'
            rw [hm] at h; cases h
          obtain ⟨_, h4⟩ := aop_pure hr hwr hm h2
          exact still hnm (by rw [hcong]; exact h4 _)
        | true =>
          have hM : Mk ops st k := ⟨o, hk, hm, hr, h0⟩
          have hqk : q ≤ k := by
            rcases Nat.lt_or_ge k q with h | h
            · exact absurd (c.mq k hM h) hSk
            · exact h
          have hnx := hc.next_le hF hqk (by omega)
          obtain ⟨b, hb1, hlim, hall⟩ := aop_maker hm hr h2
          have e := hall ⟨(st q).h.m, (st k).h.next⟩ rfl
          rw [← hcong] at e
          have hwk : WR g ⟨(st q).h.m, (st k).h.next⟩ w :=
            ⟨c.wr.live, c.wr.inj, fun i hi => c.wr.fresh i (Nat.le_trans hnx hi), Nat.le_of_lt hlim⟩
          have hgk : ∀ i, ((st q).h.m.set (some b) depthH (st k).h.next).get i = if i = (st k).h.next then some b else (st q).h.m.get i := fun i => get_set_at hlim i
          refine op_step (P := P) hC hF htr hwk ?_ e ?_ ?_ ?_
          · intro i h5 h6
            refine c.free k hlt hSk i h5 ?_
            rw [hb1]
            exact h6
          · intro u hu g' w' v' hvr hwr' hex
            have := hval u hu
            subst this
            refine fin (q' := q) ?_ hq h3 (htr.mono hex.ge) hvr
            refine c.step hc hF hlt hSk (K := ⟨(st q).h.m, (st k).h.next⟩) (fun _ => rfl) hwr' hex ?_ c.wr.fresh c.wr.lim (Nat.le_refl _) c.qn ?_ ?_ ?_ ?_
            · intro i B hi
              simp only
              rw [hgk, if_neg]
              · exact hi
              · intro he
                rw [c.wr.fresh i (by omega)] at hi; cases hi
            · intro i h5 h6
              rw [hb1]
              exact ⟨h5, h6⟩
            · intro i hi
              rw [← c.wq i hi]
              constructor
              · rintro (h | rfl)
                · exact h
                · exact absurd hi hnw
              · exact .inl
            · intro i hi hlt'
              exact .inl (c.mq i hi hlt')
            · intro _ b' hb'
              rw [hb1] at hb'
              simp only at hb'
              rw [get_set_at hlim, if_pos rfl] at hb'
              cases hb'
              obtain ⟨x, hx, hbr⟩ := hwr'.live (st k).h.next b (by simp only; rw [hgk, if_pos rfl])
              refine ⟨x, hx, hbr, ?_, ?_⟩
              · intro i B y hi hy he
                have hne : i ≠ (st k).h.next := by
                  intro he'
                  rw [c.wr.fresh i (by omega)] at hi; cases hi
                exact hne (hwr'.inj i (st k).h.next B b y x (by simp only; rw [hgk, if_neg hne]; exact hi) (by simp only; rw [hgk, if_pos rfl]) hy hx he)
              · rcases hex.img (st k).h.next b x (by simp only; rw [hgk, if_pos rfl]) hx with ⟨j, B, y, p1, p2, p3⟩ | p
                · exfalso
                  have hne : j ≠ (st k).h.next := by
                    intro he'
                    rw [c.wr.fresh j (by omega)] at p1; cases p1
                  exact hne (hwr'.inj j (st k).h.next B b y x (by simp only; rw [hgk, if_neg hne]; exact p1) (by simp only; rw [hgk, if_pos rfl]) (hex.ge _ _ p2) hx p3)
                · exact p
          · intro u hu; exact absurd hu (hnp u)
          · intro f args hu; exact absurd hu (hnc f args)

/-- nothing may come up: all have. -/
theorem all_listed (hg : Good ops) (hls : listed.size = ops.size) (hr : Region.ready .any ops listed = []) : ∀ (i : Nat), i < ops.size → In listed i := by
  intro i
  induction i using Nat.strongRecOn with
  | _ i ih =>
    intro hi
    have ho : ops[i]? = some ops[i] := by simp [hi]
    cases hl : listed.getD i false with
    | true => exact hl
    | false =>
      exfalso
      have : i ∈ Region.ready .any ops listed := by
        rw [mem_ready]
        have hlt : i < listed.size := by omega
        refine ⟨?_, _, ho, ?_⟩
        · simp [hlt] at hl ⊢; exact hl
        · intro e he hb
          have := hg.back i _ ho e he hb
          exact ih e.on this (by omega)
      rw [hr] at this
      cases this

theorem Inv.done (hF : FOk P F) (hc : Canon C F ops st mt) (hN4 : N ≤ 4000) (hdst : ∀ (j : Nat) (o : Oper) d, ops[j]? = some o → o.dst = some d → d < N) (I : Inv ops st N g0 w0 listed a w g q T) (hall : ∀ (i : Nat), i < ops.size → In listed i) :
    OutRel g0 (st 0).h w0 N .norm (st ops.size) .normal a w := by
  obtain ⟨c, hq, ht, htr, hsz, hde⟩ := I
  have cn : Core ops st (In listed) ops.size g0 w0 g w := by
    have := c.catch hc (ops.size - q) (by have := c.qn; omega) ?_
    · rwa [show q + (ops.size - q) = ops.size by have := c.qn; omega] at this
    · intro i h1 h2
      have hil : i < ops.size := by have := c.qn; omega
      refine ⟨?_, fun _ => hall i hil⟩
      intro hW
      have := (c.wq i hW).1 (hall i hil)
      omega
  refine ⟨g, hsz, hde, cn.wr, ⟨cn.ge, cn.new, cn.keep, cn.img, cn.size, hc.next_le hF (Nat.zero_le _) (Nat.le_refl _), cn.os, cn.out⟩, rfl, ?_⟩
  intro x
  have : getT (st ops.size).t x = getT T x := by
    obtain ⟨h1, h2⟩ := ht x
    by_cases he : ∃ (i : Nat) (o' : Oper), ops[i]? = some o' ∧ o'.dst = some x
    · obtain ⟨i, o', ho', hd⟩ := he
      exact (h1 i o' ho' (hall i (Array.getElem?_eq_some_iff.1 ho').1) hd).symm
    · have h3 := h2 fun i o' ho' _ hd => he ⟨i, o', ho', hd⟩
      rw [h3]
      exact hc.keepT' hN4 hdst x (Nat.zero_le _) (Nat.le_refl _) fun m o2 _ _ h4 h5 => he ⟨m, o2, h4, h5⟩
  rw [this]
  exact htr x

theorem not_in_none (n i : Nat) : ¬ In (Array.replicate n false) i := by
  intro h
  unfold In at h
  rw [Array.getD_eq_getD_getElem?, Array.getElem?_replicate] at h
  split at h <;> cases h

theorem Inv.any (hC : CtxOk C P) (hF : FOk P F) (hc : Canon C F ops st mt) (hg : Good ops) (hN4 : N ≤ 4000) (hdst : ∀ (j : Nat) (o : Oper) d, ops[j]? = some o → o.dst = some d → d < N)
    (hdr : drawnOk ops (st 0).h (mt ops.size) = true) {Q : Exit → Act → World → Prop} (hQ : ∀ e a' w', OutRel g0 (st 0).h w0 N .norm (st ops.size) e a' w' → Q e a' w') :
    ∀ (fuel : Nat) (listed : Array Bool) (a : Act) (w : World) (g : Gh) (q : Nat) (T : Tr Value) (l : List Nat), listed.size = ops.size → Shut ops listed →
      l.length ≤ fuel → (∀ i, i < ops.size → ¬ In listed i → i ∈ l) → Inv ops st N g0 w0 listed a w g q T → wpAny P .any ops Q fuel listed a w
  | 0, listed, a, w, g, q, T, l, hls, hsh, hl, hu, I => by
    have hnil : l = [] := by cases l with | nil => rfl | cons x y => simp at hl
    subst hnil
    have hall : ∀ i, i < ops.size → In listed i := fun i hi => Classical.byContradiction fun h => by have := hu i hi h; cases this
    refine ⟨?_, hQ _ _ _ (I.done hF hc hN4 hdst hall)⟩
    cases hr : Region.ready .any ops listed with
    | nil => rfl
    | cons x y =>
      exfalso
      have hx : x ∈ Region.ready .any ops listed := by rw [hr]; simp
      obtain ⟨hkl, o, hk, _⟩ := mem_ready.1 hx
      have hlt : x < ops.size := (Array.getElem?_eq_some_iff.1 hk).1
      have h1 := hall x hlt
      have h2 : x < listed.size := by omega
      simp [In, h2] at h1 hkl
      rw [h1] at hkl; cases hkl
  | fuel + 1, listed, a, w, g, q, T, l, hls, hsh, hl, hu, I => by
    refine ⟨fun hr => hQ _ _ _ (I.done hF hc hN4 hdst (all_listed hg hls hr)), ?_⟩
    intro k hk
    refine I.op hC hF hc hg hN4 hdst hdr hls hsh hk ?_
    intro a' w' g' q' T' I'
    obtain ⟨hkl, o, hko, _⟩ := mem_ready.1 hk
    have hlt : k < ops.size := (Array.getElem?_eq_some_iff.1 hko).1
    have hSk : ¬ In listed k := by
      have : k < listed.size := by omega
      simp [In, this] at hkl ⊢
      exact hkl
    have hkm := hu k hlt hSk
    refine Inv.any hC hF hc hg hN4 hdst hdr hQ fuel (listed.setIfInBounds k true) a' w' g' q' T' (l.erase k) (by simpa using hls) (hsh.step hk) ?_ ?_ I'
    · rw [List.length_erase_of_mem hkm]; omega
    · intro i hi hni
      have hne : i ≠ k := by
        rintro rfl
        apply hni
        rw [in_set (by omega)]
        exact .inr rfl
      have hni' : ¬ In listed i := by
        intro h
        apply hni
        rw [in_set (by omega)]
        exact .inl h
      rw [List.mem_erase_of_ne hne]
      exact hu i hi hni'

end

/-- drawn regions do what the evaluator says. -/
theorem drawnSound (C : Ctx) (P : Program) : DrawnSound C P := by
  intro F id ops N s o s' m hC hF hN4 hdst hdg hev hdr g w a htr hwr hfr hsz hde
  obtain ⟨rfl, st, mt, h0, h1, h2, h3, hstep⟩ := evOps_trace _ _ _ _ hev
  simp only [Array.length_toList] at h2 h3
  have hg := good_of hdg
  have hc : Canon C F ops st mt := by
    refine ⟨?_, h1⟩
    intro i x hx
    have := hstep i x (by simpa using hx)
    rwa [Nat.zero_add] at this
  subst h0 h2 h3
  refine wp_region_any hC.mixed ?_
  have hlt0 : (st 0).h.next ≤ (st ops.size).h.next := hc.next_le hF (Nat.zero_le _) (Nat.le_refl _)
  refine Inv.any (g0 := g) (w0 := w) hC hF hc hg hN4 hdst hdr (fun _ _ _ h => h) ops.size (Array.replicate ops.size false) a _ g 0 (st 0).t (List.range ops.size) (by simp) ?_ (by simp) ?_ ?_
  · intro j o ho hj
    exact absurd hj (not_in_none _ _)
  · intro i hi _
    exact List.mem_range.2 hi
  · have hno : ∀ i, ¬ In (Array.replicate ops.size false) i := fun i => not_in_none _ i
    refine ⟨⟨WR.of_same (w := w) rfl hwr, ?_, ?_, ?_, ?_, ?_, Nat.zero_le _, GExt.refl _, fun _ _ h => .inl h, fun _ _ _ => rfl, fun i B x hi hx => .inl ⟨i, B, x, hi, hx, rfl⟩, Nat.le_refl _, rfl, rfl⟩, .inl rfl, ?_, htr, hsz, hde⟩
    · intro j _ h; exact absurd h (hno j)
    · intro j _ _ _ _ h; exact absurd h (hno j)
    · intro i hi _ j h3 h4
      have h5 := hc.next_le hF (i := 0) (j := i) (by omega) (by omega)
      have h6 := hc.next_le hF (i := i + 1) (j := ops.size) (by omega) (by omega)
      exact hfr j (by omega) (by omega)
    · intro i _
      exact ⟨fun h => absurd h (hno i), fun h => by omega⟩
    · intro i _ h; omega
    · intro x
      exact ⟨fun i _ _ h => absurd h (hno i), fun _ => rfl⟩

end Ev
