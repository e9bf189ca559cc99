import Derived.Test.YtfgbamkopfepdaaGreatDoorEE
namespace Ev
open Go

section
variable {C : Ctx} {P : Program} {F : CallF} {ops : Array Oper} {n : Nat} {st : Nat → St} {mt : Nat → Met}

/-- what the steps do to the heap. -/
theorem Canon.same (hc : Canon C F ops n st mt) {i : Nat} (hi : i < n) (hw : ¬ Wr ops n st i) (hm : ¬ Mk ops n st i) : (st (i + 1)).h = (st i).h := by
  have hio := Nat.lt_of_lt_of_le hi hc.le
  have ho : ops[i]? = some ops[i] := by simp [hio]
  rcases hc.step i _ hi ho with ⟨h0, h1, _⟩ | ⟨h0, h1⟩
  · rw [h1]
  · have hw' : isWriter ops[i] = false := by
      cases h : isWriter ops[i] with
      | false => rfl
      | true => exact absurd ⟨hi, _, ho, h, h0⟩ hw
    rcases h1 with ⟨v, h2, h3, _, h4⟩ | ⟨h2, h3, _⟩ | ⟨f, args, h1, v, h2, _⟩
    · cases hr : isReader ops[i] with
      | true => exact (aop_reader hr h2 (h4 hr)).1
      | false =>
        have hm' : makes ops[i] = false := by
          cases h : makes ops[i] with
          | false => rfl
          | true => exact absurd ⟨hi, _, ho, h, hr, h0⟩ hm
        exact (aop_pure hr hw' hm' h2).1
    · cases hr : isReader ops[i] with
      | true => obtain ⟨v, hv⟩ := aop_reader_val hr h2; cases hv
      | false =>
        have hm' : makes ops[i] = false := by
          cases h : makes ops[i] with
          | false => rfl
          | true => exact absurd ⟨hi, _, ho, h, hr, h0⟩ hm
        exact (aop_pure hr hw' hm' h2).1
    · rw [(aop_call_h h2).2] at hw'; cases hw'

theorem Canon.make (hc : Canon C F ops n st mt) {i : Nat} (hm : Mk ops n st i) :
    ∃ b, (st (i + 1)).h = ⟨(st i).h.m.set (some b) depthH (st i).h.next, (st i).h.next + 1⟩ ∧ (st i).h.next < limH := by
  obtain ⟨hi, o, ho, h1, h2, h3⟩ := hm
  rcases hc.step i _ hi ho with ⟨h0, _⟩ | ⟨_, h4⟩
  · rw [h3] at h0; cases h0
  · rcases h4 with ⟨v, h5, _⟩ | ⟨h5, _⟩ | ⟨f, args, hh, v, h5, _⟩
    · obtain ⟨b, q1, q2, _⟩ := aop_maker h1 h2 h5; exact ⟨b, q1, q2⟩
    · obtain ⟨b, q1, q2, _⟩ := aop_maker h1 h2 h5; exact ⟨b, q1, q2⟩
    · have := (aop_call_h h5).2
      rw [maker_not_writer h1] at this; cases this

theorem Canon.next (hc : Canon C F ops n st mt) (hF : FOk P F) {i : Nat} (hi : i < n) : (st i).h.next ≤ (st (i + 1)).h.next := by
  have hio := Nat.lt_of_lt_of_le hi hc.le
  have ho : ops[i]? = some ops[i] := by simp [hio]
  rcases hc.step i _ hi ho with ⟨h0, h1, _⟩ | ⟨h0, h1⟩
  · rw [h1]; exact Nat.le_refl _
  · rcases h1 with ⟨v, h2, h3, _, h4⟩ | ⟨h2, h3, _⟩ | ⟨f, args, h1, v, h2, h3, _⟩
    · exact aop_next h2
    · exact aop_next h2
    · exact Nat.le_trans (aop_next h2) (hF f args h1 _ _ h3).1

theorem Canon.next_le (hc : Canon C F ops n st mt) (hF : FOk P F) {i : Nat} : ∀ {j : Nat}, i ≤ j → j ≤ n → (st i).h.next ≤ (st j).h.next
  | 0, h, _ => by have : i = 0 := by omega
                  subst this; exact Nat.le_refl _
  | j + 1, h, hj => by
    by_cases e : i = j + 1
    · subst e; exact Nat.le_refl _
    · exact Nat.le_trans (hc.next_le hF (j := j) (by omega) (by omega)) (hc.next hF (by omega))

theorem Wr.lt {i : Nat} (h : Wr ops n st i) : i < n := h.1
theorem Mk.lt {i : Nat} (h : Mk ops n st i) : i < n := h.1
theorem Wr.not_mk {i : Nat} (h : Wr ops n st i) : ¬ Mk ops n st i := by
  obtain ⟨_, o, ho, h1, _⟩ := h
  rintro ⟨_, o', ho', h2, _⟩
  rw [ho] at ho'; cases ho'
  rw [maker_not_writer h2] at h1; cases h1

theorem get_set_at {m : Tr Blk} {b : Blk} {i : Nat} (hi : i < limH) (j : Nat) : (m.set (some b) depthH i).get j = if j = i then some b else m.get j := by
  have : limH + 1 < 2 ^ depthH := by decide
  exact Tr.get_set _ _ _ _ _ (by omega)

/-- the world behind the operations of S, of which the last writer was that ahead of q. -/
structure Core (ops : Array Oper) (n : Nat) (st : Nat → St) (S : Nat → Prop) (q : Nat) (g0 : Gh) (w0 : World) (g : Gh) (w : World) : Prop where
  wr : WR g (st q).h w
  pend : ∀ j, q ≤ j → S j → Mk ops n st j → ∀ b, (st (j + 1)).h.m.get (st j).h.next = some b → ∃ x, g (st j).h.next = some x ∧ BR g b x w ∧
    (∀ i B y, (st q).h.m.get i = some B → g i = some y → y.b ≠ x.b) ∧ w0.heap.size ≤ x.b ∧ nGlob ≤ x.b
  pinj : ∀ j j', q ≤ j → q ≤ j' → j ≠ j' → S j → S j' → Mk ops n st j → Mk ops n st j' → ∀ x x', g (st j).h.next = some x → g (st j').h.next = some x' → x.b ≠ x'.b
  free : ∀ i, i < n → ¬ S i → Fr g (st i).h (st (i + 1)).h
  wq : ∀ i, Wr ops n st i → (S i ↔ i < q)
  mq : ∀ i, Mk ops n st i → i < q → S i
  qn : q ≤ n
  ge : GExt g0 g
  new : ∀ i x, g i = some x → g0 i = some x ∨ ((st 0).h.next ≤ i ∧ i < (st n).h.next)
  keep : ∀ b, b < w0.heap.size → (∀ i B x, (st 0).h.m.get i = some B → g0 i = some x → x.b ≠ b) → w.heap[b]? = w0.heap[b]?
  img : ∀ i B x, (st q).h.m.get i = some B → g i = some x → (∃ j B' y, (st 0).h.m.get j = some B' ∧ g0 j = some y ∧ y.b = x.b) ∨ w0.heap.size ≤ x.b
  size : w0.heap.size ≤ w.heap.size
  os : w.os = w0.os
  out : w.output = w0.output

variable {S : Nat → Prop} {q : Nat} {g0 g : Gh} {w0 w : World}

theorem Core.advance (hc : Canon C F ops n st mt) (c : Core ops n st S q g0 w0 g w) (hq : q < n) (hw : ¬ Wr ops n st q) (hm : Mk ops n st q → S q) : Core ops n st S (q + 1) g0 w0 g w := by
  have wq' : ∀ i, Wr ops n st i → (S i ↔ i < q + 1) := by
    intro i hi
    rw [c.wq i hi]
    have : i ≠ q := fun e => hw (e ▸ hi)
    omega
  have mq' : ∀ i, Mk ops n st i → i < q + 1 → S i := by
    intro i hi hlt
    by_cases e : i = q
    · subst e; exact hm hi
    · exact c.mq i hi (by omega)
  by_cases hmk : Mk ops n st q
  · obtain ⟨b, hb, hlim⟩ := hc.make hmk
    have hS := hm hmk
    have hget : ∀ i, (st (q + 1)).h.m.get i = if i = (st q).h.next then some b else (st q).h.m.get i := fun i => by
      rw [hb]; exact get_set_at hlim i
    obtain ⟨x, hx, hbr, hap, hsz, hlw⟩ := c.pend q (Nat.le_refl _) hS hmk b (by rw [hget]; simp)
    refine ⟨⟨?_, ?_, ?_, ?_, c.wr.base, ?_⟩, ?_, ?_, c.free, wq', mq', hq, c.ge, c.new, c.keep, ?_, c.size, c.os, c.out⟩
    · intro i B hi
      rw [hget] at hi
      by_cases e : i = (st q).h.next
      · rw [if_pos e] at hi; cases hi; subst e; exact ⟨x, hx, hbr⟩
      · rw [if_neg e] at hi; exact c.wr.live i B hi
    · intro i j B B' y y' hi hj hy hy' he
      rw [hget] at hi hj
      by_cases e : i = (st q).h.next
      · by_cases e' : j = (st q).h.next
        · rw [e, e']
        · rw [if_neg e'] at hj
          subst e
          rw [hx] at hy; cases hy
          exact absurd he.symm (hap j B' y' hj hy')
      · rw [if_neg e] at hi
        by_cases e' : j = (st q).h.next
        · subst e'
          rw [hx] at hy'; cases hy'
          exact absurd he (hap i B y hi hy)
        · rw [if_neg e'] at hj
          exact c.wr.inj i j B B' y y' hi hj hy hy' he
    · intro i hi
      rw [hget]
      rw [hb] at hi
      simp only at hi
      rw [if_neg (by omega)]
      exact c.wr.fresh i (by omega)
    · rw [hb]; simp only; omega
    · intro i B y hi hy
      rw [hget] at hi
      by_cases e : i = (st q).h.next
      · subst e
        rw [hx] at hy; cases hy
        exact hlw
      · rw [if_neg e] at hi
        exact c.wr.low i B y hi hy
    · intro j hj hSj hMj b' hb'
      obtain ⟨x', hx', hbr', hap', hsz'⟩ := c.pend j (by omega) hSj hMj b' hb'
      refine ⟨x', hx', hbr', ?_, hsz'⟩
      intro i B y hi hy
      rw [hget] at hi
      by_cases e : i = (st q).h.next
      · subst e
        exact c.pinj q j (Nat.le_refl _) (by omega) (by omega) hS hSj hmk hMj y x' hy hx'
      · rw [if_neg e] at hi
        exact hap' i B y hi hy
    · intro j j' hj hj' hne
      exact c.pinj j j' (by omega) (by omega) hne
    · intro i B y hi hy
      rw [hget] at hi
      by_cases e : i = (st q).h.next
      · subst e
        rw [hx] at hy; cases hy
        exact .inr hsz
      · rw [if_neg e] at hi
        exact c.img i B y hi hy
  · have hh := hc.same hq hw hmk
    refine ⟨by rw [hh]; exact c.wr, ?_, ?_, c.free, wq', mq', hq, c.ge, c.new, c.keep, by rw [hh]; exact c.img, c.size, c.os, c.out⟩
    · intro j hj; rw [hh]; exact c.pend j (by omega)
    · intro j j' hj hj' hne; exact c.pinj j j' (by omega) (by omega) hne

theorem Core.catch (hc : Canon C F ops n st mt) (c : Core ops n st S q g0 w0 g w) : ∀ (d : Nat), q + d ≤ n → (∀ i, q ≤ i → i < q + d → ¬ Wr ops n st i ∧ (Mk ops n st i → S i)) → Core ops n st S (q + d) g0 w0 g w
  | 0, _, _ => c
  | d + 1, hd, h => by
    have hd' : q + d + 1 ≤ n := hd
    have := Core.catch hc c d (by omega) (fun i h1 h2 => h i h1 (by omega))
    show Core ops n st S (q + d + 1) g0 w0 g w
    exact this.advance hc (by omega) (h (q + d) (by omega) (by omega)).1 (h (q + d) (by omega) (by omega)).2

/-- an operation carried out at the heap K. -/
theorem Core.step (hc : Canon C F ops n st mt) (hF : FOk P F) (c : Core ops n st S q g0 w0 g w) {k q' : Nat} (hk : k < n) (hSk : ¬ S k) {K K' : Hp} {g' : Gh} {w' : World}
    (hK : ∀ i, K.m.get i = (st q).h.m.get i) (hwr : WR g' K' w') (hx : Ext g K w g' K' w')
    (hq' : ∀ i B, (st q').h.m.get i = some B → K'.m.get i = some B) (hfr : ∀ i, (st q').h.next ≤ i → (st q').h.m.get i = none) (hlim : (st q').h.next ≤ limH)
    (hqq : q ≤ q') (hqn : q' ≤ n)
    (hn : ∀ i, K.next ≤ i → i < K'.next → (st k).h.next ≤ i ∧ i < (st (k + 1)).h.next)
    (wq' : ∀ i, Wr ops n st i → (S i ∨ i = k ↔ i < q')) (mq' : ∀ i, Mk ops n st i → i < q' → S i ∨ i = k)
    (hpk : Mk ops n st k → ∀ b, (st (k + 1)).h.m.get (st k).h.next = some b → ∃ x, g' (st k).h.next = some x ∧ BR g' b x w' ∧
      (∀ i B y, (st q').h.m.get i = some B → g' i = some y → y.b ≠ x.b) ∧ w.heap.size ≤ x.b ∧ nGlob ≤ x.b) :
    Core ops n st (fun i => S i ∨ i = k) q' g0 w0 g' w' := by
  have hg := hx.ge
  have old : ∀ j, q' ≤ j → S j → Mk ops n st j → ∀ b, (st (j + 1)).h.m.get (st j).h.next = some b → ∃ x, g (st j).h.next = some x ∧ x.b < w.heap.size ∧ BR g' b x w' ∧
      (∀ i B y, (st q').h.m.get i = some B → g' i = some y → y.b ≠ x.b) ∧ w0.heap.size ≤ x.b ∧ nGlob ≤ x.b := by
    intro j hj hSj hMj b hb
    obtain ⟨x, h1, h2, h3, h4⟩ := c.pend j (by omega) hSj hMj b hb
    refine ⟨x, h1, h2.lt, (h2.mono hg).of_blk (hx.keep x.b h2.lt ?_), ?_, h4⟩
    · intro i B y hi hy
      rw [hK] at hi
      exact h3 i B y hi hy
    · intro i B y hi hy
      rcases hx.img i B y (hq' i B hi) hy with ⟨j', B', z, p1, p2, p3⟩ | p
      · rw [hK] at p1
        rw [← p3]
        exact h3 j' B' z p1 p2
      · have := h2.lt; omega
  have hblk : ∀ j, Mk ops n st j → ∃ b, (st (j + 1)).h.m.get (st j).h.next = some b := by
    intro j hj
    obtain ⟨b, hb, hl⟩ := hc.make hj
    exact ⟨b, by rw [hb]; simp only; rw [get_set_at hl]; simp⟩
  refine ⟨⟨?_, ?_, hfr, hlim, hwr.base, fun i B x hi => hwr.low i B x (hq' i B hi)⟩, ?_, ?_, ?_, wq', mq', hqn, c.ge.trans hg, ?_, ?_, ?_, Nat.le_trans c.size hx.size, hx.os.trans c.os, hx.out.trans c.out⟩
  · intro i B hi
    exact hwr.live i B (hq' i B hi)
  · intro i j B B' y y' hi hj
    exact hwr.inj i j B B' y y' (hq' i B hi) (hq' j B' hj)
  · rintro j hj (hSj | rfl) hMj b hb
    · obtain ⟨x, h1, _, h2, h3, h4⟩ := old j hj hSj hMj b hb
      exact ⟨x, hg _ _ h1, h2, h3, h4⟩
    · obtain ⟨x, h1, h2, h3, h4⟩ := hpk hMj b hb
      exact ⟨x, h1, h2, h3, Nat.le_trans c.size h4.1, h4.2⟩
  · have half : ∀ j, q' ≤ j → S j → Mk ops n st j → Mk ops n st k → ∀ x x', g' (st j).h.next = some x → g' (st k).h.next = some x' → x.b ≠ x'.b := by
      intro j hj hSj hMj hMk x x' hxj hxk
      obtain ⟨b, hb⟩ := hblk j hMj
      obtain ⟨b', hb'⟩ := hblk k hMk
      obtain ⟨y, h1, h2, _⟩ := old j hj hSj hMj b hb
      obtain ⟨y', h1', h2', h3', h4'⟩ := hpk hMk b' hb'
      rw [hg _ _ h1] at hxj; cases hxj
      rw [h1'] at hxk; cases hxk
      omega
    rintro j j' hj hj' hne (hSj | rfl) (hSj' | rfl) hMj hMj' x x' hxj hxj'
    · obtain ⟨b, hb⟩ := hblk j hMj
      obtain ⟨b', hb'⟩ := hblk j' hMj'
      obtain ⟨y, h1, _⟩ := old j hj hSj hMj b hb
      obtain ⟨y', h1', _⟩ := old j' hj' hSj' hMj' b' hb'
      rw [hg _ _ h1] at hxj; cases hxj
      rw [hg _ _ h1'] at hxj'; cases hxj'
      exact c.pinj j j' (by omega) (by omega) hne hSj hSj' hMj hMj' _ _ h1 h1'
    · exact half j hj hSj hMj hMj' x x' hxj hxj'
    · exact fun e => half j' hj' hSj' hMj' hMj x' x hxj' hxj e.symm
    · exact absurd rfl hne
  · intro i hi hSi j h1 h2
    have hSi' : ¬ S i := fun h => hSi (.inl h)
    have hik : i ≠ k := fun h => hSi (.inr h)
    have h0 := c.free i hi hSi' j h1 h2
    cases hgj : g' j with
    | none => rfl
    | some y =>
      exfalso
      rcases hx.new j y hgj with h | ⟨h3, h4⟩
      · rw [h0] at h; cases h
      · have := hn j h3 h4
        rcases Nat.lt_or_ge i k with hlt | hge
        · have := hc.next_le hF (i := i + 1) (j := k) (by omega) (by omega); omega
        · have := hc.next_le hF (i := k + 1) (j := i) (by omega) (by omega); omega
  · intro i x hi
    rcases hx.new i x hi with h | ⟨h3, h4⟩
    · exact c.new i x h
    · have := hn i h3 h4
      have h5 := hc.next_le hF (i := 0) (j := k) (by omega) (by omega)
      have h6 := hc.next_le hF (i := k + 1) (j := n) (by omega) (by omega)
      exact .inr ⟨by omega, by omega⟩
  · intro b hb hno
    rw [← c.keep b hb hno]
    refine hx.keep b (Nat.lt_of_lt_of_le hb c.size) ?_
    intro i B x hi hxx
    rw [hK] at hi
    rcases c.img i B x hi hxx with ⟨j, B', y, h1, h2, h3⟩ | h
    · rw [← h3]; exact hno j B' y h1 h2
    · omega
  · intro i B x hi hxx
    rcases hx.img i B x (hq' i B hi) hxx with ⟨j', B', z, p1, p2, p3⟩ | p
    · rw [hK] at p1
      rw [← p3]
      exact c.img j' B' z p1 p2
    · exact .inr (Nat.le_trans c.size p)

end
end Ev
namespace Ev
open Go

section
variable {C : Ctx} {P : Program} {F : CallF} {ops : Array Oper} {n : Nat} {st : Nat → St} {mt : Nat → Met} {N : Nat}

/-! ### temporaries -/

theorem Canon.temp (hc : Canon C F ops n st mt) {i : Nat} {o : Oper} (hi : i < n) (ho : ops[i]? = some o) : ∃ v, (st (i + 1)).t = putT (st i).t o.dst v := by
  rcases hc.step i _ hi ho with ⟨h0, h1, _⟩ | ⟨h0, h1⟩
  · rw [h1]; exact ⟨_, rfl⟩
  · rcases h1 with ⟨v, h2, h3, _⟩ | ⟨h2, h3, _⟩ | ⟨f, args, h1, v, h2, h3, h4, _⟩
    · exact ⟨_, h3⟩
    · exact ⟨_, h3⟩
    · exact ⟨_, h4⟩

theorem getT_put_ne {t : Tr Value} {d : Option Nat} {v : Value} (hd : ∀ x, d = some x → x < 4000) {x : Nat} (hx : d ≠ some x) : getT (putT t d v) x = getT t x := by
  cases d with
  | none => rfl
  | some y =>
    rw [getT_putT (hd y rfl), if_neg]
    intro e; exact hx (by rw [e])

theorem Canon.keepT (hc : Canon C F ops n st mt) (hN : N ≤ 4000) (hdst : ∀ (j : Nat) (o : Oper) d, ops[j]? = some o → o.dst = some d → d < N) (x : Nat) (i : Nat) :
    ∀ (d : Nat), i + d ≤ n → (∀ m o, i ≤ m → m < i + d → ops[m]? = some o → o.dst ≠ some x) → getT (st (i + d)).t x = getT (st i).t x
  | 0, _, _ => rfl
  | d + 1, hd, h => by
    have hd' : i + d + 1 ≤ n := hd
    have ih := hc.keepT hN hdst x i d (by omega) (fun m o h1 h2 => h m o h1 (by omega))
    have hle := hc.le
    have ho : ops[i + d]? = some (ops[i + d]'(by omega)) := by simp
    obtain ⟨v, hv⟩ := hc.temp (show i + d < n by omega) ho
    show getT (st (i + d + 1)).t x = _
    rw [hv, getT_put_ne (fun y hy => Nat.lt_of_lt_of_le (hdst _ _ _ ho hy) hN) (h (i + d) _ (by omega) (by omega) ho), ih]

theorem Canon.keepT' (hc : Canon C F ops n st mt) (hN : N ≤ 4000) (hdst : ∀ (j : Nat) (o : Oper) d, ops[j]? = some o → o.dst = some d → d < N) (x : Nat) {i j : Nat}
    (hij : i ≤ j) (hj : j ≤ n) (h : ∀ m o, i ≤ m → m < j → ops[m]? = some o → o.dst ≠ some x) : getT (st j).t x = getT (st i).t x := by
  have := hc.keepT hN hdst x i (j - i) (by omega) (fun m o h1 h2 => h m o h1 (by omega))
  rwa [show i + (j - i) = j by omega] at this

/-- the frame behind the operations of S: theirs as at the end, all others as at the start. -/
def Temps (ops : Array Oper) (n : Nat) (st : Nat → St) (S : Nat → Prop) (T : Tr Value) : Prop :=
  ∀ x, (∀ i o, ops[i]? = some o → S i → o.dst = some x → getT T x = getT (st n).t x) ∧
    ((∀ i o, ops[i]? = some o → S i → o.dst ≠ some x) → getT T x = getT (st 0).t x)

variable {S : Nat → Prop} {T : Tr Value}

theorem Temps.step (hc : Canon C F ops n st mt) (hg : Good ops) (hN : N ≤ 4000) (hdst : ∀ (j : Nat) (o : Oper) d, ops[j]? = some o → o.dst = some d → d < N)
    (ht : Temps ops n st S T) {k : Nat} {o : Oper} (hlt : k < n) (hk : ops[k]? = some o) {v : Value} (hv : (st (k + 1)).t = putT (st k).t o.dst v) :
    Temps ops n st (fun i => S i ∨ i = k) (putT T o.dst v) := by
  have hd4 : ∀ x, o.dst = some x → x < 4000 := fun x hx => Nat.lt_of_lt_of_le (hdst _ _ _ hk hx) hN
  intro x
  obtain ⟨h1, h2⟩ := ht x
  by_cases hx : o.dst = some x
  · have e1 : getT (putT T o.dst v) x = v := by rw [hx, getT_putT (hd4 x hx), if_pos rfl]
    have e2 : getT (st n).t x = v := by
      rw [hc.keepT' hN hdst x (i := k + 1) (j := n) hlt (Nat.le_refl _) ?_, hv, hx, getT_putT (hd4 x hx), if_pos rfl]
      intro m o' hm _ ho'
      exact hg.dd k m o o' (by omega) hk ho' x hx
    exact ⟨fun _ _ _ _ _ => by rw [e1, e2], fun h => absurd hx (h k o hk (.inr rfl))⟩
  · rw [getT_put_ne hd4 hx]
    refine ⟨?_, ?_⟩
    · rintro i o' ho' (hS | rfl) hd
      · exact h1 i o' ho' hS hd
      · rw [hk] at ho'; cases ho'; exact absurd hd hx
    · intro h
      exact h2 fun i o' ho' hS => h i o' ho' (.inl hS)

/-- what an operation that may come up looks at is as in the canonical run. -/
theorem Temps.looks (hc : Canon C F ops n st mt) (hg : Good ops) (hN : N ≤ 4000) (hdst : ∀ (j : Nat) (o : Oper) d, ops[j]? = some o → o.dst = some d → d < N)
    (ht : Temps ops n st S T) {k : Nat} {o : Oper} (hlt : k ≤ n) (hk : ops[k]? = some o) (hSk : ¬ S k) (hb : ∀ i, Bit ops k i → S i) (hs : ∀ i j, S i → Bit ops i j → S j)
    {x : Nat} (hx : x ∈ o.looksAt ops) : getT T x = getT (st k).t x := by
  obtain ⟨h1, h2⟩ := ht x
  by_cases he : ∃ (i : Nat) (o' : Oper), ops[i]? = some o' ∧ o'.dst = some x
  · obtain ⟨i, o', ho', hd⟩ := he
    have only : ∀ m o2, ops[m]? = some o2 → o2.dst = some x → m = i := by
      intro m o2 h3 h4
      rcases Nat.lt_trichotomy m i with h | h | h
      · exact absurd hd (hg.dd m i o2 o' h h3 ho' x h4)
      · exact h
      · exact absurd h4 (hg.dd i m o' o2 h ho' h3 x hd)
    rcases Nat.lt_or_ge i k with h | h
    · have hS := hb i (hg.rd1 i k o' o h ho' hk x hd hx)
      rw [h1 i o' ho' hS hd]
      refine hc.keepT' hN hdst x (by omega) (Nat.le_refl _) ?_
      intro m o2 h3 _ h4 h5
      have := only m o2 h4 h5; omega
    · have hSi : ¬ S i := by
        intro hS
        rcases Nat.lt_or_ge k i with h' | h'
        · exact hSk (hs i k hS (hg.rd2 k i o o' h' hk ho' x hd hx))
        · have : i = k := by omega
          subst this; exact hSk hS
      rw [h2 ?_]
      · refine (hc.keepT' hN hdst x (Nat.zero_le k) (by omega) ?_).symm
        intro m o2 _ h3 h4 h5
        have := only m o2 h4 h5; omega
      · intro m o2 h3 h4 h5
        have := only m o2 h3 h5
        subst this; exact hSi h4
  · have hno : ∀ (m : Nat) (o2 : Oper), ops[m]? = some o2 → o2.dst ≠ some x := fun m o2 h3 h4 => he ⟨m, o2, h3, h4⟩
    rw [h2 fun m o2 h3 _ => hno m o2 h3]
    exact (hc.keepT' hN hdst x (Nat.zero_le k) (by omega) fun m o2 _ _ h3 => hno m o2 h3).symm

theorem opd_looks {o : Oper} {T t : Tr Value} (h : ∀ x ∈ o.looksAt ops, getT T x = getT t x) : ∀ x ∈ o.op.operands, opd T x = opd t x := by
  intro x hx
  cases x with
  | tmp n =>
    simp only [opd]
    rw [h n]
    unfold Oper.looksAt
    rw [List.mem_append]
    refine .inl ?_
    rw [List.mem_filterMap]
    exact ⟨.tmp n, by simpa using hx, rfl⟩
  | const v => rfl
  | global n => rfl
  | func f => rfl

theorem wantedA_looks {o : Oper} {T t : Tr Value} (h : ∀ x ∈ o.looksAt ops, getT T x = getT t x) : wantedA ops.toList T o = wantedA ops.toList t o := by
  unfold wantedA
  cases hg : o.guard with
  | none => rfl
  | some jw =>
    obtain ⟨j, want⟩ := jw
    simp only
    cases hd : dstOf ops.toList j with
    | none => rfl
    | some d =>
      simp only
      rw [h d]
      unfold Oper.looksAt
      rw [List.mem_append]
      refine .inr ?_
      rw [hg]
      simp only
      unfold dstOf at hd
      have : ops.toList[j]? = ops[j]? := by simp
      rw [this] at hd
      cases ho : ops[j]? with
      | none => rw [ho] at hd; cases hd
      | some o' =>
        rw [ho] at hd
        simp only at hd
        simp [hd]

/-! ### notes -/

theorem Canon.note (hc : Canon C F ops n st mt) {m : Nat} (hm : m < n) :
    (¬ Wr ops n st m ∧ (mt (m + 1)).stages = (mt m).stages) ∨ (Wr ops n st m ∧ (mt (m + 1)).stages = (m, (st (m + 1)).h) :: (mt m).stages) := by
  have hms := Nat.lt_of_lt_of_le hm hc.le
  have ho : ops[m]? = some ops[m] := by simp [hms]
  have hno : wantedA ops.toList (st m).t ops[m] = false → ¬ Wr ops n st m := by
    rintro h ⟨_, o, h1, _, h2⟩
    rw [ho] at h1; cases h1
    rw [h] at h2; cases h2
  have hnw : isWriter ops[m] = false → ¬ Wr ops n st m := by
    rintro h ⟨_, o, h1, h2, _⟩
    rw [ho] at h1; cases h1
    rw [h] at h2; cases h2
  have hnote : ∀ r h', wantedA ops.toList (st m).t ops[m] = true → (mt (m + 1)) = Ev.note C ops[m] m (st m).t r h' (mt m) → h' = (st (m + 1)).h →
      (¬ Wr ops n st m ∧ (mt (m + 1)).stages = (mt m).stages) ∨ (Wr ops n st m ∧ (mt (m + 1)).stages = (m, (st (m + 1)).h) :: (mt m).stages) := by
    rintro r h' hw h rfl
    rw [h]
    unfold Ev.note
    cases hr : isReader ops[m] with
    | true =>
      refine .inl ⟨hnw (reader_not_writer hr), ?_⟩
      cases r <;> rfl
    | false =>
      cases hwr : isWriter ops[m] with
      | true => exact .inr ⟨⟨hm, _, ho, hwr, hw⟩, rfl⟩
      | false => exact .inl ⟨hnw hwr, rfl⟩
  rcases hc.step m _ hm ho with ⟨h0, h1, h2⟩ | ⟨h0, h1⟩
  · exact .inl ⟨hno h0, by rw [h2]⟩
  · rcases h1 with ⟨v, h2, h3, h4, _⟩ | ⟨h2, h3, h4⟩ | ⟨f, args, h1, v, h2, h3, h4, h5⟩
    · exact hnote _ _ h0 h4 rfl
    · exact hnote _ _ h0 h4 rfl
    · exact hnote _ _ h0 h5 rfl

theorem Canon.stages (hc : Canon C F ops n st mt) (p : Nat) : ∀ (d : Nat), p + d ≤ n →
    ∃ l, (mt (p + d)).stages.reverse = (mt p).stages.reverse ++ l ∧ ∀ e ∈ l, p ≤ e.1 ∧ e.1 < p + d ∧ Wr ops n st e.1
  | 0, _ => ⟨[], by simp, by simp⟩
  | d + 1, hd => by
    have hd' : p + d + 1 ≤ n := hd
    obtain ⟨l, h1, h2⟩ := hc.stages p d (by omega)
    show ∃ l, (mt (p + d + 1)).stages.reverse = (mt p).stages.reverse ++ l ∧ ∀ e ∈ l, p ≤ e.1 ∧ e.1 < p + d + 1 ∧ Wr ops n st e.1
    rcases hc.note (m := p + d) (by omega) with ⟨_, h⟩ | ⟨hw, h⟩
    · exact ⟨l, by rw [h, h1], fun e he => by obtain ⟨q1, q2, q3⟩ := h2 e he; exact ⟨q1, by omega, q3⟩⟩
    · refine ⟨l ++ [(p + d, (st (p + d + 1)).h)], by rw [h, List.reverse_cons, h1, List.append_assoc], ?_⟩
      intro e he
      rw [List.mem_append] at he
      rcases he with he | he
      · obtain ⟨q1, q2, q3⟩ := h2 e he; exact ⟨q1, by omega, q3⟩
      · simp only [List.mem_singleton] at he
        subst he
        exact ⟨by simp, by simp, hw⟩

theorem Canon.loads_step (hc : Canon C F ops n st mt) {m : Nat} (hm : m < n) {e : Nat × (Hp → Option (AR × Hp)) × Value} (he : e ∈ (mt m).loads) : e ∈ (mt (m + 1)).loads := by
  have hms := Nat.lt_of_lt_of_le hm hc.le
  have ho : ops[m]? = some ops[m] := by simp [hms]
  have hnote : ∀ r h', (mt (m + 1)) = Ev.note C ops[m] m (st m).t r h' (mt m) → e ∈ (mt (m + 1)).loads := by
    intro r h' h
    rw [h]
    unfold Ev.note
    cases hr : isReader ops[m] with
    | true => cases r <;> simp [he]
    | false => cases hwr : isWriter ops[m] <;> simpa using he
  rcases hc.step m _ hm ho with ⟨h0, h1, h2⟩ | ⟨h0, h1⟩
  · rw [h2]; exact he
  · rcases h1 with ⟨v, h2, h3, h4, _⟩ | ⟨h2, h3, h4⟩ | ⟨f, args, h1, v, h2, h3, h4, h5⟩
    · exact hnote _ _ h4
    · exact hnote _ _ h4
    · exact hnote _ _ h5

theorem Canon.loads (hc : Canon C F ops n st mt) {p : Nat} {e : Nat × (Hp → Option (AR × Hp)) × Value} (he : e ∈ (mt p).loads) : ∀ (d : Nat), p + d ≤ n → e ∈ (mt (p + d)).loads
  | 0, _ => he
  | d + 1, hd => hc.loads_step (m := p + d) hd (hc.loads he d (by have : p + d + 1 ≤ n := hd; omega))

def lastH (h : Hp) : List (Nat × Hp) → Hp
  | [] => h
  | (_, h') :: r => lastH h' r

theorem lastH_append (h : Hp) (p : Nat) (h' : Hp) : ∀ l, lastH h (l ++ [(p, h')]) = h'
  | [] => rfl
  | (_, h1) :: l => lastH_append h1 p h' l

theorem loadOk_at {bef : Array Nat} {i : Nat} {f : Hp → Option (AR × Hp)} {v : Value} (l2 : List (Nat × Hp)) : ∀ (l1 : List (Nat × Hp)) (past : List Nat) (h : Hp),
    loadOk bef i f v past h (l1 ++ l2) = true → staged bef i ((l1.map (·.1)).reverse ++ past) (l2.map (·.1)) = true → sameO (lastH h l1) (f (lastH h l1)) v = true
  | [], past, h, e, hs => by
    simp only [List.map_nil, List.reverse_nil, List.nil_append] at hs e
    simp only [lastH]
    cases l2 with
    | nil =>
      simp only [loadOk, Bool.or_eq_true, Bool.not_eq_true'] at e
      rcases e with e | e
      · exact e
      · rw [List.map_nil, e] at hs; cases hs
    | cons y r =>
      obtain ⟨p, h'⟩ := y
      simp only [loadOk, Bool.or_eq_true, Bool.not_eq_true', Bool.and_eq_true] at e
      rcases e.1 with e | e
      · exact e
      · rw [List.map_cons, e] at hs; cases hs
  | (p, h') :: l1, past, h, e, hs => by
    simp only [List.cons_append, loadOk, Bool.and_eq_true] at e
    refine loadOk_at l2 l1 (p :: past) h' e.2 ?_
    simpa using hs

/-- a reader sees the same at the stage at hand. -/
theorem reader_at (hc : Canon C F ops n st mt) {listed : Array Bool} (hsh : Shut ops listed) {k q : Nat} {o : Oper} (hlt : k < n) (hkr : k ∈ Region.ready .any ops listed)
    (hSk : ¬ listed.getD k false = true)
    (_hr : isReader o = true) {v : Value} (hl : (k, aop C o (st k).t, v) ∈ (mt (k + 1)).loads) (hwq : ∀ i, Wr ops n st i → (listed.getD i false = true ↔ i < q)) (hqn : q ≤ n)
    (hq : q = 0 ∨ ∃ p, q = p + 1 ∧ Wr ops n st p) (hd : drawnOk ops (st 0).h (mt n) = true) :
    sameO (st q).h (aop C o (st k).t (st q).h) v = true := by
  have hl' : (k, aop C o (st k).t, v) ∈ (mt n).loads := by
    have := hc.loads hl (n - (k + 1)) (by omega)
    rwa [show k + 1 + (n - (k + 1)) = n by omega] at this
  obtain ⟨l2, e2, h2⟩ := hc.stages q (n - q) (by omega)
  rw [show q + (n - q) = n by omega] at e2 h2
  have hlast : lastH (st 0).h (mt q).stages.reverse = (st q).h := by
    rcases hq with rfl | ⟨p, rfl, hw⟩
    · rw [hc.m0]; rfl
    · rcases hc.note (m := p) (by omega) with ⟨h, _⟩ | ⟨_, h⟩
      · exact absurd hw h
      · rw [h, List.reverse_cons, lastH_append]
  obtain ⟨l1, e1, h1⟩ := hc.stages 0 q (by omega)
  rw [hc.m0] at e1
  simp only [Nat.zero_add, List.reverse_nil, List.nil_append] at e1 h1
  unfold drawnOk at hd
  have hst : staged (Region.before ops) k ((l1.map (·.1)).reverse ++ []) (l2.map (·.1)) = true := by
    unfold staged
    simp only [List.append_nil, Bool.and_eq_true, List.all_eq_true, List.mem_reverse, List.mem_map, Bool.not_eq_true']
    refine ⟨?_, ?_⟩
    · rintro x ⟨e, he, rfl⟩
      obtain ⟨_, q2, q3⟩ := h1 e he
      have hS := (hwq _ q3).2 q2
      cases hbt : ((Region.before ops).getD e.1 0).testBit k with
      | false => rfl
      | true =>
        obtain ⟨_, ow, how, _⟩ := q3
        exact absurd (hsh.before e.1 k ow how (fun ed h3 h4 => hsh e.1 ow how hS ed h3 h4) hbt) hSk
    · rintro x ⟨e, he, rfl⟩
      obtain ⟨q1, _, q3⟩ := h2 e he
      cases hbt : ((Region.before ops).getD k 0).testBit e.1 with
      | false => rfl
      | true =>
        have := (hwq _ q3).1 (hsh.ready hkr hbt)
        omega
  split at hd
  · rename_i hnil
    rw [List.all_eq_true] at hd
    have h0 := hd _ hl'
    simp only at h0
    rw [hnil] at e2
    have : (mt q).stages.reverse = [] := by
      cases h : (mt q).stages.reverse with
      | nil => rfl
      | cons a b => rw [h] at e2; simp at e2
    rw [this] at hlast
    rw [← hlast]
    exact h0
  · rw [List.all_eq_true] at hd
    have h0 := hd _ hl'
    simp only at h0
    rw [e2, e1] at h0
    have := loadOk_at l2 l1 [] _ h0 hst
    rw [← e1, hlast] at this
    exact this

theorem sameV_eq {x y : Value} (h : sameV x y = true) : x = y := by
  unfold sameV at h
  split at h
  all_goals first
    | (cases h; done)
    | rfl
    | (simp only [beq_iff_eq] at h; rw [h]; done)
    | skip
  · simp only [Bool.and_eq_true, decide_eq_true_eq, beq_iff_eq] at h; rw [h.1, h.2]
  · simp only [Bool.and_eq_true, decide_eq_true_eq, beq_iff_eq] at h; rw [h.1, h.2]
  · rename_i a b
    simp only [beq_iff_eq] at h
    have : a = b := by
      cases a; cases b
      simp only [ByteArray.mk.injEq]
      exact Array.ext' h
    rw [this]
  · simp only [Bool.and_eq_true, beq_iff_eq] at h; rw [h.1.1, h.1.2, h.2]

theorem sameL_eq : ∀ {x y : List Value}, sameL x y = true → x = y
  | [], [], _ => rfl
  | x :: l, y :: r, h => by
    simp only [sameL, Bool.and_eq_true] at h
    rw [sameV_eq h.1, sameL_eq h.2]
  | [], _ :: _, h => by cases h
  | _ :: _, [], h => by cases h

theorem sameW_eq {x y : Value} (h : sameW x y = true) : x = y := by
  unfold sameW at h
  split at h
  · rw [Array.ext' (sameL_eq h)]
  · exact sameV_eq h

theorem sameO_inv {h : Hp} {x : Option (AR × Hp)} {y : Value} (e : sameO h x y = true) : ∃ h', x = some (.val y, h') ∧ h'.next = h.next := by
  unfold sameO at e
  split at e
  · rename_i u h' 
    simp only [Bool.and_eq_true] at e
    exact ⟨h', by rw [sameW_eq e.1], Nat.eq_of_beq_eq_true e.2⟩
  · cases e

end
end Ev
namespace Ev
open Go

section
variable {C : Ctx} {P : Program} {F : CallF} {ops : Array Oper} {n : Nat} {st : Nat → St} {mt : Nat → Met} {N : Nat}

/-- which operations have been carried out. -/
abbrev In (listed : Array Bool) (i : Nat) : Prop := listed.getD i false = true

structure Inv (ops : Array Oper) (n : Nat) (st : Nat → St) (N : Nat) (g0 : Gh) (w0 : World) (listed : Array Bool) (a : Act) (w : World) (g : Gh) (q : Nat) (T : Tr Value) : Prop where
  core : Core ops n st (In listed) q g0 w0 g w
  hq : q = 0 ∨ ∃ p, q = p + 1 ∧ Wr ops n st p
  temps : Temps ops n st (In listed) T
  tr : TR g T a.tmps
  hN : a.tmps.size = N
  hd : a.defers = []

theorem in_set {listed : Array Bool} {k : Nat} (hk : k < listed.size) : In (listed.setIfInBounds k true) = fun i => In listed i ∨ i = k := by
  funext i
  apply propext
  by_cases h : k = i
  · subst h
    simp [In, hk]
  · rw [In, getD_set_ne false h]
    constructor
    · exact .inl
    · rintro (h' | h')
      · exact h'
      · exact absurd h'.symm h

variable {listed : Array Bool} {a : Act} {w w0 : World} {g g0 : Gh} {q : Nat} {T : Tr Value}

/-- one operation that may come up. -/
theorem Inv.op (hC : CtxOk C P) (hF : FOk P F) (hc : Canon C F ops n st mt) (hg : Good ops) (hN4 : N ≤ 4000) (hdst : ∀ (j : Nat) (o : Oper) d, ops[j]? = some o → o.dst = some d → d < N)
    (hdr : drawnOk ops (st 0).h (mt n) = true) (hls : listed.size = ops.size) (hsh : Shut ops listed)
    (I : Inv ops n st N g0 w0 listed a w g q T) {k : Nat} (hkn : k < n) (hkr : k ∈ Region.ready .any ops listed) {K : Act → World → Prop} {Q : Exit → Act → World → Prop}
    (hK : ∀ a' w' g' q' T', Inv ops n st N g0 w0 (listed.setIfInBounds k true) a' w' g' q' T' → K a' w') : wpOp P ops Q k K a w := by
  obtain ⟨c, hq, ht, htr, hsz, hde⟩ := I
  obtain ⟨hkl, o, hk, _⟩ := mem_ready.1 hkr
  have hlt : k < ops.size := (Array.getElem?_eq_some_iff.1 hk).1
  have hSk : ¬ In listed k := by
    have : k < listed.size := by omega
    simp [In, this] at hkl ⊢
    exact hkl
  have hin := in_set (listed := listed) (k := k) (by omega)
  have hb : ∀ i, Bit ops k i → In listed i := fun i h => hsh.ready hkr h
  have hs : ∀ i j, In listed i → Bit ops i j → In listed j := by
    intro i j hi hbit
    have hil : i < ops.size := by
      rcases Nat.lt_or_ge i ops.size with h | h
      · exact h
      · rw [In, Array.getD_eq_getD_getElem?, Array.getElem?_eq_none (by omega)] at hi; cases hi
    have ho : ops[i]? = some ops[i] := by simp [hil]
    exact hsh.before i j _ ho (fun e h1 h2 => hsh i _ ho hi e h1 h2) hbit
  have hlook : ∀ x ∈ o.looksAt ops, getT T x = getT (st k).t x := fun x hx => ht.looks hc hg hN4 hdst (Nat.le_of_lt hkn) hk hSk hb hs hx
  have hcong : ∀ h : Hp, aop C o T h = aop C o (st k).t h := fun h => aop_congr (opd_looks hlook)
  have hwant : Region.wanted o (yielded ops a.tmps) = wantedA ops.toList (st k).t o := by
    rw [wanted_eq htr (by rw [hsz]; exact hdst), wantedA_looks hlook]
  have hput : ∀ {g' : Gh} {v v' : Value}, TR g' T a.tmps → VR g' v v' → TR g' (putT T o.dst v) (a.put o.dst v').tmps := fun h1 h2 =>
    h1.put h2 (fun x hx => by rw [hsz]; exact hdst k o x hk hx) (by omega)
  have fin : ∀ {g' : Gh} {w' : World} {q' : Nat} {v v' : Value}, Core ops n st (fun i => In listed i ∨ i = k) q' g0 w0 g' w' → (q' = 0 ∨ ∃ p, q' = p + 1 ∧ Wr ops n st p) →
      (st (k + 1)).t = putT (st k).t o.dst v → TR g' T a.tmps → VR g' v v' → K (a.put o.dst v') w' := by
    intro g' w' q' v v' h1 h2 h3 h4 h5
    refine hK _ _ g' q' (putT T o.dst v) ⟨by rw [hin]; exact h1, h2, ?_, hput h4 h5, by simpa using hsz, by simpa using hde⟩
    rw [hin]
    exact ht.step hc hg hN4 hdst hkn hk h3
  -- the heap is as it was
  have stay : ¬ Wr ops n st k → ¬ Mk ops n st k → ∀ {g' : Gh} {w' : World}, WR g' (st q).h w' → Ext g (st q).h w g' (st q).h w' → Core ops n st (fun i => In listed i ∨ i = k) q g0 w0 g' w' := by
    intro hnw hnm g' w' h1 h2
    refine c.step hc hF hkn hSk (K := (st q).h) (K' := (st q).h) (q' := q) (fun _ => rfl) h1 h2 (fun _ _ h => h) c.wr.fresh c.wr.lim (Nat.le_refl _) c.qn (fun i h3 h4 => by omega) ?_ ?_ (fun h => absurd h hnm)
    · intro i hi
      rw [← c.wq i hi]
      constructor
      · rintro (h | rfl)
        · exact h
        · exact absurd hi hnw
      · exact .inl
    · intro i hi hlt'
      exact .inl (c.mq i hi hlt')
  unfold wpOp
  simp only [hk]
  rw [hwant]
  rcases hc.step k o hkn hk with ⟨h0, h1, _⟩ | ⟨h0, h1⟩
  · rw [h0]
    simp only [Bool.false_eq_true, if_false]
    have hnw : ¬ Wr ops n st k := by
      rintro ⟨_, o', ho', _, h⟩
      rw [hk] at ho'; cases ho'
      rw [h0] at h; cases h
    have hnm : ¬ Mk ops n st k := by
      rintro ⟨_, o', ho', _, _, h⟩
      rw [hk] at ho'; cases ho'
      rw [h0] at h; cases h
    exact fin (v := undef) (stay hnw hnm c.wr (Ext.refl g _ w)) hq (by rw [h1]) htr (VR.undef g)
  · rw [h0]
    simp only [if_true]
    refine .inl ?_
    cases hwr : isWriter o with
    | true =>
      have hW : Wr ops n st k := ⟨hkn, o, hk, hwr, h0⟩
      have hqk : q ≤ k := by
        rcases Nat.lt_or_ge k q with h | h
        · exact absurd ((c.wq k hW).2 h) hSk
        · exact h
      have ck : Core ops n st (In listed) k g0 w0 g w := by
        have := c.catch hc (k - q) (by omega) ?_
        · rwa [show q + (k - q) = k by omega] at this
        · intro i h2 h3
          refine ⟨?_, ?_⟩
          · intro hWi
            obtain ⟨hin2, oi, hoi, hwi, hwi2⟩ := hWi
            have := (c.wq i ⟨hin2, oi, hoi, hwi, hwi2⟩).1 (hb i (hg.ww i k oi o (by omega) hoi hk hwi hwr))
            omega
          · rintro ⟨_, oi, hoi, hmi, _⟩
            exact hb i (hg.mw i k oi o (by omega) hoi hk hmi hwr)
      have hfree : Fr g (st k).h (st (k + 1)).h := ck.free k hkn hSk
      have go : ∀ {g' : Gh} {w' : World}, WR g' (st (k + 1)).h w' → Ext g (st k).h w g' (st (k + 1)).h w' → Core ops n st (fun i => In listed i ∨ i = k) (k + 1) g0 w0 g' w' := by
        intro g' w' h2 h3
        refine ck.step hc hF hkn hSk (K := (st k).h) (K' := (st (k + 1)).h) (q' := k + 1) (fun _ => rfl) h2 h3 (fun _ _ h => h) h2.fresh h2.lim (by omega) hkn (fun i h3 h4 => ⟨h3, h4⟩) ?_ ?_ ?_
        · intro i hi
          rw [ck.wq i hi]
          omega
        · intro i hi hlt'
          by_cases e : i = k
          · exact .inr e
          · exact .inl (ck.mq i hi (by omega))
        · intro hm; exact absurd hm hW.not_mk
      have e0 : ∀ {r : AR} {h' : Hp}, aop C o (st k).t (st k).h = some (r, h') → aop C o T (st k).h = some (r, h') := fun h => by rw [hcong]; exact h
      rcases h1 with ⟨v, h2, h3, _⟩ | ⟨h2, h3, _⟩ | ⟨f, args, hh, v, h2, h3, h4, _⟩
      · refine op_step (P := P) hC hF htr ck.wr hfree (e0 h2) ?_ ?_ ?_
        · intro u hu g' w' v' hvr hwr' hex
          have : u = v := by
            rcases hu with hu | ⟨hu, _⟩
            · cases hu; rfl
            · cases hu
          subst this
          exact fin (go hwr' hex) (.inr ⟨k, rfl, hW⟩) h3 (htr.mono hex.ge) hvr
        · intro u hu; cases hu
        · intro f args hu; cases hu
      · refine op_step (P := P) hC hF htr ck.wr hfree (e0 h2) ?_ ?_ ?_
        · intro u hu g' w' v' hvr hwr' hex
          have : u = undef := by
            rcases hu with hu | ⟨_, hu⟩
            · cases hu
            · exact hu
          subst this
          exact fin (go hwr' hex) (.inr ⟨k, rfl, hW⟩) h3 (htr.mono hex.ge) hvr
        · intro u hu; cases hu
        · intro f args hu; cases hu
      · have hhk := (aop_call_h h2).1
        subst hhk
        refine op_step (P := P) hC hF htr ck.wr (fun i h5 h6 => by omega) (e0 h2) ?_ ?_ ?_
        · rintro u (hu | ⟨hu, _⟩) <;> cases hu
        · intro u hu; cases hu
        · intro f' args' hu
          cases hu
          refine ⟨.ret v, (st (k + 1)).h, h3, hfree, ?_, ?_⟩
          · intro u hu g' w' v' hvr hwr' hex
            cases hu
            exact fin (go hwr' hex) (.inr ⟨k, rfl, hW⟩) h4 (htr.mono hex.ge) hvr
          · intro u hu; cases hu
    | false =>
      have hnw : ¬ Wr ops n st k := by
        rintro ⟨_, o', ho', h, _⟩
        rw [hk] at ho'; cases ho'
        rw [hwr] at h; cases h
      -- no call
      have h1' : ∃ r v, aop C o (st k).t (st k).h = some (r, (st (k + 1)).h) ∧ (r = .val v ∨ (r = .skip ∧ v = undef)) ∧ (st (k + 1)).t = putT (st k).t o.dst v ∧
          (isReader o = true → (st (k + 1)).h.next = (st k).h.next) ∧ mt (k + 1) = Ev.note C o k (st k).t r (st (k + 1)).h (mt k) := by
        rcases h1 with ⟨v, h2, h3, h5, h4⟩ | ⟨h2, h3, h4⟩ | ⟨f, args, hh, v, h2, h3, _⟩
        · exact ⟨_, v, h2, .inl rfl, h3, h4, h5⟩
        · refine ⟨_, undef, h2, .inr ⟨rfl, rfl⟩, h3, ?_, h4⟩
          intro hr
          obtain ⟨v, hv⟩ := aop_reader_val hr h2
          cases hv
        · have := (aop_call_h h2).2
          rw [hwr] at this; cases this
      obtain ⟨r, v, h2, hrv, h3, hrn, hmt⟩ := h1'
      have hval : ∀ u, (r = .val u ∨ (r = .skip ∧ u = undef)) → u = v := by
        rintro u (hu | ⟨hu, hu'⟩) <;> rcases hrv with h | ⟨h, h'⟩
        · rw [h] at hu; cases hu; rfl
        · rw [h] at hu; cases hu
        · rw [h] at hu; cases hu
        · rw [hu', h']
      have hnp : ∀ u, r ≠ .panic u := by
        rintro u rfl
        rcases hrv with h | ⟨h, _⟩ <;> cases h
      have hnc : ∀ f args, r ≠ .call f args := by
        rintro f args rfl
        rcases hrv with h | ⟨h, _⟩ <;> cases h
      -- carried out at (st q).h, which it leaves
      have still : ¬ Mk ops n st k → aop C o T (st q).h = some (r, (st q).h) → o.wp P a w K Q := by
        intro hnm e
        refine op_step (P := P) hC hF htr c.wr (fun i h5 h6 => by omega) e ?_ ?_ ?_
        · intro u hu g' w' v' hvr hwr' hex
          have := hval u hu
          subst this
          exact fin (stay hnw hnm hwr' hex) hq h3 (htr.mono hex.ge) hvr
        · intro u hu; exact absurd hu (hnp u)
        · intro f args hu; exact absurd hu (hnc f args)
      cases hr : isReader o with
      | true =>
        have hnm : ¬ Mk ops n st k := by
          rintro ⟨_, o', ho', _, h, _⟩
          rw [hk] at ho'; cases ho'
          rw [hr] at h; cases h
        obtain ⟨u, hu⟩ := aop_reader_val hr h2
        have : u = v := hval u (.inl hu)
        subst this
        subst hu
        have hl : (k, aop C o (st k).t, u) ∈ (mt (k + 1)).loads := by
          rw [hmt]
          unfold Ev.note
          rw [hr]
          simp
        have hso := reader_at hc hsh hkn hkr hSk hr hl c.wq c.qn hq hdr
        obtain ⟨h', e1, e2⟩ := sameO_inv hso
        obtain ⟨e3, _⟩ := aop_reader hr e1 e2
        subst e3
        exact still hnm (by rw [hcong]; exact e1)
      | false =>
        cases hm : makes o with
        | false =>
          have hnm : ¬ Mk ops n st k := by
            rintro ⟨_, o', ho', h, _⟩
            rw [hk] at ho'; cases ho'
            rw [hm] at h; cases h
          obtain ⟨_, h4⟩ := aop_pure hr hwr hm h2
          exact still hnm (by rw [hcong]; exact h4 _)
        | true =>
          have hM : Mk ops n st k := ⟨hkn, o, hk, hm, hr, h0⟩
          have hqk : q ≤ k := by
            rcases Nat.lt_or_ge k q with h | h
            · exact absurd (c.mq k hM h) hSk
            · exact h
          have hnx := hc.next_le hF hqk (by omega)
          obtain ⟨b, hb1, hlim, hall⟩ := aop_maker hm hr h2
          have e := hall ⟨(st q).h.m, (st k).h.next⟩ rfl
          rw [← hcong] at e
          have hwk : WR g ⟨(st q).h.m, (st k).h.next⟩ w :=
            ⟨c.wr.live, c.wr.inj, fun i hi => c.wr.fresh i (Nat.le_trans hnx hi), Nat.le_of_lt hlim, c.wr.base, c.wr.low⟩
          have hgk : ∀ i, ((st q).h.m.set (some b) depthH (st k).h.next).get i = if i = (st k).h.next then some b else (st q).h.m.get i := fun i => get_set_at hlim i
          refine op_step (P := P) hC hF htr hwk ?_ e ?_ ?_ ?_
          · intro i h5 h6
            refine c.free k hkn hSk i h5 ?_
            rw [hb1]
            exact h6
          · intro u hu g' w' v' hvr hwr' hex
            have := hval u hu
            subst this
            refine fin (q' := q) ?_ hq h3 (htr.mono hex.ge) hvr
            refine c.step hc hF hkn hSk (K := ⟨(st q).h.m, (st k).h.next⟩) (fun _ => rfl) hwr' hex ?_ c.wr.fresh c.wr.lim (Nat.le_refl _) c.qn ?_ ?_ ?_ ?_
            · intro i B hi
              simp only
              rw [hgk, if_neg]
              · exact hi
              · intro he
                rw [c.wr.fresh i (by omega)] at hi; cases hi
            · intro i h5 h6
              rw [hb1]
              exact ⟨h5, h6⟩
            · intro i hi
              rw [← c.wq i hi]
              constructor
              · rintro (h | rfl)
                · exact h
                · exact absurd hi hnw
              · exact .inl
            · intro i hi hlt'
              exact .inl (c.mq i hi hlt')
            · intro _ b' hb'
              rw [hb1] at hb'
              simp only at hb'
              rw [get_set_at hlim, if_pos rfl] at hb'
              cases hb'
              obtain ⟨x, hx, hbr⟩ := hwr'.live (st k).h.next b (by simp only; rw [hgk, if_pos rfl])
              refine ⟨x, hx, hbr, ?_, ?_, hwr'.low (st k).h.next b x (by simp only; rw [hgk, if_pos rfl]) hx⟩
              · intro i B y hi hy he
                have hne : i ≠ (st k).h.next := by
                  intro he'
                  rw [c.wr.fresh i (by omega)] at hi; cases hi
                exact hne (hwr'.inj i (st k).h.next B b y x (by simp only; rw [hgk, if_neg hne]; exact hi) (by simp only; rw [hgk, if_pos rfl]) hy hx he)
              · rcases hex.img (st k).h.next b x (by simp only; rw [hgk, if_pos rfl]) hx with ⟨j, B, y, p1, p2, p3⟩ | p
                · exfalso
                  have hne : j ≠ (st k).h.next := by
                    intro he'
                    rw [c.wr.fresh j (by omega)] at p1; cases p1
                  exact hne (hwr'.inj j (st k).h.next B b y x (by simp only; rw [hgk, if_neg hne]; exact p1) (by simp only; rw [hgk, if_pos rfl]) (hex.ge _ _ p2) hx p3)
                · exact p
          · intro u hu; exact absurd hu (hnp u)
          · intro f args hu; exact absurd hu (hnc f args)

/-- nothing may come up: all have. -/
theorem all_listed (hg : Good ops) (hls : listed.size = ops.size) (hr : Region.ready .any ops listed = []) : ∀ (i : Nat), i < ops.size → In listed i := by
  intro i
  induction i using Nat.strongRecOn with
  | _ i ih =>
    intro hi
    have ho : ops[i]? = some ops[i] := by simp [hi]
    cases hl : listed.getD i false with
    | true => exact hl
    | false =>
      exfalso
      have : i ∈ Region.ready .any ops listed := by
        rw [mem_ready]
        have hlt : i < listed.size := by omega
        refine ⟨?_, _, ho, ?_⟩
        · simp [hlt] at hl ⊢; exact hl
        · intro e he hb
          have := hg.back i _ ho e he hb
          exact ih e.on this (by omega)
      rw [hr] at this
      cases this

theorem Inv.done (hF : FOk P F) (hc : Canon C F ops n st mt) (hN4 : N ≤ 4000) (hdst : ∀ (j : Nat) (o : Oper) d, ops[j]? = some o → o.dst = some d → d < N) (I : Inv ops n st N g0 w0 listed a w g q T) (hall : ∀ (i : Nat), i < n → In listed i) (hno : ∀ i o x, n ≤ i → ops[i]? = some o → o.dst = some x → False) :
    OutRel g0 (st 0).h w0 N .norm (st n) .normal a w := by
  obtain ⟨c, hq, ht, htr, hsz, hde⟩ := I
  have cn : Core ops n st (In listed) n g0 w0 g w := by
    have := c.catch hc (n - q) (by have := c.qn; omega) ?_
    · rwa [show q + (n - q) = n by have := c.qn; omega] at this
    · intro i h1 h2
      have hil : i < n := by omega
      refine ⟨?_, fun _ => hall i hil⟩
      intro hW
      have := (c.wq i hW).1 (hall i hil)
      omega
  refine ⟨g, hsz, hde, cn.wr, ⟨cn.ge, cn.new, cn.keep, cn.img, cn.size, hc.next_le hF (Nat.zero_le _) (Nat.le_refl _), cn.os, cn.out⟩, rfl, ?_⟩
  intro x
  have : getT (st n).t x = getT T x := by
    obtain ⟨h1, h2⟩ := ht x
    by_cases he : ∃ (i : Nat) (o' : Oper), ops[i]? = some o' ∧ o'.dst = some x
    · obtain ⟨i, o', ho', hd⟩ := he
      exact (h1 i o' ho' (hall i (by rcases Nat.lt_or_ge i n with h | h; exact h; exact (hno i o' x h ho' hd).elim)) hd).symm
    · have h3 := h2 fun i o' ho' _ hd => he ⟨i, o', ho', hd⟩
      rw [h3]
      exact hc.keepT' hN4 hdst x (Nat.zero_le _) (Nat.le_refl _) fun m o2 _ _ h4 h5 => he ⟨m, o2, h4, h5⟩
  rw [this]
  exact htr x

theorem not_in_none (n i : Nat) : ¬ In (Array.replicate n false) i := by
  intro h
  unfold In at h
  rw [Array.getD_eq_getD_getElem?, Array.getElem?_replicate] at h
  split at h <;> cases h

theorem Inv.any (hC : CtxOk C P) (hF : FOk P F) (hc : Canon C F ops n st mt) (hg : Good ops) (hN4 : N ≤ 4000) (hdst : ∀ (j : Nat) (o : Oper) d, ops[j]? = some o → o.dst = some d → d < N)
    (hdr : drawnOk ops (st 0).h (mt n) = true) (hn : n = ops.size) {Q : Exit → Act → World → Prop} (hQ : ∀ e a' w', OutRel g0 (st 0).h w0 N .norm (st n) e a' w' → Q e a' w') :
    ∀ (fuel : Nat) (listed : Array Bool) (a : Act) (w : World) (g : Gh) (q : Nat) (T : Tr Value) (l : List Nat), listed.size = ops.size → Shut ops listed →
      l.length ≤ fuel → (∀ i, i < ops.size → ¬ In listed i → i ∈ l) → Inv ops n st N g0 w0 listed a w g q T → wpAny P .any ops Q fuel listed a w
  | 0, listed, a, w, g, q, T, l, hls, hsh, hl, hu, I => by
    have hnil : l = [] := by cases l with | nil => rfl | cons x y => simp at hl
    subst hnil
    have hall : ∀ i, i < ops.size → In listed i := fun i hi => Classical.byContradiction fun h => by have := hu i hi h; cases this
    refine ⟨?_, hQ _ _ _ (I.done hF hc hN4 hdst (fun i hi => hall i (by omega)) (fun i o x h1 h2 _ => by have := (Array.getElem?_eq_some_iff.1 h2).1; omega))⟩
    cases hr : Region.ready .any ops listed with
    | nil => rfl
    | cons x y =>
      exfalso
      have hx : x ∈ Region.ready .any ops listed := by rw [hr]; simp
      obtain ⟨hkl, o, hk, _⟩ := mem_ready.1 hx
      have hlt : x < ops.size := (Array.getElem?_eq_some_iff.1 hk).1
      have h1 := hall x hlt
      have h2 : x < listed.size := by omega
      simp [In, h2] at h1 hkl
      rw [h1] at hkl; cases hkl
  | fuel + 1, listed, a, w, g, q, T, l, hls, hsh, hl, hu, I => by
    refine ⟨fun hr => hQ _ _ _ (I.done hF hc hN4 hdst (fun i hi => all_listed hg hls hr i (by omega)) (fun i o x h1 h2 _ => by have := (Array.getElem?_eq_some_iff.1 h2).1; omega)), ?_⟩
    intro k hk
    obtain ⟨hkl, o, hko, _⟩ := mem_ready.1 hk
    have hlt : k < ops.size := (Array.getElem?_eq_some_iff.1 hko).1
    refine I.op hC hF hc hg hN4 hdst hdr hls hsh (by omega) hk ?_
    intro a' w' g' q' T' I'
    have hSk : ¬ In listed k := by
      have : k < listed.size := by omega
      simp [In, this] at hkl ⊢
      exact hkl
    have hkm := hu k hlt hSk
    refine Inv.any hC hF hc hg hN4 hdst hdr hn hQ fuel (listed.setIfInBounds k true) a' w' g' q' T' (l.erase k) (by simpa using hls) (hsh.step hk) ?_ ?_ I'
    · rw [List.length_erase_of_mem hkm]; omega
    · intro i hi hni
      have hne : i ≠ k := by
        rintro rfl
        apply hni
        rw [in_set (by omega)]
        exact .inr rfl
      have hni' : ¬ In listed i := by
        intro h
        apply hni
        rw [in_set (by omega)]
        exact .inl h
      rw [List.mem_erase_of_ne hne]
      exact hu i hi hni'

/-- the call that panics. -/
theorem Inv.stop (hC : CtxOk C P) (hF : FOk P F) (hc : Canon C F ops n st mt) (hg : Good ops) (hN4 : N ≤ 4000) (hdst : ∀ (j : Nat) (o : Oper) d, ops[j]? = some o → o.dst = some d → d < N)
    (hls : listed.size = ops.size) (hsh : Shut ops listed) {x : Oper} {v : Value} {h' : Hp} (hx : ops[n]? = some x) (hst : StopsAt C F ops.toList x (st n) v h') (hfr0 : Fr g0 (st 0).h h')
    {Q : Exit → Act → World → Prop} (hQ : ∀ e a' w' s', s'.h = h' → OutRel g0 (st 0).h w0 N (.panic v) s' e a' w' → Q e a' w')
    (I : Inv ops n st N g0 w0 listed a w g q T) (hkr : n ∈ Region.ready .any ops listed) {K : Act → World → Prop} : wpOp P ops Q n K a w := by
  obtain ⟨c, hq, ht, htr, hsz, hde⟩ := I
  obtain ⟨hkl, o, hk, _⟩ := mem_ready.1 hkr
  rw [hx] at hk; cases hk
  have hlt : n < ops.size := (Array.getElem?_eq_some_iff.1 hx).1
  have hSk : ¬ In listed n := by
    have : n < listed.size := by omega
    simp [In, this] at hkl ⊢
    exact hkl
  have hb : ∀ i, Bit ops n i → In listed i := fun i h => hsh.ready hkr h
  have hs : ∀ i j, In listed i → Bit ops i j → In listed j := by
    intro i j hi hbit
    have hil : i < ops.size := by
      rcases Nat.lt_or_ge i ops.size with h | h
      · exact h
      · rw [In, Array.getD_eq_getD_getElem?, Array.getElem?_eq_none (by omega)] at hi; cases hi
    have ho : ops[i]? = some ops[i] := by simp [hil]
    exact hsh.before i j _ ho (fun e h1 h2 => hsh i _ ho hi e h1 h2) hbit
  have hlook : ∀ y ∈ x.looksAt ops, getT T y = getT (st n).t y := fun y hy => ht.looks hc hg hN4 hdst (Nat.le_refl _) hx hSk hb hs hy
  have hcong : ∀ h : Hp, aop C x T h = aop C x (st n).t h := fun h => aop_congr (opd_looks hlook)
  have hwant : Region.wanted x (yielded ops a.tmps) = wantedA ops.toList (st n).t x := by
    rw [wanted_eq htr (by rw [hsz]; exact hdst), wantedA_looks hlook]
  obtain ⟨h0, f, args, h1, ha, hf⟩ := hst
  obtain ⟨rfl, hwr⟩ := aop_call_h ha
  unfold wpOp
  simp only [hx]
  rw [hwant, h0]
  simp only [if_true]
  refine .inl ?_
  have ck : Core ops n st (In listed) n g0 w0 g w := by
    have := c.catch hc (n - q) (by have := c.qn; omega) ?_
    · rwa [show q + (n - q) = n by have := c.qn; omega] at this
    · intro i h2 h3
      refine ⟨?_, ?_⟩
      · rintro ⟨hi2, oi, hoi, hwi, hwi2⟩
        have := (c.wq i ⟨hi2, oi, hoi, hwi, hwi2⟩).1 (hb i (hg.ww i n oi x (by omega) hoi hx hwi hwr))
        omega
      · rintro ⟨_, oi, hoi, hmi, _⟩
        exact hb i (hg.mw i n oi x (by omega) hoi hx hmi hwr)
  have hnx : (st 0).h.next ≤ (st n).h.next := hc.next_le hF (Nat.zero_le _) (Nat.le_refl _)
  have hnx2 := (hF f args _ _ _ hf).1
  have hfr : Fr g (st n).h h' := by
    intro i h2 h3
    cases hgi : g i with
    | none => rfl
    | some y =>
      exfalso
      rcases ck.new i y hgi with h4 | ⟨_, h4⟩
      · rw [hfr0 i (by omega) h3] at h4; cases h4
      · omega
  have e0 : aop C x T (st n).h = some (.call f args, (st n).h) := by rw [hcong]; exact ha
  refine op_step (P := P) hC hF htr ck.wr (fun i h5 h6 => by omega) e0 ?_ ?_ ?_
  · rintro u (hu | ⟨hu, _⟩) <;> cases hu
  · intro u hu; cases hu
  · intro f' args' hu
    cases hu
    refine ⟨.panic v, h', hf, hfr, ?_, ?_⟩
    · intro u hu; cases hu
    · intro u hu g' w' v' hvr hwr' hex
      cases hu
      refine hQ _ _ _ ⟨(st n).t, h'⟩ rfl ⟨g', hsz, hde, hwr', ⟨ck.ge.trans hex.ge, ?_, ?_, ?_, Nat.le_trans ck.size hex.size, Nat.le_trans hnx hnx2, hex.os.trans ck.os, hex.out.trans ck.out⟩, v', hvr, rfl⟩
      · intro i y hi
        rcases hex.new i y hi with h2 | ⟨h2, h3⟩
        · rcases ck.new i y h2 with h4 | ⟨h4, h5⟩
          · exact .inl h4
          · refine .inr ⟨h4, ?_⟩
            show i < h'.next
            omega
        · exact .inr ⟨Nat.le_trans hnx h2, h3⟩
      · intro b hb' hno
        rw [← ck.keep b hb' hno]
        refine hex.keep b (Nat.lt_of_lt_of_le hb' ck.size) ?_
        intro i B y hi hy
        rcases ck.img i B y hi hy with ⟨j, B', z, p1, p2, p3⟩ | p
        · rw [← p3]; exact hno j B' z p1 p2
        · omega
      · intro i B y hi hy
        rcases hex.img i B y hi hy with ⟨j, B', z, p1, p2, p3⟩ | p
        · rw [← p3]; exact ck.img j B' z p1 p2
        · exact .inr (Nat.le_trans ck.size p)

theorem Inv.anyP (hC : CtxOk C P) (hF : FOk P F) (hc : Canon C F ops n st mt) (hg : Good ops) (hN4 : N ≤ 4000) (hdst : ∀ (j : Nat) (o : Oper) d, ops[j]? = some o → o.dst = some d → d < N)
    (hdr : drawnOk ops (st 0).h (mt n) = true) {x : Oper} {v : Value} {h' : Hp} (hx : ops[n]? = some x) (hst : StopsAt C F ops.toList x (st n) v h') (hfr0 : Fr g0 (st 0).h h')
    (haft : ∀ j, n < j → j < ops.size → Bit ops j n)
    {Q : Exit → Act → World → Prop} (hQ : ∀ e a' w' s', s'.h = h' → OutRel g0 (st 0).h w0 N (.panic v) s' e a' w' → Q e a' w') :
    ∀ (fuel : Nat) (listed : Array Bool) (a : Act) (w : World) (g : Gh) (q : Nat) (T : Tr Value) (l : List Nat), listed.size = ops.size → Shut ops listed → ¬ In listed n →
      l.length ≤ fuel → (∀ i, i < ops.size → ¬ In listed i → i ∈ l) → Inv ops n st N g0 w0 listed a w g q T → wpAny P .any ops Q fuel listed a w
  | 0, listed, a, w, g, q, T, l, hls, hsh, hnl, hl, hu, I => by
    exfalso
    have hnil : l = [] := by cases l with | nil => rfl | cons x y => simp at hl
    subst hnil
    have := hu n (Array.getElem?_eq_some_iff.1 hx).1 hnl
    cases this
  | fuel + 1, listed, a, w, g, q, T, l, hls, hsh, hnl, hl, hu, I => by
    refine ⟨fun hr => absurd (all_listed hg hls hr n (Array.getElem?_eq_some_iff.1 hx).1) hnl, ?_⟩
    intro k hk
    obtain ⟨hkl, o, hko, _⟩ := mem_ready.1 hk
    have hlt : k < ops.size := (Array.getElem?_eq_some_iff.1 hko).1
    rcases Nat.lt_trichotomy k n with hkn | hkn | hkn
    · refine I.op hC hF hc hg hN4 hdst hdr hls hsh hkn hk ?_
      intro a' w' g' q' T' I'
      have hSk : ¬ In listed k := by
        have : k < listed.size := by omega
        simp [In, this] at hkl ⊢
        exact hkl
      have hkm := hu k hlt hSk
      refine Inv.anyP hC hF hc hg hN4 hdst hdr hx hst hfr0 haft hQ fuel (listed.setIfInBounds k true) a' w' g' q' T' (l.erase k) (by simpa using hls) (hsh.step hk) ?_ ?_ ?_ I'
      · rw [in_set (by omega)]
        rintro (h | h)
        · exact hnl h
        · omega
      · rw [List.length_erase_of_mem hkm]; omega
      · intro i hi hni
        have hne : i ≠ k := by
          rintro rfl
          apply hni
          rw [in_set (by omega)]
          exact .inr rfl
        have hni' : ¬ In listed i := by
          intro h
          apply hni
          rw [in_set (by omega)]
          exact .inl h
        rw [List.mem_erase_of_ne hne]
        exact hu i hi hni'
    · subst hkn
      exact I.stop hC hF hc hg hN4 hdst hls hsh hx hst hfr0 hQ hk
    · exact absurd (hsh.ready hk (haft k hkn hlt)) hnl

end

theorem inv_start {P : Program} {C : Ctx} {F : CallF} (hF : FOk P F) {ops : Array Oper} {n : Nat} {st : Nat → St} {mt : Nat → Met} {N : Nat} (hc : Canon C F ops n st mt) {h' : Hp} (hle : (st n).h.next ≤ h'.next)
    {g : Gh} {w : World} {a : Act} (htr : TR g (st 0).t a.tmps) (hwr : WR g (st 0).h w) (hfr : Fr g (st 0).h h') (hsz : a.tmps.size = N) (hde : a.defers = []) :
    Inv ops n st N g w (Array.replicate ops.size false) a { w with drawn := w.drawn + 1 } g 0 (st 0).t := by
  have hno : ∀ i, ¬ In (Array.replicate ops.size false) i := fun i => not_in_none _ i
  refine ⟨⟨WR.of_same (w := w) rfl hwr, ?_, ?_, ?_, ?_, ?_, Nat.zero_le _, GExt.refl _, fun _ _ h => .inl h, fun _ _ _ => rfl, fun i B x hi hx => .inl ⟨i, B, x, hi, hx, rfl⟩, Nat.le_refl _, rfl, rfl⟩, .inl rfl, ?_, htr, hsz, hde⟩
  · intro j _ h; exact absurd h (hno j)
  · intro j _ _ _ _ h; exact absurd h (hno j)
  · intro i hi _ j h3 h4
    have h5 := hc.next_le hF (i := 0) (j := i) (by omega) (by omega)
    have h6 := hc.next_le hF (i := i + 1) (j := n) (by omega) (by omega)
    exact hfr j (by omega) (by omega)
  · intro i _
    exact ⟨fun h => absurd h (hno i), fun h => by omega⟩
  · intro i _ h; omega
  · intro x
    exact ⟨fun i _ _ h => absurd h (hno i), fun _ => rfl⟩

/-- drawn regions do what the evaluator says. -/
theorem drawnSound (C : Ctx) (P : Program) : DrawnSound C P := by
  intro F id ops N s o s' m hC hF hN4 hdst hdg hev hdr hstop g w a htr hwr hfr hsz hde
  obtain ⟨n, st, mt, hn, h0, h1, hstep, hend⟩ := evOps_trace _ _ _ _ hev rfl
  simp only [Array.length_toList] at hn
  have hg := good_of hdg
  have hc : Canon C F ops n st mt := by
    refine ⟨hn, ?_, h1⟩
    intro i x hi hx
    have := hstep i x hi (by simpa using hx)
    rwa [Nat.zero_add] at this
  have hshut : Shut ops (Array.replicate ops.size false) := fun j o ho hj => absurd hj (not_in_none _ _)
  subst h0
  rcases hend with ⟨rfl, h2, rfl, rfl, _⟩ | ⟨x, v, rfl, hx, hst, hm⟩
  · simp only [Array.length_toList] at h2
    exact Inv.any (g0 := g) (w0 := w) hC hF hc hg hN4 hdst hdr h2 (fun _ _ _ h => h) ops.size (Array.replicate ops.size false) a _ g 0 (st 0).t (List.range ops.size) (by simp) hshut (by simp)
      (fun i hi _ => List.mem_range.2 hi) (inv_start hF hc (Nat.le_refl _) htr hwr hfr hsz hde)
  · have hx' : ops[n]? = some x := by simpa using hx
    have hdr' : drawnOk ops (st 0).h (mt n) = true := by
      rw [hm] at hdr
      exact hdr
    rw [hm] at hstop
    simp only [stopOk, Bool.and_eq_true, List.all_eq_true, List.mem_range, Bool.or_eq_true, Nat.ble_eq, Nat.zero_add] at hstop
    have hle : (st n).h.next ≤ s'.h.next := by
      obtain ⟨_, f, args, h3, h4, h5⟩ := hst
      obtain ⟨rfl, _⟩ := aop_call_h h4
      exact (hF f args _ _ _ h5).1
    refine Inv.anyP (g0 := g) (w0 := w) hC hF hc hg hN4 hdst hdr' hx' hst hfr ?_ ?_ ops.size (Array.replicate ops.size false) a _ g 0 (st 0).t (List.range ops.size) (by simp) hshut (not_in_none _ _) (by simp)
      (fun i hi _ => List.mem_range.2 hi) (inv_start hF hc hle htr hwr hfr hsz hde)
    · intro j hj hjl
      rcases hstop.1 j hjl with h3 | h3
      · omega
      · exact h3
    · intro e a' w' s2 hs2 hr
      obtain ⟨g', r1, r2, r3, r4, r5⟩ := hr
      rw [hs2] at r3 r4
      exact ⟨g', r1, r2, r3, r4, r5⟩

end Ev
