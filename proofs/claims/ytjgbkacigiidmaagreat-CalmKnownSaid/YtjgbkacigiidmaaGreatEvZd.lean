import Derived.Test.YtjgbkacigiidmaaGreatEvZc
namespace Ev
open Go

section
variable {C : Ctx} {P : Program} {F : CallF} {ops : Array Oper} {st : Nat → St} {mt : Nat → Met}

/-- what the steps do to the heap. -/
theorem Canon.same (hc : Canon C F ops st mt) {i : Nat} (hi : i < ops.size) (hw : ¬ Wr ops st i) (hm : ¬ Mk ops st i) : (st (i + 1)).h = (st i).h := by
  have ho : ops[i]? = some ops[i] := by simp [hi]
  rcases hc.step i _ ho with ⟨h0, h1, _⟩ | ⟨h0, h1⟩
  · rw [h1]
  · have hw' : isWriter ops[i] = false := by
      cases h : isWriter ops[i] with
      | false => rfl
      | true => exact absurd ⟨_, ho, h, h0⟩ hw
    rcases h1 with ⟨v, h2, h3, _, h4⟩ | ⟨h2, h3, _⟩ | ⟨f, args, h1, v, h2, _⟩
    · cases hr : isReader ops[i] with
      | true => exact (aop_reader hr h2 (h4 hr)).1
      | false =>
        have hm' : makes ops[i] = false := by
          cases h : makes ops[i] with
          | false => rfl
          | true => exact absurd ⟨_, ho, h, hr, h0⟩ hm
        exact (aop_pure hr hw' hm' h2).1
    · cases hr : isReader ops[i] with
      | true => obtain ⟨v, hv⟩ := aop_reader_val hr h2; cases hv
      | false =>
        have hm' : makes ops[i] = false := by
          cases h : makes ops[i] with
          | false => rfl
          | true => exact absurd ⟨_, ho, h, hr, h0⟩ hm
        exact (aop_pure hr hw' hm' h2).1
    · rw [(aop_call_h h2).2] at hw'; cases hw'

theorem Canon.make (hc : Canon C F ops st mt) {i : Nat} (hm : Mk ops st i) :
    ∃ b, (st (i + 1)).h = ⟨(st i).h.m.set (some b) depthH (st i).h.next, (st i).h.next + 1⟩ ∧ (st i).h.next < limH := by
  obtain ⟨o, ho, h1, h2, h3⟩ := hm
  rcases hc.step i _ ho with ⟨h0, _⟩ | ⟨_, h4⟩
  · rw [h3] at h0; cases h0
  · rcases h4 with ⟨v, h5, _⟩ | ⟨h5, _⟩ | ⟨f, args, hh, v, h5, _⟩
    · obtain ⟨b, q1, q2, _⟩ := aop_maker h1 h2 h5; exact ⟨b, q1, q2⟩
    · obtain ⟨b, q1, q2, _⟩ := aop_maker h1 h2 h5; exact ⟨b, q1, q2⟩
    · have := (aop_call_h h5).2
      rw [maker_not_writer h1] at this; cases this

theorem Canon.next (hc : Canon C F ops st mt) (hF : FOk P F) {i : Nat} (hi : i < ops.size) : (st i).h.next ≤ (st (i + 1)).h.next := by
  have ho : ops[i]? = some ops[i] := by simp [hi]
  rcases hc.step i _ ho with ⟨h0, h1, _⟩ | ⟨h0, h1⟩
  · rw [h1]; exact Nat.le_refl _
  · rcases h1 with ⟨v, h2, h3, _, h4⟩ | ⟨h2, h3, _⟩ | ⟨f, args, h1, v, h2, h3, _⟩
    · exact aop_next h2
    · exact aop_next h2
    · exact Nat.le_trans (aop_next h2) (hF f args h1 _ _ h3).1

theorem Canon.next_le (hc : Canon C F ops st mt) (hF : FOk P F) {i : Nat} : ∀ {j : Nat}, i ≤ j → j ≤ ops.size → (st i).h.next ≤ (st j).h.next
  | 0, h, _ => by have : i = 0 := by omega
                  subst this; exact Nat.le_refl _
  | j + 1, h, hj => by
    by_cases e : i = j + 1
    · subst e; exact Nat.le_refl _
    · exact Nat.le_trans (hc.next_le hF (j := j) (by omega) (by omega)) (hc.next hF (by omega))

theorem Wr.lt {i : Nat} (h : Wr ops st i) : i < ops.size := by
  obtain ⟨o, ho, _⟩ := h
  exact (Array.getElem?_eq_some_iff.1 ho).1
theorem Mk.lt {i : Nat} (h : Mk ops st i) : i < ops.size := by
  obtain ⟨o, ho, _⟩ := h
  exact (Array.getElem?_eq_some_iff.1 ho).1
theorem Wr.not_mk {i : Nat} (h : Wr ops st i) : ¬ Mk ops st i := by
  obtain ⟨o, ho, h1, _⟩ := h
  rintro ⟨o', ho', h2, _⟩
  rw [ho] at ho'; cases ho'
  rw [maker_not_writer h2] at h1; cases h1

theorem get_set_at {m : Tr Blk} {b : Blk} {i : Nat} (hi : i < limH) (j : Nat) : (m.set (some b) depthH i).get j = if j = i then some b else m.get j := by
  have : limH + 1 < 2 ^ depthH := by decide
  exact Tr.get_set _ _ _ _ _ (by omega)

/-- the world behind the operations of S, of which the last writer was that ahead of q. -/
structure Core (ops : Array Oper) (st : Nat → St) (S : Nat → Prop) (q : Nat) (g0 : Gh) (w0 : World) (g : Gh) (w : World) : Prop where
  wr : WR g (st q).h w
  pend : ∀ j, q ≤ j → S j → Mk ops st j → ∀ b, (st (j + 1)).h.m.get (st j).h.next = some b → ∃ x, g (st j).h.next = some x ∧ BR g b x w ∧
    (∀ i B y, (st q).h.m.get i = some B → g i = some y → y.b ≠ x.b) ∧ w0.heap.size ≤ x.b
  pinj : ∀ j j', q ≤ j → q ≤ j' → j ≠ j' → S j → S j' → Mk ops st j → Mk ops st j' → ∀ x x', g (st j).h.next = some x → g (st j').h.next = some x' → x.b ≠ x'.b
  free : ∀ i, i < ops.size → ¬ S i → Fr g (st i).h (st (i + 1)).h
  wq : ∀ i, Wr ops st i → (S i ↔ i < q)
  mq : ∀ i, Mk ops st i → i < q → S i
  qn : q ≤ ops.size
  ge : GExt g0 g
  new : ∀ i x, g i = some x → g0 i = some x ∨ ((st 0).h.next ≤ i ∧ i < (st ops.size).h.next)
  keep : ∀ b, b < w0.heap.size → (∀ i B x, (st 0).h.m.get i = some B → g0 i = some x → x.b ≠ b) → w.heap[b]? = w0.heap[b]?
  img : ∀ i B x, (st q).h.m.get i = some B → g i = some x → (∃ j B' y, (st 0).h.m.get j = some B' ∧ g0 j = some y ∧ y.b = x.b) ∨ w0.heap.size ≤ x.b
  size : w0.heap.size ≤ w.heap.size
  os : w.os = w0.os
  out : w.output = w0.output

variable {S : Nat → Prop} {q : Nat} {g0 g : Gh} {w0 w : World}

theorem Core.advance (hc : Canon C F ops st mt) (c : Core ops st S q g0 w0 g w) (hq : q < ops.size) (hw : ¬ Wr ops st q) (hm : Mk ops st q → S q) : Core ops st S (q + 1) g0 w0 g w := by
  have wq' : ∀ i, Wr ops st i → (S i ↔ i < q + 1) := by
    intro i hi
    rw [c.wq i hi]
    have : i ≠ q := fun e => hw (e ▸ hi)
    omega
  have mq' : ∀ i, Mk ops st i → i < q + 1 → S i := by
    intro i hi hlt
    by_cases e : i = q
    · subst e; exact hm hi
    · exact c.mq i hi (by omega)
  by_cases hmk : Mk ops st q
  · obtain ⟨b, hb, hlim⟩ := hc.make hmk
    have hS := hm hmk
    have hget : ∀ i, (st (q + 1)).h.m.get i = if i = (st q).h.next then some b else (st q).h.m.get i := fun i => by
      rw [hb]; exact get_set_at hlim i
    obtain ⟨x, hx, hbr, hap, hsz⟩ := c.pend q (Nat.le_refl _) hS hmk b (by rw [hget]; simp)
    refine ⟨⟨?_, ?_, ?_, ?_⟩, ?_, ?_, c.free, wq', mq', hq, c.ge, c.new, c.keep, ?_, c.size, c.os, c.out⟩
    · intro i B hi
      rw [hget] at hi
      by_cases e : i = (st q).h.next
      · rw [if_pos e] at hi; cases hi; subst e; exact ⟨x, hx, hbr⟩
      · rw [if_neg e] at hi; exact c.wr.live i B hi
    · intro i j B B' y y' hi hj hy hy' he
      rw [hget] at hi hj
      by_cases e : i = (st q).h.next
      · by_cases e' : j = (st q).h.next
        · rw [e, e']
        · rw [if_neg e'] at hj
          subst e
          rw [hx] at hy; cases hy
          exact absurd he.symm (hap j B' y' hj hy')
      · rw [if_neg e] at hi
        by_cases e' : j = (st q).h.next
        · subst e'
          rw [hx] at hy'; cases hy'
          exact absurd he (hap i B y hi hy)
        · rw [if_neg e'] at hj
          exact c.wr.inj i j B B' y y' hi hj hy hy' he
    · intro i hi
      rw [hget]
      rw [hb] at hi
      simp only at hi
      rw [if_neg (by omega)]
      exact c.wr.fresh i (by omega)
    · rw [hb]; simp only; omega
    · intro j hj hSj hMj b' hb'
      obtain ⟨x', hx', hbr', hap', hsz'⟩ := c.pend j (by omega) hSj hMj b' hb'
      refine ⟨x', hx', hbr', ?_, hsz'⟩
      intro i B y hi hy
      rw [hget] at hi
      by_cases e : i = (st q).h.next
      · subst e
        exact c.pinj q j (Nat.le_refl _) (by omega) (by omega) hS hSj hmk hMj y x' hy hx'
      · rw [if_neg e] at hi
        exact hap' i B y hi hy
    · intro j j' hj hj' hne
      exact c.pinj j j' (by omega) (by omega) hne
    · intro i B y hi hy
      rw [hget] at hi
      by_cases e : i = (st q).h.next
      · subst e
        rw [hx] at hy; cases hy
        exact .inr hsz
      · rw [if_neg e] at hi
        exact c.img i B y hi hy
  · have hh := hc.same hq hw hmk
    refine ⟨by rw [hh]; exact c.wr, ?_, ?_, c.free, wq', mq', hq, c.ge, c.new, c.keep, by rw [hh]; exact c.img, c.size, c.os, c.out⟩
    · intro j hj; rw [hh]; exact c.pend j (by omega)
    · intro j j' hj hj' hne; exact c.pinj j j' (by omega) (by omega) hne

theorem Core.catch (hc : Canon C F ops st mt) (c : Core ops st S q g0 w0 g w) : ∀ (d : Nat), q + d ≤ ops.size → (∀ i, q ≤ i → i < q + d → ¬ Wr ops st i ∧ (Mk ops st i → S i)) → Core ops st S (q + d) g0 w0 g w
  | 0, _, _ => c
  | d + 1, hd, h => by
    have hd' : q + d + 1 ≤ ops.size := hd
    have := Core.catch hc c d (by omega) (fun i h1 h2 => h i h1 (by omega))
    show Core ops st S (q + d + 1) g0 w0 g w
    exact this.advance hc (by omega) (h (q + d) (by omega) (by omega)).1 (h (q + d) (by omega) (by omega)).2

/-- an operation carried out at the heap K. -/
theorem Core.step (hc : Canon C F ops st mt) (hF : FOk P F) (c : Core ops st S q g0 w0 g w) {k q' : Nat} (hk : k < ops.size) (hSk : ¬ S k) {K K' : Hp} {g' : Gh} {w' : World}
    (hK : ∀ i, K.m.get i = (st q).h.m.get i) (hwr : WR g' K' w') (hx : Ext g K w g' K' w')
    (hq' : ∀ i B, (st q').h.m.get i = some B → K'.m.get i = some B) (hfr : ∀ i, (st q').h.next ≤ i → (st q').h.m.get i = none) (hlim : (st q').h.next ≤ limH)
    (hqq : q ≤ q') (hqn : q' ≤ ops.size)
    (hn : ∀ i, K.next ≤ i → i < K'.next → (st k).h.next ≤ i ∧ i < (st (k + 1)).h.next)
    (wq' : ∀ i, Wr ops st i → (S i ∨ i = k ↔ i < q')) (mq' : ∀ i, Mk ops st i → i < q' → S i ∨ i = k)
    (hpk : Mk ops st k → ∀ b, (st (k + 1)).h.m.get (st k).h.next = some b → ∃ x, g' (st k).h.next = some x ∧ BR g' b x w' ∧
      (∀ i B y, (st q').h.m.get i = some B → g' i = some y → y.b ≠ x.b) ∧ w.heap.size ≤ x.b) :
    Core ops st (fun i => S i ∨ i = k) q' g0 w0 g' w' := by
  have hg := hx.ge
  have old : ∀ j, q' ≤ j → S j → Mk ops st j → ∀ b, (st (j + 1)).h.m.get (st j).h.next = some b → ∃ x, g (st j).h.next = some x ∧ x.b < w.heap.size ∧ BR g' b x w' ∧
      (∀ i B y, (st q').h.m.get i = some B → g' i = some y → y.b ≠ x.b) ∧ w0.heap.size ≤ x.b := by
    intro j hj hSj hMj b hb
    obtain ⟨x, h1, h2, h3, h4⟩ := c.pend j (by omega) hSj hMj b hb
    refine ⟨x, h1, h2.lt, (h2.mono hg).of_blk (hx.keep x.b h2.lt ?_), ?_, h4⟩
    · intro i B y hi hy
      rw [hK] at hi
      exact h3 i B y hi hy
    · intro i B y hi hy
      rcases hx.img i B y (hq' i B hi) hy with ⟨j', B', z, p1, p2, p3⟩ | p
      · rw [hK] at p1
        rw [← p3]
        exact h3 j' B' z p1 p2
      · have := h2.lt; omega
  have hblk : ∀ j, Mk ops st j → ∃ b, (st (j + 1)).h.m.get (st j).h.next = some b := by
    intro j hj
    obtain ⟨b, hb, hl⟩ := hc.make hj
    exact ⟨b, by rw [hb]; simp only; rw [get_set_at hl]; simp⟩
  refine ⟨⟨?_, ?_, hfr, hlim⟩, ?_, ?_, ?_, wq', mq', hqn, c.ge.trans hg, ?_, ?_, ?_, Nat.le_trans c.size hx.size, hx.os.trans c.os, hx.out.trans c.out⟩
  · intro i B hi
    exact hwr.live i B (hq' i B hi)
  · intro i j B B' y y' hi hj
    exact hwr.inj i j B B' y y' (hq' i B hi) (hq' j B' hj)
  · rintro j hj (hSj | rfl) hMj b hb
    · obtain ⟨x, h1, _, h2, h3, h4⟩ := old j hj hSj hMj b hb
      exact ⟨x, hg _ _ h1, h2, h3, h4⟩
    · obtain ⟨x, h1, h2, h3, h4⟩ := hpk hMj b hb
      exact ⟨x, h1, h2, h3, Nat.le_trans c.size h4⟩
  · have half : ∀ j, q' ≤ j → S j → Mk ops st j → Mk ops st k → ∀ x x', g' (st j).h.next = some x → g' (st k).h.next = some x' → x.b ≠ x'.b := by
      intro j hj hSj hMj hMk x x' hxj hxk
      obtain ⟨b, hb⟩ := hblk j hMj
      obtain ⟨b', hb'⟩ := hblk k hMk
      obtain ⟨y, h1, h2, _⟩ := old j hj hSj hMj b hb
      obtain ⟨y', h1', h2', h3', h4'⟩ := hpk hMk b' hb'
      rw [hg _ _ h1] at hxj; cases hxj
      rw [h1'] at hxk; cases hxk
      omega
    rintro j j' hj hj' hne (hSj | rfl) (hSj' | rfl) hMj hMj' x x' hxj hxj'
    · obtain ⟨b, hb⟩ := hblk j hMj
      obtain ⟨b', hb'⟩ := hblk j' hMj'
      obtain ⟨y, h1, _⟩ := old j hj hSj hMj b hb
      obtain ⟨y', h1', _⟩ := old j' hj' hSj' hMj' b' hb'
      rw [hg _ _ h1] at hxj; cases hxj
      rw [hg _ _ h1'] at hxj'; cases hxj'
      exact c.pinj j j' (by omega) (by omega) hne hSj hSj' hMj hMj' _ _ h1 h1'
    · exact half j hj hSj hMj hMj' x x' hxj hxj'
    · exact fun e => half j' hj' hSj' hMj' hMj x' x hxj' hxj e.symm
    · exact absurd rfl hne
  · intro i hi hSi j h1 h2
    have hSi' : ¬ S i := fun h => hSi (.inl h)
    have hik : i ≠ k := fun h => hSi (.inr h)
    have h0 := c.free i hi hSi' j h1 h2
    cases hgj : g' j with
    | none => rfl
    | some y =>
      exfalso
      rcases hx.new j y hgj with h | ⟨h3, h4⟩
      · rw [h0] at h; cases h
      · have := hn j h3 h4
        rcases Nat.lt_or_ge i k with hlt | hge
        · have := hc.next_le hF (i := i + 1) (j := k) (by omega) (by omega); omega
        · have := hc.next_le hF (i := k + 1) (j := i) (by omega) (by omega); omega
  · intro i x hi
    rcases hx.new i x hi with h | ⟨h3, h4⟩
    · exact c.new i x h
    · have := hn i h3 h4
      have h5 := hc.next_le hF (i := 0) (j := k) (by omega) (by omega)
      have h6 := hc.next_le hF (i := k + 1) (j := ops.size) (by omega) (by omega)
      exact .inr ⟨by omega, by omega⟩
  · intro b hb hno
    rw [← c.keep b hb hno]
    refine hx.keep b (Nat.lt_of_lt_of_le hb c.size) ?_
    intro i B x hi hxx
    rw [hK] at hi
    rcases c.img i B x hi hxx with ⟨j, B', y, h1, h2, h3⟩ | h
    · rw [← h3]; exact hno j B' y h1 h2
    · omega
  · intro i B x hi hxx
    rcases hx.img i B x (hq' i B hi) hxx with ⟨j', B', z, p1, p2, p3⟩ | p
    · rw [hK] at p1
      rw [← p3]
      exact c.img j' B' z p1 p2
    · exact .inr (Nat.le_trans c.size p)

end
end Ev
