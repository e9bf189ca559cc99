import Derived.Test.YtjgbkacigiidmaaGreatEvC
namespace Ev
open Go

theorem isCell_one {v : Value} (h : isCell v = true) : v.oneCell' = true := by cases v <;> first | rfl | (simp [isCell] at h)

theorem VR.isCell_iff {g : Gh} {v v' : Value} (r : VR g v v') : isCell v' = isCell v := by cases r <;> rfl

structure Wrote (w w' : World) (b off : Nat) (vs : List Value) (c c' : Array Value) (el : TypeId) (fr : Nat × Nat) : Prop where
  blk : w'.heap[b]? = some (.cells c' el fr)
  csz : c'.size = c.size
  get : ∀ k, c'[k]? = if off ≤ k ∧ k < off + vs.length then vs[k - off]? else c[k]?
  other : ∀ k, k ≠ b → w'.heap[k]? = w.heap[k]?
  size : w'.heap.size = w.heap.size
  os : w'.os = w.os
  out : w'.output = w.output

theorem heap_setCell {w : World} {b off : Nat} {c : Array Value} {el : TypeId} {fr : Nat × Nat} (v : Value) (h : w.heap[b]? = some (.cells c el fr)) :
    (w.setCell ⟨b, off, none⟩ v).heap[b]? = some (.cells (c.setIfInBounds off v) el fr) := by
  obtain ⟨lo, hi⟩ := fr
  simp [World.setCell, Array.getElem?_modify, h]

theorem heap_setCell_ne {w : World} {b off : Nat} (v : Value) (k : Nat) (hk : k ≠ b) :
    (w.setCell ⟨b, off, none⟩ v).heap[k]? = w.heap[k]? := by
  simp [World.setCell, Array.getElem?_modify, Ne.symm hk]

theorem run_storeCells_block {P : Program} {b off : Nat} {el : TypeId} {fr : Nat × Nat} : ∀ (vs : List Value) (i : Nat) (w : World) (c : Array Value),
    w.heap[b]? = some (.cells c el fr) → (vs ≠ [] → off + i + vs.length ≤ c.size) → (∀ k, k < c.size → ¬ (fr.1 ≤ k ∧ k < fr.2)) → (∀ v ∈ vs, v.oneCell' = true) →
    ∃ w' c', (storeCells ⟨b, off, none⟩ vs i).run P w = .ok () w' ∧ Wrote w w' b (off + i) vs c c' el fr
  | [], i, w, c, h, _, _, _ => ⟨w, c, by simp [storeCells], ⟨h, rfl, fun k => by rw [if_neg (by simp only [List.length_nil]; omega)], fun _ _ => rfl, rfl, rfl, rfl⟩⟩
  | v :: vs, i, w, c, h, hle, hfr, hone => by
    have hle := hle (by simp)
    simp at hle
    have hlt : off + i < c.size := by omega
    have hc : w.cell? ⟨b, off + i, none⟩ = some c[off + i] := by rw [cell_of_heap h]; simp [hlt]
    have hf := frozen_of_heap h (hfr _ hlt)
    obtain ⟨w', c', hrun, hw⟩ := run_storeCells_block (P := P) (off := off) vs (i + 1) (w.setCell ⟨b, off + i, none⟩ v) (c.setIfInBounds (off + i) v) (heap_setCell v h)
      (by intro _; simp; omega) (by simpa using hfr) (fun u hu => hone u (by simp [hu]))
    refine ⟨w', c', ?_, ?_⟩
    · simp only [storeCells, Sem.run_bind, add_off, run_store P w _ v .plain (hone v (by simp)), hc, hf]
      simpa using hrun
    · refine ⟨hw.blk, by rw [hw.csz]; simp, ?_, ?_, ?_, ?_, ?_⟩
      · intro k
        rw [hw.get]
        by_cases h1 : off + (i + 1) ≤ k ∧ k < off + (i + 1) + vs.length
        · rw [if_pos h1, if_pos (by simp; omega)]
          rw [show k - (off + i) = (k - (off + (i + 1))) + 1 by omega]
          simp
        · rw [if_neg h1]
          by_cases h2 : k = off + i
          · subst h2
            rw [if_pos (by simp)]
            simp [hlt]
          · rw [if_neg (by simp; omega)]
            simp [Array.getElem?_setIfInBounds_ne (Ne.symm h2)]
      · intro k hk
        rw [hw.other k hk, heap_setCell_ne v k hk]
      · rw [hw.size]; simp
      · rw [hw.os]; rfl
      · rw [hw.out]; rfl

theorem paste_spec : ∀ (l : List Value) (off : Nat) (vs r : List Value), paste l off vs = some r →
    r.length = l.length ∧ (vs ≠ [] → off + vs.length ≤ l.length) ∧ (∀ v ∈ vs, isCell v = true) ∧
    ∀ k, r[k]? = if off ≤ k ∧ k < off + vs.length then vs[k - off]? else l[k]?
  | l, off, [], r, h => by
    simp [paste] at h; subst h
    exact ⟨rfl, by simp, by simp, fun k => by rw [if_neg (by simp only [List.length_nil]; omega)]⟩
  | [], off, v :: vs, r, h => by simp [paste] at h
  | x :: l, 0, v :: vs, r, h => by
    simp only [paste] at h
    cases hv : isCell v with
    | false => rw [hv] at h; simp at h
    | true =>
      rw [hv] at h
      simp only [cond_true, Option.map_eq_some_iff] at h
      obtain ⟨r', h', rfl⟩ := h
      obtain ⟨e1, e2, e3, e4⟩ := paste_spec l 0 vs r' h'
      refine ⟨by simp [e1], ?_, ?_, ?_⟩
      · intro _
        by_cases hvs : vs = []
        · subst hvs; simp
        · have := e2 hvs; simp at this ⊢; omega
      · intro u hu; rcases List.mem_cons.1 hu with rfl | hu
        · exact hv
        · exact e3 u hu
      · intro k
        cases k with
        | zero => simp
        | succ k =>
          have := e4 k
          simp at this ⊢
          exact this
  | x :: l, off + 1, v :: vs, r, h => by
    simp only [paste, Option.map_eq_some_iff] at h
    obtain ⟨r', h', rfl⟩ := h
    obtain ⟨e1, e2, e3, e4⟩ := paste_spec l off (v :: vs) r' h'
    refine ⟨by simp [e1], ?_, e3, ?_⟩
    · intro hvs; have := e2 hvs; simp at this ⊢; omega
    · intro k
      cases k with
      | zero => simp
      | succ k =>
        have := e4 k
        simp only [List.getElem?_cons_succ]
        rw [this]
        by_cases hk : off ≤ k ∧ k < off + (v :: vs).length
        · rw [if_pos hk, if_pos (by omega), show k + 1 - (off + 1) = k - off by omega]
        · rw [if_neg hk, if_neg (by omega)]

theorem getH_set {h : Hp} {i : Nat} (x : Option Blk) (hi : i < limH) (j : Nat) :
    (Tr.set x depthH h.m i).get j = if j = i then x else h.m.get j := by
  refine Tr.get_set x depthH h.m i j ?_
  have : (2 : Nat) ^ depthH = 17592186044416 := by decide
  have h2 : limH = 1099511627776 := by decide
  omega

/-- the abstract heap with block i anew, the concrete one with its block anew. -/
theorem WR.wrote {g : Gh} {h : Hp} {w w' : World} {i off : Nat} {B : Blk} {x : GB} {c c' : Array Value} {el : TypeId} {fr : Nat × Nat} {vs vs' l : List Value}
    (r : WR g h w) (hi : h.m.get i = some B) (hx : g i = some x) (hc : w.heap[x.b]? = some (.cells c el fr))
    (hp : paste B.cells off vs = some l) (hv : VRL g vs vs') (hw : Wrote w w' x.b off vs' c c' el fr) :
    WR g ⟨Tr.set (some { B with cells := l }) depthH h.m i, h.next⟩ w' ∧ Ext g h w g ⟨Tr.set (some { B with cells := l }) depthH h.m i, h.next⟩ w' := by
  have hil : i < limH := by
    rcases Nat.lt_or_ge i h.next with h' | h'
    · exact Nat.lt_of_lt_of_le h' r.lim
    · rw [r.fresh i h'] at hi; cases hi
  obtain ⟨e1, e2, e3, e4⟩ := paste_spec _ _ _ _ hp
  have hlen := hv.length
  obtain ⟨x0, hx0, bx⟩ := r.live i B hi
  rw [hx] at hx0; cases hx0
  obtain ⟨c0, el0, fr0, f1, f2, f3, f4⟩ := bx.ex
  rw [hc] at f1; cases f1
  have getS : ∀ j B', (Tr.set (some { B with cells := l }) depthH h.m i).get j = some B' → (j = i ∧ B' = { B with cells := l }) ∨ (j ≠ i ∧ h.m.get j = some B') := by
    intro j B' hj
    rw [getH_set _ hil] at hj
    by_cases e : j = i
    · rw [if_pos e] at hj; cases hj; exact .inl ⟨e, rfl⟩
    · rw [if_neg e] at hj; exact .inr ⟨e, hj⟩
  refine ⟨⟨?_, ?_, ?_, r.lim⟩, ⟨GExt.refl g, fun _ _ h => .inl h, ?_, ?_, by rw [hw.size]; exact Nat.le_refl _, Nat.le_refl _, hw.os, hw.out⟩⟩
  · intro j B' hj
    rcases getS j B' hj with ⟨rfl, rfl⟩ | ⟨hne, hj'⟩
    · refine ⟨x, hx, ⟨⟨c', el, fr, hw.blk, by rw [hw.csz, f2], f3, ?_⟩, by simp [e1, bx.len], bx.sz, bx.gr, bx.le⟩⟩
      intro k v hk
      simp only at hk
      rw [e4] at hk
      rw [hw.get]
      by_cases hin : off ≤ k ∧ k < off + vs.length
      · rw [if_pos hin] at hk
        rw [if_pos (by omega)]
        exact hv.get hk
      · rw [if_neg hin] at hk
        rw [if_neg (by omega)]
        exact f4 k v hk
    · obtain ⟨y, hy, by'⟩ := r.live j B' hj'
      refine ⟨y, hy, ⟨?_, by'.len, by'.sz, by'.gr, by'.le⟩⟩
      have hne' : y.b ≠ x.b := fun e => hne (r.inj j i B' B y x hj' hi hy hx e)
      rw [hw.other y.b hne']
      exact by'.ex
  · intro j k B' B'' y z hj hk hy hz e
    rcases getS j B' hj with ⟨rfl, rfl⟩ | ⟨hne, hj'⟩ <;> rcases getS k B'' hk with ⟨rfl, rfl⟩ | ⟨hne', hk'⟩
    · rfl
    · exact r.inj _ _ _ _ _ _ hi hk' hy hz e
    · exact r.inj _ _ _ _ _ _ hj' hi hy hz e
    · exact r.inj _ _ _ _ _ _ hj' hk' hy hz e
  · intro j hj
    simp only at hj ⊢
    rw [getH_set _ hil, if_neg (by rintro rfl; rw [r.fresh _ hj] at hi; cases hi)]
    exact r.fresh j hj
  · intro b hb hn
    exact hw.other b (fun e => hn i B x hi hx e.symm)
  · intro j B' y hj hy
    rcases getS j B' hj with ⟨rfl, rfl⟩ | ⟨hne, hj'⟩
    · exact .inl ⟨_, B, x, hi, hx, by rw [hx] at hy; cases hy; rfl⟩
    · exact .inl ⟨j, B', y, hj', hy, rfl⟩

/-- a new block. -/
theorem WR.alloc {g : Gh} {h h' : Hp} {w w' : World} {i : Nat} {l : List Value} {sz csz : Nat} {gr : Bool} {c : Array Value} {el : TypeId} {fr : Nat × Nat}
    (r : WR g h w) (hn : newB h ⟨l, sz, gr⟩ = some (i, h')) (hg : g i = none)
    (hw : w'.heap = w.heap.push (.cells c el fr)) (hfr : ∀ k, k < csz → ¬ (fr.1 ≤ k ∧ k < fr.2)) (hos : w'.os = w.os) (hout : w'.output = w.output) (hcs : c.size = csz) (hle : l.length ≤ csz)
    (hv : ∀ (k : Nat) v, l[k]? = some v → ∃ v', c[k]? = some v' ∧ VR g v v') :
    ∃ g', WR g' h' w' ∧ Ext g h w g' h' w' ∧ g' i = some ⟨w.heap.size, csz, l.length, sz, gr⟩ ∧ (∀ j, j ≠ i → g' j = g j) := by
  unfold newB at hn
  cases hb : Nat.blt h.next limH with
  | false => rw [hb] at hn; simp at hn
  | true =>
  rw [hb] at hn
  simp only [cond_true, Option.some.injEq, Prod.mk.injEq] at hn
  obtain ⟨rfl, rfl⟩ := hn
  have hlim : h.next < limH := by simpa [Nat.blt_eq] using hb
  let X : GB := ⟨w.heap.size, csz, l.length, sz, gr⟩
  let g' : Gh := fun j => if j = h.next then some X else g j
  have hge : GExt g g' := fun j y hj => by
    have : j ≠ h.next := by rintro rfl; rw [hg] at hj; cases hj
    simp [g', this, hj]
  have getS : ∀ j B', (Tr.set (some ⟨l, sz, gr⟩) depthH h.m h.next).get j = some B' → (j = h.next ∧ B' = ⟨l, sz, gr⟩) ∨ (j ≠ h.next ∧ h.m.get j = some B') := by
    intro j B' hj
    rw [getH_set _ hlim] at hj
    by_cases e : j = h.next
    · rw [if_pos e] at hj; cases hj; exact .inl ⟨e, rfl⟩
    · rw [if_neg e] at hj; exact .inr ⟨e, hj⟩
  have hold : ∀ k, k < w.heap.size → w'.heap[k]? = w.heap[k]? := fun k hk => by
    rw [hw, Array.getElem?_push, if_neg (by omega)]
  have hnew : w'.heap[w.heap.size]? = some (.cells c el fr) := by rw [hw]; simp
  refine ⟨g', ⟨?_, ?_, ?_, ?_⟩, ⟨hge, ?_, ?_, ?_, ?_, ?_, hos, hout⟩, by simp [g', X], fun j hj => by simp [g', hj]⟩
  · intro j B' hj
    rcases getS j B' hj with ⟨rfl, rfl⟩ | ⟨hne, hj'⟩
    · refine ⟨X, by simp [g'], ⟨⟨c, el, fr, hnew, hcs, hfr, ?_⟩, rfl, rfl, rfl, hle⟩⟩
      intro k v hk
      obtain ⟨v', e, rr⟩ := hv k v hk
      exact ⟨v', e, rr.mono hge⟩
    · obtain ⟨y, hy, by'⟩ := r.live j B' hj'
      refine ⟨y, hge _ _ hy, ⟨?_, by'.len, by'.sz, by'.gr, by'.le⟩⟩
      rw [hold y.b by'.lt]
      exact (by'.mono hge).ex
  · intro j k B' B'' y z hj hk hy hz e
    have old : ∀ j B' y, h.m.get j = some B' → g j = some y → y.b < w.heap.size := fun j B' y hj hy => by
      obtain ⟨y0, hy0, by'⟩ := r.live j B' hj
      rw [hy] at hy0; cases hy0; exact by'.lt
    rcases getS j B' hj with ⟨rfl, rfl⟩ | ⟨hne, hj'⟩ <;> rcases getS k B'' hk with ⟨rfl, rfl⟩ | ⟨hne', hk'⟩
    · rfl
    · simp [g'] at hy; subst hy
      have hz' : g k = some z := by simpa [g', hne'] using hz
      have := old k B'' z hk' hz'
      simp [X] at e; omega
    · simp [g'] at hz; subst hz
      have hy' : g j = some y := by simpa [g', hne] using hy
      have := old j B' y hj' hy'
      simp [X] at e; omega
    · exact r.inj _ _ _ _ _ _ hj' hk' (by simpa [g', hne] using hy) (by simpa [g', hne'] using hz) e
  · intro j hj
    simp only at hj ⊢
    rw [getH_set _ hlim, if_neg (by omega)]
    exact r.fresh j (by omega)
  · exact hlim
  · intro j y hy
    by_cases e : j = h.next
    · subst e; exact .inr ⟨Nat.le_refl _, Nat.lt_succ_self _⟩
    · exact .inl (by simpa [g', e] using hy)
  · intro b hb' _
    exact hold b hb'
  · intro j B' y hj hy
    rcases getS j B' hj with ⟨rfl, rfl⟩ | ⟨hne, hj'⟩
    · simp [g'] at hy; subst hy; exact .inr (Nat.le_refl _)
    · exact .inl ⟨j, B', y, hj', by simpa [g', hne] using hy, rfl⟩
  · rw [hw]; simp
  · exact Nat.le_succ _

end Ev
