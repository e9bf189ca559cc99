import Derived.Test.YtjgbkacigiidmaaGreatEvB
namespace Ev
open Go

/-- an abstract block, and the concrete one. -/
structure BR (g : Gh) (B : Blk) (x : GB) (w : World) : Prop where
  ex : ∃ c el fr, w.heap[x.b]? = some (.cells c el fr) ∧ c.size = x.csz ∧ (∀ k, k < x.csz → ¬ (fr.1 ≤ k ∧ k < fr.2)) ∧
    (∀ (k : Nat) v, B.cells[k]? = some v → ∃ v', c[k]? = some v' ∧ VR g v v')
  len : B.cells.length = x.fin
  sz : B.sz = x.sz
  gr : B.grown = x.grown
  le : x.fin ≤ x.csz

structure WR (g : Gh) (h : Hp) (w : World) : Prop where
  live : ∀ i B, h.m.get i = some B → ∃ x, g i = some x ∧ BR g B x w
  inj : ∀ i j B B' x y, h.m.get i = some B → h.m.get j = some B' → g i = some x → g j = some y → x.b = y.b → i = j
  fresh : ∀ i, h.next ≤ i → h.m.get i = none
  lim : h.next ≤ limH

/-- what a piece of the run may have done to the concrete world. -/
structure Ext (g : Gh) (h : Hp) (w : World) (g' : Gh) (h' : Hp) (w' : World) : Prop where
  ge : GExt g g'
  new : ∀ i x, g' i = some x → g i = some x ∨ (h.next ≤ i ∧ i < h'.next)
  keep : ∀ b, b < w.heap.size → (∀ i B x, h.m.get i = some B → g i = some x → x.b ≠ b) → w'.heap[b]? = w.heap[b]?
  img : ∀ i B x, h'.m.get i = some B → g' i = some x → (∃ j B' y, h.m.get j = some B' ∧ g j = some y ∧ y.b = x.b) ∨ w.heap.size ≤ x.b
  size : w.heap.size ≤ w'.heap.size
  next : h.next ≤ h'.next
  os : w'.os = w.os
  out : w'.output = w.output

theorem Ext.refl (g : Gh) (h : Hp) (w : World) : Ext g h w g h w where
  ge := GExt.refl g
  new := fun _ _ h => .inl h
  keep := fun _ _ _ => rfl
  img := fun i B x hi hx => .inl ⟨i, B, x, hi, hx, rfl⟩
  size := Nat.le_refl _
  next := Nat.le_refl _
  os := rfl
  out := rfl

theorem Ext.trans {g g1 g2 : Gh} {h h1 h2 : Hp} {w w1 w2 : World} (a : Ext g h w g1 h1 w1) (b : Ext g1 h1 w1 g2 h2 w2) : Ext g h w g2 h2 w2 where
  ge := a.ge.trans b.ge
  new := fun i x hx => by
    rcases b.new i x hx with h' | h'
    · rcases a.new i x h' with h'' | h''
      · exact .inl h''
      · exact .inr ⟨h''.1, Nat.lt_of_lt_of_le h''.2 b.next⟩
    · exact .inr ⟨Nat.le_trans a.next h'.1, h'.2⟩
  keep := fun k hk hn => by
    rw [b.keep k (Nat.lt_of_lt_of_le hk a.size) ?_, a.keep k hk hn]
    intro i B x hi hx
    rcases a.img i B x hi hx with ⟨j, B', y, hj, hy, e⟩ | h'
    · rw [← e]; exact hn j B' y hj hy
    · omega
  img := fun i B x hi hx => by
    rcases b.img i B x hi hx with ⟨j, B', y, hj, hy, e⟩ | h'
    · rcases a.img j B' y hj hy with ⟨j', B'', y', hj', hy', e'⟩ | h''
      · exact .inl ⟨j', B'', y', hj', hy', e'.trans e⟩
      · exact .inr (e ▸ h'')
    · exact .inr (Nat.le_trans a.size h')
  size := Nat.le_trans a.size b.size
  next := Nat.le_trans a.next b.next
  os := b.os.trans a.os
  out := b.out.trans a.out

/-- a draw, an output that nobody asks for: worlds with the same memory. -/
structure SameMem (w w' : World) : Prop where
  heap : w'.heap = w.heap
  os : w'.os = w.os
  out : w'.output = w.output

theorem BR.of_heap {g : Gh} {B : Blk} {x : GB} {w w' : World} (h : w'.heap = w.heap) (b : BR g B x w) : BR g B x w' where
  ex := by rw [h]; exact b.ex
  len := b.len
  sz := b.sz
  gr := b.gr
  le := b.le

theorem WR.of_same {g : Gh} {h : Hp} {w w' : World} (e : w'.heap = w.heap) (r : WR g h w) : WR g h w' where
  live := fun i B hi => let ⟨x, hx, hb⟩ := r.live i B hi; ⟨x, hx, hb.of_heap e⟩
  inj := r.inj
  fresh := r.fresh
  lim := r.lim

theorem BR.mono {g g' : Gh} (hg : GExt g g') {B : Blk} {x : GB} {w : World} (b : BR g B x w) : BR g' B x w where
  ex := by
    obtain ⟨c, el, fr, h1, h2, h3, h4⟩ := b.ex
    exact ⟨c, el, fr, h1, h2, h3, fun k v hk => let ⟨v', a, r⟩ := h4 k v hk; ⟨v', a, r.mono hg⟩⟩
  len := b.len
  sz := b.sz
  gr := b.gr
  le := b.le

/-- live blocks lie in the heap. -/
theorem BR.lt {g : Gh} {B : Blk} {x : GB} {w : World} (b : BR g B x w) : x.b < w.heap.size := by
  obtain ⟨c, el, fr, h1, _⟩ := b.ex
  rcases Nat.lt_or_ge x.b w.heap.size with h | h
  · exact h
  · rw [Array.getElem?_eq_none h] at h1; cases h1

/-! ### cells -/

theorem cut_spec : ∀ (l : List Value) (off n : Nat) (r : List Value), cut l off n = some r → r = (l.drop off).take n ∧ r.length = n ∧ (0 < n → off + n ≤ l.length)
  | _, 0, 0, r, h => by simp [cut] at h; subst h; simp
  | [], 0, n + 1, r, h => by simp [cut] at h
  | [], o + 1, 0, r, h => by simp [cut] at h
  | [], o + 1, n + 1, r, h => by simp [cut] at h
  | x :: l, 0, n + 1, r, h => by
    simp only [cut, Option.map_eq_some_iff] at h
    obtain ⟨r', h', rfl⟩ := h
    have := cut_spec l 0 n r' h'
    simp at this ⊢
    refine ⟨this.1, this.2.1, ?_⟩
    by_cases hn : 0 < n
    · have := this.2.2 hn; omega
    · omega
  | x :: l, o + 1, n, r, h => by
    have h' : cut l o n = some r := by cases n <;> simpa [cut] using h
    have := cut_spec l o n r h'
    simp at this ⊢
    exact ⟨this.1, this.2.1, fun hn => by have := this.2.2 hn; omega⟩

theorem cell_of_heap {w : World} {b off : Nat} {c : Array Value} {el : TypeId} {fr : Nat × Nat} (h : w.heap[b]? = some (.cells c el fr)) :
    w.cell? ⟨b, off, none⟩ = c[off]? := by simp [World.cell?, h]

theorem frozen_of_heap {w : World} {b off : Nat} {c : Array Value} {el : TypeId} {fr : Nat × Nat} (h : w.heap[b]? = some (.cells c el fr))
    (hf : ¬ (fr.1 ≤ off ∧ off < fr.2)) : w.frozen? ⟨b, off, none⟩ = false := by
  obtain ⟨lo, hi⟩ := fr
  simp only [World.frozen?, h]
  simp at hf ⊢
  exact hf

theorem add_off (b off j : Nat) : (⟨b, off, none⟩ : Addr).add j = ⟨b, off + j, none⟩ := by
  unfold Addr.add
  split
  · rename_i h; subst h; rfl
  · rfl

/-- related cells can be loaded, in whatever world with this memory. -/
theorem run_loadCells_all {P : Program} {g : Gh} {B : Blk} {x : GB} {w : World} (b : BR g B x w) {off n : Nat} {l : List Value} (h : cut B.cells off n = some l) :
    ∃ l' : List Value, (∀ w1 : World, w1.heap = w.heap → (loadCells ⟨x.b, off, none⟩ n).run P w1 = .ok l'.toArray w1) ∧ VRL g l l' := by
  obtain ⟨c, el, fr, h1, h2, h3, h4⟩ := b.ex
  obtain ⟨hl, hn, hle⟩ := cut_spec _ _ _ _ h
  have hget : ∀ j, j < n → ∃ v v', B.cells[off + j]? = some v ∧ c[off + j]? = some v' ∧ VR g v v' := by
    intro j hj
    have hlt : off + j < B.cells.length := by have := hle (by omega); omega
    obtain ⟨v', hv', r⟩ := h4 (off + j) B.cells[off + j] (by simp [hlt])
    exact ⟨_, v', by simp [hlt], hv', r⟩
  let f : Nat → Value := fun j => (c[off + j]?).getD undef
  refine ⟨(List.range n).map f, ?_, ?_⟩
  · intro w1 hw1
    have h1' : w1.heap[x.b]? = some (.cells c el fr) := by rw [hw1]; exact h1
    rw [run_loadCells w1 ⟨x.b, off, none⟩ n f]
    · intro j hj
      rw [add_off, cell_of_heap h1']
      obtain ⟨v, v', _, e, _⟩ := hget j hj
      simp [f, e]
  · subst hl
    refine VRL.of_get (by simp; simp at hn; omega) ?_
    intro k v v' hk hk'
    have hkn : k < n := by
      rcases Nat.lt_or_ge k n with h' | h'
      · exact h'
      · rw [List.getElem?_eq_none (by simpa using h')] at hk'; cases hk'
    obtain ⟨u, u', e1, e2, r⟩ := hget k hkn
    rw [List.getElem?_take_of_lt hkn, List.getElem?_drop] at hk
    simp [hkn, f, e2] at hk'
    rw [e1] at hk
    cases hk; subst hk'; exact r

theorem run_loadCells_rel {P : Program} {g : Gh} {B : Blk} {x : GB} {w : World} (b : BR g B x w) {off n : Nat} {l : List Value} (h : cut B.cells off n = some l) :
    ∃ l' : List Value, (loadCells ⟨x.b, off, none⟩ n).run P w = .ok l'.toArray w ∧ VRL g l l' :=
  let ⟨l', h1, h2⟩ := run_loadCells_all (P := P) b h
  ⟨l', h1 w rfl, h2⟩

theorem run_load_rel {P : Program} {g : Gh} {B : Blk} {x : GB} {w : World} (b : BR g B x w) {off : Nat} {v : Value} (h : B.cells[off]? = some v) :
    ∃ v', (load ⟨x.b, off, none⟩).run P w = .ok v' w ∧ VR g v v' := by
  obtain ⟨c, el, fr, h1, h2, h3, h4⟩ := b.ex
  obtain ⟨v', hv', r⟩ := h4 off v h
  refine ⟨v', ?_, r⟩
  rw [run_load, cell_of_heap h1, hv']

end Ev
