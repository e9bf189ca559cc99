import Derived.Test.YtjgbkacigiidmaaGreatEvL
namespace Ev
open Go

section
variable {C : Ctx} {P : Program} {g : Gh} {h h' : Hp} {w : World} {t : Tr Value} {a : Act}

theorem srcDesc_cases {d : TypeDesc} (h : srcDesc d = true) : d = .string ∨ ∃ e, d = .slice e := by
  cases d <;> simp [srcDesc] at h ⊢

/-- append in place. -/
theorem run_append_in {st xt ty el : TypeId} {xd : TypeDesc} {i : TypeInfo} {b : Addr} {n c sz m : Nat} {x' : Value} {src news : List Value} {w' : World}
    (hs : P.underlying st = some (.slice el)) (hx : P.underlying xt = some xd) (hi : P.info? el = some i) (hsz : i.size = sz)
    (hxd : srcDesc xd = true) (S : Src P g w sz x' src m news) (hle : n + m ≤ c)
    (hst : (storeCells (b.add (n * sz)) news).run P w = .ok () w') :
    (Builtin.append_ #[st, xt] ty #[.slice (some b) n c, x']).run P w = .ok (.slice (some b) (n + m) c) w' := by
  subst hsz
  have hl := S.len w
  have hr := S.run w rfl
  rcases srcDesc_cases hxd with rfl | ⟨e2, rfl⟩
  · simp [Builtin.append_, Go.run_underlying hs, Go.run_underlying hx, Go.sizeOf, typeInfo, hi, hl, hle, hr, hst]
  · simp [Builtin.append_, Go.run_underlying hs, Go.run_underlying hx, Go.sizeOf, typeInfo, hi, hl, hle, hr, hst]

theorem run_append_none {st xt ty el : TypeId} {xd : TypeDesc} {i : TypeInfo} {sz : Nat} {x' : Value} {src news : List Value}
    (hs : P.underlying st = some (.slice el)) (hx : P.underlying xt = some xd) (hi : P.info? el = some i) (hsz : i.size = sz)
    (hxd : srcDesc xd = true) (S : Src P g w sz x' src 0 news) :
    (Builtin.append_ #[st, xt] ty #[.slice none 0 0, x']).run P w = .ok (.slice none 0 0) w := by
  subst hsz
  have hl := S.len w
  have hr := S.run w rfl
  rcases srcDesc_cases hxd with rfl | ⟨e2, rfl⟩
  · simp [Builtin.append_, Go.run_underlying hs, Go.run_underlying hx, Go.sizeOf, typeInfo, hi, hl, hr]
  · simp [Builtin.append_, Go.run_underlying hs, Go.run_underlying hx, Go.sizeOf, typeInfo, hi, hl, hr]

/-- append to new memory. -/
theorem run_append_new {st xt ty el : TypeId} {xd : TypeDesc} {i : TypeInfo} {z : Value} {b : Option Addr} {n c sz m : Nat} {x' : Value} {src news old : List Value}
    (hs : P.underlying st = some (.slice el)) (hx : P.underlying xt = some xd) (hi : P.info? el = some i) (hsz : i.size = sz) (hz : i.zero = some z)
    (hxd : srcDesc xd = true) (S : Src P g w sz x' src m news) (hlt : c < n + m)
    (hold : ∀ w' : World, w'.heap = w.heap → (Builtin.firstCells sz n (.slice b n c)).run P w' = .ok old.toArray w')
    (hby : (n + m) * i.bytes ≤ 1099511627776) (hb0 : i.bytes ≠ 0) :
    (Builtin.append_ #[st, xt] ty #[.slice b n c, x']).run P w =
      .ok (.slice (some ⟨w.heap.size, 0, none⟩) (n + m) (grownCap w (n + m) c el))
        (w.drew.alloc (.cells ((old ++ news).toArray ++ Builtin.zeroCells z.cells (grownCap w (n + m) c el - (n + m))) el)) := by
  subst hsz
  have hl := S.len w
  have hr := S.run w.drew rfl
  have ho := hold w.drew rfl
  have hn : ¬ (n + m ≤ c) := by omega
  have h48' : ¬ (281474976710656 < Builtin.nextslicecap (n + m) c * i.bytes) := by
    have := growslice_fits (bytes := i.bytes) hlt (by omega)
    omega
  rcases srcDesc_cases hxd with rfl | ⟨e2, rfl⟩
  · simp [Builtin.append_, Go.run_underlying hs, Go.run_underlying hx, Go.sizeOf, typeInfo, zeroValue, hi, hz, hl, hn, h48', hb0, Question.forced, hr, ho, newRow, grownCap]
    congr 2; apply Array.ext'; simp
  · simp [Builtin.append_, Go.run_underlying hs, Go.run_underlying hx, Go.sizeOf, typeInfo, zeroValue, hi, hz, hl, hn, h48', hb0, Question.forced, hr, ho, newRow, grownCap]
    congr 2; apply Array.ext'; simp

theorem kill_get {i : Nat} (hi : i < limH) (j : Nat) (B : Blk) (e : (Tr.set none depthH h.m i).get j = some B) : j ≠ i ∧ h.m.get j = some B := by
  rw [getH_set _ hi] at e
  by_cases hj : j = i
  · rw [if_pos hj] at e; cases e
  · rw [if_neg hj] at e; exact ⟨hj, e⟩

theorem WR.lt_lim {i : Nat} {B : Blk} (r : WR g h w) (hi : h.m.get i = some B) : i < limH := by
  rcases Nat.lt_or_ge i h.next with h' | h'
  · exact Nat.lt_of_lt_of_le h' r.lim
  · rw [r.fresh i h'] at hi; cases hi

/-- a block less. -/
theorem WR.kill {i : Nat} (r : WR g h w) (hi : i < limH) : WR g ⟨Tr.set none depthH h.m i, h.next⟩ w where
  live := fun j B hj => r.live j B (kill_get hi j B hj).2
  inj := fun j k B B' x y hj hk => r.inj j k B B' x y (kill_get hi j B hj).2 (kill_get hi k B' hk).2
  fresh := fun j hj => by
    show (Tr.set none depthH h.m i).get j = none
    rw [getH_set _ hi]
    split
    · rfl
    · exact r.fresh j hj
  lim := r.lim

theorem Ext.kill {g' : Gh} {w' : World} {i : Nat} (e : Ext g h w g' h' w') (hi : i < limH) : Ext g h w g' ⟨Tr.set none depthH h'.m i, h'.next⟩ w' where
  ge := e.ge
  new := e.new
  keep := e.keep
  img := fun j B x hj hx => e.img j B x (kill_get hi j B hj).2 hx
  size := e.size
  next := e.next
  os := e.os
  out := e.out

theorem capR_le {x : GB} {off c c' : Nat} (h : capR x off c c') : c ≤ c' := by
  rcases h with h | ⟨_, _, h, _⟩ <;> omega

theorem cut_get {l r : List Value} {off n : Nat} (h : cut l off n = some r) {k : Nat} (hk : k < n) : r[k]? = l[off + k]? := by
  obtain ⟨rfl, _, _⟩ := cut_spec _ _ _ _ h
  rw [List.getElem?_take_of_lt hk, List.getElem?_drop]

/-- the block grows where it lies: its old name dies, its new one begins. -/
theorem WR.grow {b i m' : Nat} {B : Blk} {x : GB} {c c' : Array Value} {el : TypeId} {fr : Nat × Nat} {old src news : List Value} {w' : World} {h1 : Hp}
    (r : WR g h w) (hb : h.m.get b = some B) (hx : g b = some x) (hc : w.heap[x.b]? = some (.cells c el fr))
    (hold : cut B.cells 0 m' = some old) (hv : VRL g src news) (hle : m' + src.length ≤ x.csz) (hn : newB h ⟨old ++ src, x.sz, true⟩ = some (i, h1)) (hgi : g i = none)
    (hw : Wrote w w' x.b m' news c c' el fr) :
    ∃ g', WR g' ⟨Tr.set none depthH h1.m b, h1.next⟩ w' ∧ Ext g h w g' ⟨Tr.set none depthH h1.m b, h1.next⟩ w' ∧ g' i = some ⟨x.b, x.csz, m' + src.length, x.sz, true⟩ := by
  obtain ⟨hi0, hnx⟩ := newB_next hn
  have hbl := r.lt_lim hb
  obtain ⟨x0, hx0, bx⟩ := r.live b B hb
  rw [hx] at hx0; cases hx0
  obtain ⟨c0, el0, fr0, f1, f2, f3, f4⟩ := bx.ex
  rw [hc] at f1; cases f1
  have hlen := hv.length
  have holdlen := (cut_spec _ _ _ _ hold).2.1
  unfold newB at hn
  cases hbt : Nat.blt h.next limH with
  | false => rw [hbt] at hn; cases hn
  | true =>
  rw [hbt] at hn
  simp only [cond_true, Option.some.injEq, Prod.mk.injEq] at hn
  obtain ⟨rfl, rfl⟩ := hn
  have hlim : h.next < limH := by simpa [Nat.blt_eq] using hbt
  have hbn : b ≠ h.next := by rintro rfl; rw [r.fresh _ (Nat.le_refl _)] at hb; cases hb
  let X : GB := ⟨x.b, x.csz, m' + src.length, x.sz, true⟩
  let g' : Gh := fun j => if j = h.next then some X else g j
  have hge : GExt g g' := fun j y hj => by
    have : j ≠ h.next := by rintro rfl; rw [hgi] at hj; cases hj
    simp [g', this, hj]
  have getS : ∀ j B', (Tr.set none depthH (Tr.set (some ⟨old ++ src, x.sz, true⟩) depthH h.m h.next) b).get j = some B' →
      (j = h.next ∧ B' = ⟨old ++ src, x.sz, true⟩) ∨ (j ≠ h.next ∧ j ≠ b ∧ h.m.get j = some B') := by
    intro j B' hj
    have hj' := kill_get (h := ⟨Tr.set (some ⟨old ++ src, x.sz, true⟩) depthH h.m h.next, h.next + 1⟩) hbl j B' hj
    obtain ⟨hjb, hj2⟩ := hj'
    simp only at hj2
    rw [getH_set _ hlim] at hj2
    by_cases e : j = h.next
    · rw [if_pos e] at hj2; cases hj2; exact .inl ⟨e, rfl⟩
    · rw [if_neg e] at hj2; exact .inr ⟨e, hjb, hj2⟩
  refine ⟨g', ⟨?_, ?_, ?_, ?_⟩, ⟨hge, ?_, ?_, ?_, by rw [hw.size]; exact Nat.le_refl _, Nat.le_succ _, hw.os, hw.out⟩, by simp [g', X]⟩
  · intro j B' hj
    rcases getS j B' hj with ⟨rfl, rfl⟩ | ⟨hne, hnb, hj'⟩
    · refine ⟨X, by simp [g'], ⟨⟨c', el, fr, hw.blk, by rw [hw.csz, f2], f3, ?_⟩, by simp [X, holdlen], rfl, rfl, hle⟩⟩
      intro k v hk
      simp only at hk
      rw [hw.get]
      by_cases hk1 : k < m'
      · rw [if_neg (by omega)]
        rw [List.getElem?_append_left (by omega), cut_get hold hk1, Nat.zero_add] at hk
        obtain ⟨v', e1, e2⟩ := f4 k v hk
        exact ⟨v', e1, e2.mono hge⟩
      · rw [List.getElem?_append_right (by omega), holdlen] at hk
        have hlt : k - m' < src.length := by
          rcases Nat.lt_or_ge (k - m') src.length with h' | h'
          · exact h'
          · rw [List.getElem?_eq_none h'] at hk; cases hk
        rw [if_pos (by omega)]
        obtain ⟨v', e1, e2⟩ := hv.get hk
        exact ⟨v', e1, e2.mono hge⟩
    · obtain ⟨y, hy, by'⟩ := r.live j B' hj'
      have hne' : y.b ≠ x.b := fun e => hnb (r.inj j b B' B y x hj' hb hy hx e)
      refine ⟨y, hge _ _ hy, ⟨?_, by'.len, by'.sz, by'.gr, by'.le⟩⟩
      rw [hw.other y.b hne']
      exact (by'.mono hge).ex
  · intro j k B' B'' y z hj hk hy hz e
    have old : ∀ j B' y, j ≠ h.next → j ≠ b → h.m.get j = some B' → g' j = some y → y.b ≠ x.b := fun j B' y h1 h2 h3 h4 e =>
      h2 (r.inj j b B' B y x h3 hb (by simpa [g', h1] using h4) hx e)
    rcases getS j B' hj with ⟨rfl, rfl⟩ | ⟨hne, hnb, hj'⟩ <;> rcases getS k B'' hk with ⟨rfl, rfl⟩ | ⟨hne', hnb', hk'⟩
    · rfl
    · simp [g'] at hy; subst hy
      exact (old k B'' z hne' hnb' hk' hz e.symm).elim
    · simp [g'] at hz; subst hz
      exact (old j B' y hne hnb hj' hy e).elim
    · exact r.inj _ _ _ _ _ _ hj' hk' (by simpa [g', hne] using hy) (by simpa [g', hne'] using hz) e
  · intro j hj
    show (Tr.set none depthH (Tr.set (some ⟨old ++ src, x.sz, true⟩) depthH h.m h.next) b).get j = none
    have hj' : h.next + 1 ≤ j := hj
    rw [getH_set (h := ⟨Tr.set (some ⟨old ++ src, x.sz, true⟩) depthH h.m h.next, h.next + 1⟩) _ hbl]
    split
    · rfl
    · show (Tr.set (some ⟨old ++ src, x.sz, true⟩) depthH h.m h.next).get j = none
      rw [getH_set _ hlim, if_neg (by omega)]
      exact r.fresh j (by omega)
  · exact hlim
  · intro j y hy
    by_cases e : j = h.next
    · subst e; exact .inr ⟨Nat.le_refl _, Nat.lt_succ_self _⟩
    · exact .inl (by simpa [g', e] using hy)
  · intro b' hb' hn
    exact hw.other b' (fun e => hn b B x hb hx e.symm)
  · intro j B' y hj hy
    rcases getS j B' hj with ⟨rfl, rfl⟩ | ⟨hne, hnb, hj'⟩
    · simp [g'] at hy; subst hy; exact .inl ⟨b, B, x, hb, hx, rfl⟩
    · exact .inl ⟨j, B', y, hj', by simpa [g', hne] using hy, rfl⟩

end
end Ev
