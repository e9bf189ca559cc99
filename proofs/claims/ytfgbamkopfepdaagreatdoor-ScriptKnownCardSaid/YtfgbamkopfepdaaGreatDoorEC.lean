import Derived.Test.YtfgbamkopfepdaaGreatDoorEB
import Derived.Laws.BytesString
import Derived.Laws.IdiomStrings
namespace Ev
open Go

section
variable {C : Ctx} {P : Program} {g : Gh} {h h' : Hp} {w : World} {t : Tr Value} {a : Act}

theorem pureOf_map {s : Sem Value} {v : Value} {h0 : Hp} (e : (pureOf s).map (·, h) = some (v, h0)) : pureOf s = some v ∧ h0 = h := by
  cases hs : pureOf s with
  | none => rw [hs] at e; cases e
  | some u => rw [hs] at e; simp at e; exact ⟨by rw [e.1], e.2.symm⟩

theorem bytesL_ok : ∀ {l l' : List Value} {bs : List UInt8}, VRL g l l' → bytesL l = some bs →
    ∃ ns : List Int, l' = ns.map (Value.int .u8) ∧ bs = ns.map fun n => UInt8.ofNat n.toNat
  | [], _, bs, .nil, e => by simp [bytesL] at e; subst e; exact ⟨[], rfl, rfl⟩
  | v :: l, _, bs, .cons (l' := l') hv t, e => by
    cases v with
    | int k n =>
      cases k <;> simp only [bytesL] at e <;> first | (cases e; done) | skip
      simp only [Option.map_eq_some_iff] at e
      obtain ⟨r, hr, rfl⟩ := e
      obtain ⟨ns, rfl, rfl⟩ := bytesL_ok t hr
      exact ⟨n :: ns, by rw [hv.int_inv]; rfl, rfl⟩
    | _ => simp [bytesL] at e

theorem foldl_push (ns : List Int) : ∀ s : ByteArray, ns.foldl (fun r n => r.push (UInt8.ofNat n.toNat)) s = ⟨(s.data.toList ++ ns.map fun n => UInt8.ofNat n.toNat).toArray⟩ := by
  induction ns with
  | nil => intro s; simp
  | cons n ns ih =>
    intro s
    simp only [List.foldl_cons, ih, List.map_cons]
    congr 1
    simp [ByteArray.push]

theorem conv_ok (hC : CtxOk C P) {src dst : TypeId} {x x' v : Value} (hw : WR g h w) (hf : Fr g h h') (hx : VR g x x') (e : convV C src dst x h = some (v, h')) :
    OpOk P (do pure (Next.value (← convert src dst x')) : Sem Next) g h w (.val v) h' := by
  unfold convV at e
  split at e
  · rename_i k1 k k2 n hs hd
    cases e
    rw [hx.int_inv]
    refine OpOk.pure (v' := .int k (k.wrap n)) hw ?_ (by rw [wrapF_eq]; exact .int _ _)
    simp [convert, run_underlying hC hs, run_underlying hC hd, Conv.intToInt]
  · rename_i k1 k k2 n hs hd
    obtain ⟨e1, rfl⟩ := pureOf_map e
    rw [hx.int_inv]
    have hcl : closedV v = true := by simp [Conv.intToFloat, pureOf, pure] at e1; subst e1; rfl
    refine OpOk.pure (v' := v) hw ?_ (VR.of_closed hcl)
    simp [convert, run_underlying hC hs, run_underlying hC hd, pureOf_run e1]
  · rename_i k1 k s b hs hd
    obtain ⟨e1, rfl⟩ := pureOf_map e
    rw [hx.float_inv]
    have hcl : closedV v = true := by
      unfold Conv.floatToInt at e1
      split at e1
      · split at e1
        · simp [pureOf, pure] at e1; subst e1; rfl
        · simp [pureOf, choose, bind, Sem.bind] at e1
      · simp [pureOf, choose, bind, Sem.bind] at e1
    refine OpOk.pure (v' := v) hw ?_ (VR.of_closed hcl)
    simp [convert, run_underlying hC hs, run_underlying hC hd, pureOf_run e1]
  · rename_i s hs hd
    cases e
    rw [hx.string_inv]
    refine OpOk.pure (v' := .string s) hw ?_ (.string s)
    simp [convert, run_underlying hC hs, run_underlying hC hd]
  · rename_i el s hs hd
    rw [hx.string_inv]
    split at e
    · rename_i he
      split at e
      · rename_i i h1 hn
        cases e
        obtain ⟨hi, hnx⟩ := newB_next hn
        have hrun := run_bytes_of_string (P := P) w src dst el s (und_ok hC hs) (und_ok hC hd) (und_ok hC he)
        have hge := grownCap_ge w s.size 0 el
        generalize hcap : grownCap w s.size 0 el = cap at hrun hge
        generalize hc : bytesRow s cap = c at hrun
        have hcs : c.size = cap := by
          subst hc
          have : s.data.size = s.size := rfl
          simp [bytesRow, this]; omega
        have hcell : ∀ (k : Nat) (v : Value), (s.data.toList.map fun b => Value.int .u8 b.toNat)[k]? = some v → ∃ v', c[k]? = some v' ∧ VR g v v' := by
          intro k v hk
          have hcl : closedV v = true := by
            simp only [List.getElem?_map, Option.map_eq_some_iff] at hk
            obtain ⟨b, _, rfl⟩ := hk
            rfl
          refine ⟨v, ?_, VR.of_closed hcl⟩
          have hlt : k < s.size := by
            rcases Nat.lt_or_ge k s.size with h | h
            · exact h
            · rw [List.getElem?_eq_none (by simpa using h)] at hk; cases hk
          subst hc
          have hlt' : k < (Array.map (fun b : UInt8 => Value.int .u8 (b.toNat : Int)) s.data).size := by simpa using hlt
          rw [bytesRow, Array.getElem?_append_left hlt']
          simpa using hk
        obtain ⟨g', r1, r2, r3, _⟩ := (WR.of_same (w' := w.drew) (w := w) rfl hw).alloc (w' := w.drew.alloc (.cells c el (c.size, c.size + 1))) (csz := cap) (c := c) (el := el) hn (hf i (by omega) (by omega)) rfl
          (by intro k hk; simp; omega) rfl rfl hcs (by simp; exact hge) hcell
        refine ⟨g', _, _, run_v hrun, ?_, r1, ⟨r2.ge, r2.new, r2.keep, r2.img, r2.size, r2.next, r2.os, r2.out⟩⟩
        refine .slice i 0 s.size s.size cap _ r3 (.inr ⟨rfl, by simp, hge, by simp⟩)
      · cases e
    · cases e
  · rename_i el c hs hd
    split at e
    · rename_i he
      cases e
      have key : ∀ a' c', (do pure (Next.value (← convert src dst (.slice a' 0 c'))) : Sem Next).run P w = .ok (.value (.string .empty)) w := by
        intro a' c'
        have h1 : (convert src dst (.slice a' 0 c')).run P w = .ok (.string .empty) w := by
          rw [run_convert_bytes_string w src dst el a' 0 c' (und_ok hC hs) (und_ok hC he) (und_ok hC hd)]
          cases a' with
          | none => rfl
          | some ad =>
            rw [run_bytesToString w ad 0 c' [] (by simp [loadCells, loadCellsFrom])]
            rfl
        exact run_v h1
      rcases hx.sliceN_inv with ⟨_, ⟨rfl, rfl⟩ | ⟨rfl, a', c', rfl⟩⟩
      · exact OpOk.pure hw (key _ _) (.string _)
      · exact OpOk.pure hw (key _ _) (.string _)
    · cases e
  · rename_i el b off n c hs hd
    split at e
    · rename_i B he hB
      split at e
      · rename_i l hl
        simp only [Option.map_eq_some_iff] at e
        obtain ⟨bs, hbs, e⟩ := e
        cases e
        obtain ⟨_, x0, c', hg, _, rfl⟩ := hx.slice_inv
        obtain ⟨y, hy, br⟩ := hw.live b B hB
        rw [hg] at hy; cases hy
        obtain ⟨l', hl', rel⟩ := run_loadCells_rel (P := P) br hl
        obtain ⟨ns, rfl, rfl⟩ := bytesL_ok rel hbs
        refine OpOk.pure hw (v' := .string ⟨(ns.map fun n => UInt8.ofNat n.toNat).toArray⟩) ?_ (.string _)
        refine run_v ?_
        rw [run_convert_bytes_string w src dst el _ n c' (und_ok hC hs) (und_ok hC he) (und_ok hC hd), run_bytesToString w _ n c' ns hl', foldl_push]
        rfl
      · cases e
    · cases e
  · cases e

/-- what is appended, and how long it is. -/
structure Src (P : Program) (g : Gh) (w : World) (sz : Nat) (x' : Value) (src : List Value) (m : Nat) (news : List Value) : Prop where
  len : ∀ w' : World, (Builtin.lenOf x').run P w' = .ok m w'
  run : ∀ w' : World, w'.heap = w.heap → (Builtin.firstCells sz m x').run P w' = .ok news.toArray w'
  rel : VRL g src news
  size : src.length = m * sz

theorem src_ok {sz m : Nat} {x x' : Value} {src : List Value} (hw : WR g h w) (hx : VR g x x') (e : srcCells h sz x = some (src, m)) :
    ∃ news, Src P g w sz x' src m news := by
  unfold srcCells at e
  split at e
  · rename_i s
    cases hb : Nat.beq sz 1 with
    | false => rw [hb] at e; cases e
    | true =>
    have hsz1 := Nat.eq_of_beq_eq_true hb
    rw [hb] at e
    cases e
    rw [hx.string_inv]
    refine ⟨s.data.toList.map fun b => .int .u8 b.toNat, ⟨fun w' => rfl, fun w' _ => ?_, zeros_closed ?_, ?_⟩⟩
    · have : s.extract 0 s.size = s := by
        apply ByteArray.ext
        simp
      simp only [Builtin.firstCells, Sem.run_pure, this]
      congr 1
      apply Array.ext'
      simp
    · rw [List.all_eq_true]
      intro v hv
      obtain ⟨b, _, rfl⟩ := List.mem_map.1 hv
      rfl
    · have : s.data.size = s.size := rfl
      rw [hsz1]; simp [this]
  · cases e
    rcases hx.sliceN_inv with ⟨_, ⟨rfl, rfl⟩ | ⟨rfl, a', c', rfl⟩⟩
    · exact ⟨[], ⟨fun w' => rfl, fun w' _ => rfl, .nil, by simp⟩⟩
    · refine ⟨[], ⟨fun w' => rfl, fun w' _ => ?_, .nil, by simp⟩⟩
      cases a' with
      | none => rfl
      | some ad => simp [Builtin.firstCells, loadCells, loadCellsFrom]
  · rename_i b off n c
    obtain ⟨_, x0, c', hg, _, rfl⟩ := hx.slice_inv
    split at e
    · rename_i B hB
      simp only [Option.map_eq_some_iff] at e
      obtain ⟨l, hl, e⟩ := e
      cases e
      obtain ⟨y, hy, br⟩ := hw.live b B hB
      rw [hg] at hy; cases hy
      obtain ⟨l', hl', rel⟩ := run_loadCells_all (P := P) br hl
      exact ⟨l', ⟨fun w' => rfl, fun w' hh => hl' w' hh, rel, (cut_spec _ _ _ _ hl).2.1⟩⟩
    · cases e
  · cases e

end
end Ev
namespace Ev
open Go

section
variable {C : Ctx} {P : Program} {g : Gh} {h h' : Hp} {w : World} {t : Tr Value} {a : Act}

theorem srcDesc_cases {d : TypeDesc} (h : srcDesc d = true) : d = .string ∨ ∃ e, d = .slice e := by
  cases d <;> simp [srcDesc] at h ⊢

/-- append in place. -/
theorem run_append_in {st xt ty el : TypeId} {xd : TypeDesc} {i : TypeInfo} {b : Addr} {n c sz m : Nat} {x' : Value} {src news : List Value} {w' : World}
    (hs : P.underlying st = some (.slice el)) (hx : P.underlying xt = some xd) (hi : P.info? el = some i) (hsz : i.size = sz)
    (hxd : srcDesc xd = true) (S : Src P g w sz x' src m news) (hle : n + m ≤ c)
    (hst : (storeCells (b.add (n * sz)) news).run P w = .ok () w') :
    (Builtin.append_ #[st, xt] ty #[.slice (some b) n c, x']).run P w = .ok (.slice (some b) (n + m) c) w' := by
  subst hsz
  have hl := S.len w
  have hr := S.run w rfl
  rcases srcDesc_cases hxd with rfl | ⟨e2, rfl⟩
  · simp [Builtin.append_, Go.run_underlying hs, Go.run_underlying hx, Go.sizeOf, typeInfo, hi, hl, hle, hr, hst]
  · simp [Builtin.append_, Go.run_underlying hs, Go.run_underlying hx, Go.sizeOf, typeInfo, hi, hl, hle, hr, hst]

theorem run_append_none {st xt ty el : TypeId} {xd : TypeDesc} {i : TypeInfo} {sz : Nat} {x' : Value} {src news : List Value}
    (hs : P.underlying st = some (.slice el)) (hx : P.underlying xt = some xd) (hi : P.info? el = some i) (hsz : i.size = sz)
    (hxd : srcDesc xd = true) (S : Src P g w sz x' src 0 news) :
    (Builtin.append_ #[st, xt] ty #[.slice none 0 0, x']).run P w = .ok (.slice none 0 0) w := by
  subst hsz
  have hl := S.len w
  have hr := S.run w rfl
  rcases srcDesc_cases hxd with rfl | ⟨e2, rfl⟩
  · simp [Builtin.append_, Go.run_underlying hs, Go.run_underlying hx, Go.sizeOf, typeInfo, hi, hl, hr]
  · simp [Builtin.append_, Go.run_underlying hs, Go.run_underlying hx, Go.sizeOf, typeInfo, hi, hl, hr]

/-- append to new memory. -/
theorem run_append_new {st xt ty el : TypeId} {xd : TypeDesc} {i : TypeInfo} {z : Value} {b : Option Addr} {n c sz m : Nat} {x' : Value} {src news old : List Value}
    (hs : P.underlying st = some (.slice el)) (hx : P.underlying xt = some xd) (hi : P.info? el = some i) (hsz : i.size = sz) (hz : i.zero = some z)
    (hxd : srcDesc xd = true) (S : Src P g w sz x' src m news) (hlt : c < n + m)
    (hold : ∀ w' : World, w'.heap = w.heap → (Builtin.firstCells sz n (.slice b n c)).run P w' = .ok old.toArray w')
    (hby : (n + m) * i.bytes ≤ 1099511627776) (hb0 : i.bytes ≠ 0) :
    (Builtin.append_ #[st, xt] ty #[.slice b n c, x']).run P w =
      .ok (.slice (some ⟨w.heap.size, 0, none⟩) (n + m) (grownCap w (n + m) c el))
        (w.drew.alloc (.cells ((old ++ news).toArray ++ Builtin.zeroCells z.cells (grownCap w (n + m) c el - (n + m))) el)) := by
  subst hsz
  have hl := S.len w
  have hr := S.run w.drew rfl
  have ho := hold w.drew rfl
  have hn : ¬ (n + m ≤ c) := by omega
  have h48' : ¬ (281474976710656 < Builtin.nextslicecap (n + m) c * i.bytes) := by
    have := growslice_fits (bytes := i.bytes) hlt (by omega)
    omega
  rcases srcDesc_cases hxd with rfl | ⟨e2, rfl⟩
  · simp [Builtin.append_, Go.run_underlying hs, Go.run_underlying hx, Go.sizeOf, typeInfo, zeroValue, hi, hz, hl, hn, h48', hb0, Question.forced, hr, ho, newRow, grownCap]
    congr 2; apply Array.ext'; simp
  · simp [Builtin.append_, Go.run_underlying hs, Go.run_underlying hx, Go.sizeOf, typeInfo, zeroValue, hi, hz, hl, hn, h48', hb0, Question.forced, hr, ho, newRow, grownCap]
    congr 2; apply Array.ext'; simp

theorem kill_get {i : Nat} (hi : i < limH) (j : Nat) (B : Blk) (e : (Tr.set none depthH h.m i).get j = some B) : j ≠ i ∧ h.m.get j = some B := by
  rw [getH_set _ hi] at e
  by_cases hj : j = i
  · rw [if_pos hj] at e; cases e
  · rw [if_neg hj] at e; exact ⟨hj, e⟩

theorem WR.lt_lim {i : Nat} {B : Blk} (r : WR g h w) (hi : h.m.get i = some B) : i < limH := by
  rcases Nat.lt_or_ge i h.next with h' | h'
  · exact Nat.lt_of_lt_of_le h' r.lim
  · rw [r.fresh i h'] at hi; cases hi

/-- a block less. -/
theorem WR.kill {i : Nat} (r : WR g h w) (hi : i < limH) : WR g ⟨Tr.set none depthH h.m i, h.next⟩ w where
  live := fun j B hj => r.live j B (kill_get hi j B hj).2
  inj := fun j k B B' x y hj hk => r.inj j k B B' x y (kill_get hi j B hj).2 (kill_get hi k B' hk).2
  fresh := fun j hj => by
    show (Tr.set none depthH h.m i).get j = none
    rw [getH_set _ hi]
    split
    · rfl
    · exact r.fresh j hj
  lim := r.lim
  base := r.base
  low := fun j B x hj => r.low j B x (kill_get hi j B hj).2

theorem Ext.kill {g' : Gh} {w' : World} {i : Nat} (e : Ext g h w g' h' w') (hi : i < limH) : Ext g h w g' ⟨Tr.set none depthH h'.m i, h'.next⟩ w' where
  ge := e.ge
  new := e.new
  keep := e.keep
  img := fun j B x hj hx => e.img j B x (kill_get hi j B hj).2 hx
  size := e.size
  next := e.next
  os := e.os
  out := e.out

theorem capR_le {x : GB} {off c c' : Nat} (h : capR x off c c') : c ≤ c' := by
  rcases h with h | ⟨_, _, h, _⟩ <;> omega

theorem cut_get {l r : List Value} {off n : Nat} (h : cut l off n = some r) {k : Nat} (hk : k < n) : r[k]? = l[off + k]? := by
  obtain ⟨rfl, _, _⟩ := cut_spec _ _ _ _ h
  rw [List.getElem?_take_of_lt hk, List.getElem?_drop]

/-- the block grows where it lies: its old name dies, its new one begins. -/
theorem WR.grow {b i m' : Nat} {B : Blk} {x : GB} {c c' : Array Value} {el : TypeId} {fr : Nat × Nat} {old src news : List Value} {w' : World} {h1 : Hp}
    (r : WR g h w) (hb : h.m.get b = some B) (hx : g b = some x) (hc : w.heap[x.b]? = some (.cells c el fr))
    (hold : cut B.cells 0 m' = some old) (hv : VRL g src news) (hle : m' + src.length ≤ x.csz) (hn : newB h ⟨old ++ src, x.sz, true⟩ = some (i, h1)) (hgi : g i = none)
    (hw : Wrote w w' x.b m' news c c' el fr) :
    ∃ g', WR g' ⟨Tr.set none depthH h1.m b, h1.next⟩ w' ∧ Ext g h w g' ⟨Tr.set none depthH h1.m b, h1.next⟩ w' ∧ g' i = some ⟨x.b, x.csz, m' + src.length, x.sz, true⟩ := by
  obtain ⟨hi0, hnx⟩ := newB_next hn
  have hbl := r.lt_lim hb
  obtain ⟨x0, hx0, bx⟩ := r.live b B hb
  rw [hx] at hx0; cases hx0
  obtain ⟨c0, el0, fr0, f1, f2, f3, f4⟩ := bx.ex
  rw [hc] at f1; cases f1
  have hlen := hv.length
  have holdlen := (cut_spec _ _ _ _ hold).2.1
  unfold newB at hn
  cases hbt : Nat.blt h.next limH with
  | false => rw [hbt] at hn; cases hn
  | true =>
  rw [hbt] at hn
  simp only [cond_true, Option.some.injEq, Prod.mk.injEq] at hn
  obtain ⟨rfl, rfl⟩ := hn
  have hlim : h.next < limH := by simpa [Nat.blt_eq] using hbt
  have hbn : b ≠ h.next := by rintro rfl; rw [r.fresh _ (Nat.le_refl _)] at hb; cases hb
  let X : GB := ⟨x.b, x.csz, m' + src.length, x.sz, true⟩
  let g' : Gh := fun j => if j = h.next then some X else g j
  have hge : GExt g g' := fun j y hj => by
    have : j ≠ h.next := by rintro rfl; rw [hgi] at hj; cases hj
    simp [g', this, hj]
  have getS : ∀ j B', (Tr.set none depthH (Tr.set (some ⟨old ++ src, x.sz, true⟩) depthH h.m h.next) b).get j = some B' →
      (j = h.next ∧ B' = ⟨old ++ src, x.sz, true⟩) ∨ (j ≠ h.next ∧ j ≠ b ∧ h.m.get j = some B') := by
    intro j B' hj
    have hj' := kill_get (h := ⟨Tr.set (some ⟨old ++ src, x.sz, true⟩) depthH h.m h.next, h.next + 1⟩) hbl j B' hj
    obtain ⟨hjb, hj2⟩ := hj'
    simp only at hj2
    rw [getH_set _ hlim] at hj2
    by_cases e : j = h.next
    · rw [if_pos e] at hj2; cases hj2; exact .inl ⟨e, rfl⟩
    · rw [if_neg e] at hj2; exact .inr ⟨e, hjb, hj2⟩
  refine ⟨g', ⟨?_, ?_, ?_, ?_, r.base.keep (by rw [hw.size]; exact Nat.le_refl _) (fun k hk => hw.other k (by have := r.low b B x hb hx; omega)), ?_⟩, ⟨hge, ?_, ?_, ?_, by rw [hw.size]; exact Nat.le_refl _, Nat.le_succ _, hw.os, hw.out⟩, by simp [g', X]⟩
  · intro j B' hj
    rcases getS j B' hj with ⟨rfl, rfl⟩ | ⟨hne, hnb, hj'⟩
    · refine ⟨X, by simp [g'], ⟨⟨c', el, fr, hw.blk, by rw [hw.csz, f2], f3, ?_⟩, by simp [X, holdlen], rfl, rfl, hle⟩⟩
      intro k v hk
      simp only at hk
      rw [hw.get]
      by_cases hk1 : k < m'
      · rw [if_neg (by omega)]
        rw [List.getElem?_append_left (by omega), cut_get hold hk1, Nat.zero_add] at hk
        obtain ⟨v', e1, e2⟩ := f4 k v hk
        exact ⟨v', e1, e2.mono hge⟩
      · rw [List.getElem?_append_right (by omega), holdlen] at hk
        have hlt : k - m' < src.length := by
          rcases Nat.lt_or_ge (k - m') src.length with h' | h'
          · exact h'
          · rw [List.getElem?_eq_none h'] at hk; cases hk
        rw [if_pos (by omega)]
        obtain ⟨v', e1, e2⟩ := hv.get hk
        exact ⟨v', e1, e2.mono hge⟩
    · obtain ⟨y, hy, by'⟩ := r.live j B' hj'
      have hne' : y.b ≠ x.b := fun e => hnb (r.inj j b B' B y x hj' hb hy hx e)
      refine ⟨y, hge _ _ hy, ⟨?_, by'.len, by'.sz, by'.gr, by'.le⟩⟩
      rw [hw.other y.b hne']
      exact (by'.mono hge).ex
  · intro j k B' B'' y z hj hk hy hz e
    have old : ∀ j B' y, j ≠ h.next → j ≠ b → h.m.get j = some B' → g' j = some y → y.b ≠ x.b := fun j B' y h1 h2 h3 h4 e =>
      h2 (r.inj j b B' B y x h3 hb (by simpa [g', h1] using h4) hx e)
    rcases getS j B' hj with ⟨rfl, rfl⟩ | ⟨hne, hnb, hj'⟩ <;> rcases getS k B'' hk with ⟨rfl, rfl⟩ | ⟨hne', hnb', hk'⟩
    · rfl
    · simp [g'] at hy; subst hy
      exact (old k B'' z hne' hnb' hk' hz e.symm).elim
    · simp [g'] at hz; subst hz
      exact (old j B' y hne hnb hj' hy e).elim
    · exact r.inj _ _ _ _ _ _ hj' hk' (by simpa [g', hne] using hy) (by simpa [g', hne'] using hz) e
  · intro j hj
    show (Tr.set none depthH (Tr.set (some ⟨old ++ src, x.sz, true⟩) depthH h.m h.next) b).get j = none
    have hj' : h.next + 1 ≤ j := hj
    rw [getH_set (h := ⟨Tr.set (some ⟨old ++ src, x.sz, true⟩) depthH h.m h.next, h.next + 1⟩) _ hbl]
    split
    · rfl
    · show (Tr.set (some ⟨old ++ src, x.sz, true⟩) depthH h.m h.next).get j = none
      rw [getH_set _ hlim, if_neg (by omega)]
      exact r.fresh j (by omega)
  · exact hlim
  · intro j B' y hj hy
    rcases getS j B' hj with ⟨rfl, rfl⟩ | ⟨hne, hnb, hj'⟩
    · simp [g'] at hy; subst hy
      exact r.low b B x hb hx
    · exact r.low j B' y hj' (by simpa [g', hne] using hy)
  · intro j y hy
    by_cases e : j = h.next
    · subst e; exact .inr ⟨Nat.le_refl _, Nat.lt_succ_self _⟩
    · exact .inl (by simpa [g', e] using hy)
  · intro b' hb' hn
    exact hw.other b' (fun e => hn b B x hb hx e.symm)
  · intro j B' y hj hy
    rcases getS j B' hj with ⟨rfl, rfl⟩ | ⟨hne, hnb, hj'⟩
    · simp [g'] at hy; subst hy; exact .inl ⟨b, B, x, hb, hx, rfl⟩
    · exact .inl ⟨j, B', y, hj', by simpa [g', hne] using hy, rfl⟩

end
end Ev
namespace Ev
open Go

section
variable {C : Ctx} {P : Program} {g : Gh} {h h' : Hp} {w : World} {t : Tr Value} {a : Act}

theorem two_of_toList {α : Type} {l : Array α} {x y : α} (e : l.toList = [x, y]) : l = #[x, y] := by
  apply Array.ext'; simpa using e

theorem one_of_toList {α : Type} {l : Array α} {x : α} (e : l.toList = [x]) : l = #[x] := by
  apply Array.ext'; simpa using e

theorem src_cells {news src : List Value} (hv : VRL g src news) (hs : src.all isCell = true) : ∀ v ∈ news, v.oneCell' = true := by
  intro u hu
  obtain ⟨k, hk⟩ := List.mem_iff_getElem?.1 hu
  have hlen := hv.length
  have hklt : k < src.length := by
    rw [hlen]
    rcases Nat.lt_or_ge k news.length with h' | h'
    · exact h'
    · rw [List.getElem?_eq_none h'] at hk; cases hk
  obtain ⟨u', hu', rr⟩ := hv.get (k := k) (v := src[k]) (List.getElem?_eq_getElem hklt)
  rw [hk] at hu'; cases hu'
  exact isCell_one (by rw [rr.isCell_iff]; exact List.all_eq_true.1 hs _ (List.getElem_mem hklt))

theorem append_ok (hC : CtxOk C P) {ats : Array TypeId} {ty : TypeId} {args args' : Array Value} {v : Value} (hw : WR g h w) (hf : Fr g h h') (ha : VRL g args.toList args'.toList)
    (e : appendV C ats args h = some (v, h')) :
    ∃ g' w' v', (Builtin.append_ ats ty args').run P w = .ok v' w' ∧ VR g' v v' ∧ WR g' h' w' ∧ Ext g h w g' h' w' := by
  unfold appendV at e
  split at e
  · rename_i st xt base n cap x hats hargs
    have hats' := two_of_toList hats
    subst hats'
    rw [hargs] at ha
    have hargs' : ∃ s' x', args' = #[s', x'] ∧ VR g (.slice base n cap) s' ∧ VR g x x' := by
      generalize hl : args'.toList = l at ha
      cases ha with
      | cons h1 t1 => cases t1 with
        | cons h2 t2 => cases t2; exact ⟨_, _, two_of_toList hl, h1, h2⟩
    obtain ⟨s', x', rfl, hs, hx⟩ := hargs'
    split at e
    · rename_i el xd hus hux
      split at e
      · rename_i sz by_ z src m hsz hby hz hsrc
        have hszD : (sizeT C el).getD 0 = sz := by rw [hsz]; rfl
        rw [hszD] at hsrc
        simp only at e
        cases hck : (!(srcDesc xd) || Nat.beq sz 0 || Nat.beq by_ 0 || !(Nat.ble ((n + m) * by_) 1099511627776 && Nat.ble by_ 1048576 && Nat.ble (n + m) 4294967296) || !src.all isCell) with
        | true => rw [hck] at e; cases e
        | false =>
        rw [hck] at e
        simp only [cond_false] at e
        simp only [Bool.or_eq_false_iff, Bool.not_eq_false', Bool.and_eq_true, Nat.ble_eq] at hck
        obtain ⟨⟨⟨⟨k1, k2⟩, k3⟩, ⟨k4, k5⟩, k6⟩, k7⟩ := hck
        have hsz0 : sz ≠ 0 := by rintro rfl; cases k2
        have hby0 : by_ ≠ 0 := by rintro rfl; cases k3
        obtain ⟨it, hit, hits⟩ := size_ok hC hsz
        obtain ⟨it', hit', hitb⟩ := bytes_ok hC hby
        rw [hit] at hit'; cases hit'
        have hzs := hC.zs el z sz hz hsz
        obtain ⟨it', hit', hitz⟩ := zero_ok hC hz
        rw [hit] at hit'; cases hit'
        have hux' := und_ok hC hux
        have hus' := und_ok hC hus
        obtain ⟨news, S⟩ := src_ok (P := P) hw hx hsrc
        have hone := src_cells S.rel k7
        have hnl := S.rel.length
        have hss := S.size
        split at e
        · -- nil
          cases hb : (Nat.beq n 0 && Nat.beq cap 0) with
          | false => rw [hb] at e; cases e
          | true =>
          rw [hb] at e
          simp only [cond_true] at e
          simp only [Bool.and_eq_true] at hb
          have hn0 := Nat.eq_of_beq_eq_true hb.1
          have hc0 := Nat.eq_of_beq_eq_true hb.2
          subst hn0 hc0
          have := (hs.sliceN0_inv).2
          subst this
          cases hm : Nat.beq m 0 with
          | true =>
            have := Nat.eq_of_beq_eq_true hm
            subst this
            rw [hm] at e
            cases e
            exact ⟨g, w, _, run_append_none (w := w) hus' hux' hit hits k1 S, .nilSlice, hw, Ext.refl _ _ _⟩
          | false =>
            have hm0 : m ≠ 0 := by rintro rfl; cases hm
            rw [hm] at e
            simp only [cond_false] at e
            split at e
            · rename_i i h1 hn
              cases e
              obtain ⟨hi, hnx⟩ := newB_next hn
              have hrun := run_append_new (w := w) (ty := ty) (b := none) (n := 0) (c := 0) (old := []) hus' hux' hit hits hitz k1 S (by omega)
                (fun w' _ => by simp [Builtin.firstCells]) (by rw [hitb]; exact k4) (by rw [hitb]; exact hby0)
              have hge := grownCap_ge w (0 + m) 0 el
              obtain ⟨g', r1, r2, r3, _⟩ := (WR.of_same (w' := w.drew) (w := w) rfl hw).alloc
                (w' := w.drew.alloc (.cells (([] ++ news).toArray ++ Builtin.zeroCells z.cells (grownCap w (0 + m) 0 el - (0 + m))) el))
                (csz := news.length + (grownCap w (0 + m) 0 el - (0 + m)) * z.cells.size)
                (c := (([] ++ news).toArray ++ Builtin.zeroCells z.cells (grownCap w (0 + m) 0 el - (0 + m)))) (el := el) hn (hf i (by omega) (by omega)) rfl (by simp) rfl rfl
                (by simp [size_zeroCells]) (by omega) (fun k u hu => by
                  obtain ⟨u', e1, e2⟩ := S.rel.get hu
                  refine ⟨u', ?_, e2⟩
                  rw [Array.getElem?_append_left]
                  · simpa using e1
                  · rcases Nat.lt_or_ge k news.length with h' | h'
                    · simpa using h'
                    · rw [List.getElem?_eq_none h'] at e1; cases e1)
              refine ⟨g', _, _, hrun, ?_, r1, ⟨r2.ge, r2.new, r2.keep, r2.img, r2.size, r2.next, r2.os, r2.out⟩⟩
              rw [Nat.zero_add] at hge ⊢
              refine .slice i 0 m m _ _ r3 (.inr ⟨rfl, by simp; omega, hge, ?_⟩)
              rw [hzs]
              have : m * sz + (grownCap w m 0 el - m) * sz = grownCap w m 0 el * sz := by rw [← Nat.add_mul]; congr 1; omega
              simp only [Nat.zero_add]
              omega
            · cases e
        · rename_i b off
          obtain ⟨_, x0, c', hg, hcap, rfl⟩ := hs.slice_inv
          split at e
          · cases e
          · rename_i B hB
            obtain ⟨y, hy, br⟩ := hw.live b B hB
            rw [hg] at hy; cases hy
            obtain ⟨c, cel, fr, f1, f2, f3, f4⟩ := br.ex
            have hcc := capR_le hcap
            cases hnc : Nat.ble (n + m) cap with
            | true =>
              have hle := Nat.le_of_ble_eq_true hnc
              rw [hnc] at e
              simp only [cond_true] at e
              split at e
              · rename_i l hl
                cases e
                obtain ⟨e1, e2, e3, e4⟩ := paste_spec _ _ _ _ hl
                have hbound : news ≠ [] → off + n * sz + 0 + news.length ≤ c.size := by
                  intro hne
                  have hsne : src ≠ [] := by
                    rintro rfl
                    apply hne
                    cases news with
                    | nil => rfl
                    | cons _ _ => simp at hnl
                  have := e2 hsne
                  have := br.le
                  have := br.len
                  omega
                obtain ⟨w', cc', hrun, hwr⟩ := run_storeCells_block (P := P) (off := off + n * sz) news 0 w c f1 hbound (by rw [f2]; exact f3) hone
                obtain ⟨r1, r2⟩ := hw.wrote hB hg f1 hl S.rel (by simpa using hwr)
                refine ⟨g, w', _, run_append_in (w := w) hus' hux' hit hits k1 S (by omega : n + m ≤ c') (by rw [add_off]; exact hrun), ?_, r1, r2⟩
                exact .slice b off _ _ _ x0 hg hcap
              · cases e
            | false =>
              have hgt : cap < n + m := by
                rcases Nat.lt_or_ge cap (n + m) with h | h
                · exact h
                · rw [Nat.ble_eq_true_of_le h] at hnc; cases hnc
              rw [hnc] at e
              simp only [cond_false] at e
              split at e
              · cases e
              · rename_i old hold
                cases hgs : (B.grown && !(Nat.beq B.sz sz)) with
                | true => rw [hgs] at e; cases e
                | false =>
                rw [hgs] at e
                simp only [cond_false] at e
                have hszx : x0.grown = true → x0.sz = sz := by
                  intro hgr
                  rw [← br.gr] at hgr
                  rw [hgr] at hgs
                  rw [← br.sz]
                  exact Nat.eq_of_beq_eq_true (by simpa using hgs)
                split at e
                · cases e
                · rename_i i h1 hn
                  obtain ⟨hi, hnx⟩ := newB_next hn
                  have hbl := hw.lt_lim hB
                  obtain ⟨old', hold', orel⟩ := run_loadCells_all (P := P) br hold
                  have holdlen := (cut_spec _ _ _ _ hold).2.1
                  have hol' := orel.length
                  -- what a new array brings
                  have fresh : c' < n + m → h'.next = h1.next → ∃ g' w' v', (Builtin.append_ #[st, xt] ty #[.slice (some ⟨x0.b, off, none⟩) n c', x']).run P w = .ok v' w' ∧
                      VR g' (.slice (some ⟨i, 0, none⟩) (n + m) (n + m)) v' ∧ WR g' h1 w' ∧ Ext g h w g' h1 w' := by
                    intro hlt hnext
                    have hrun := run_append_new (w := w) (ty := ty) (b := some ⟨x0.b, off, none⟩) (n := n) (c := c') (old := old') hus' hux' hit hits hitz k1 S hlt
                      (fun w' hh => by simp only [Builtin.firstCells]; exact hold' w' hh) (by rw [hitb]; exact k4) (by rw [hitb]; exact hby0)
                    have hge := grownCap_ge w (n + m) c' el
                    have hrel := orel.append S.rel
                    obtain ⟨g', r1, r2, r3, _⟩ := (WR.of_same (w' := w.drew) (w := w) rfl hw).alloc
                      (w' := w.drew.alloc (.cells ((old' ++ news).toArray ++ Builtin.zeroCells z.cells (grownCap w (n + m) c' el - (n + m))) el))
                      (csz := (old' ++ news).length + (grownCap w (n + m) c' el - (n + m)) * z.cells.size)
                      (c := ((old' ++ news).toArray ++ Builtin.zeroCells z.cells (grownCap w (n + m) c' el - (n + m)))) (el := el) hn (hf i (by omega) (by omega)) rfl (by simp) rfl rfl
                      (by simp [size_zeroCells]) (by rw [hrel.length]; omega) (fun k u hu => by
                        obtain ⟨u', e1, e2⟩ := hrel.get hu
                        refine ⟨u', ?_, e2⟩
                        rw [Array.getElem?_append_left]
                        · simpa using e1
                        · rcases Nat.lt_or_ge k (old' ++ news).length with h' | h'
                          · simpa using h'
                          · rw [List.getElem?_eq_none h'] at e1; cases e1)
                    refine ⟨g', _, _, hrun, ?_, r1, ⟨r2.ge, r2.new, r2.keep, r2.img, r2.size, r2.next, r2.os, r2.out⟩⟩
                    have hlen2 : (old' ++ news).length = (n + m) * sz := by simp [Nat.add_mul]; omega
                    have hlen3 : (old ++ src).length = (n + m) * sz := by simp [Nat.add_mul]; omega
                    refine .slice i 0 (n + m) (n + m) _ _ r3 (.inr ⟨rfl, by simp only [Nat.zero_add]; exact hlen3.symm, hge, ?_⟩)
                    rw [hzs]
                    have : (n + m) * sz + (grownCap w (n + m) c' el - (n + m)) * sz = grownCap w (n + m) c' el * sz := by rw [← Nat.add_mul]; congr 1; omega
                    simp only [Nat.zero_add]
                    omega
                  cases htip : (B.grown && Nat.beq (off + cap * sz) B.cells.length) with
                  | true =>
                    rw [htip] at e
                    simp only [cond_true] at e
                    simp only [Bool.and_eq_true] at htip
                    obtain ⟨hgr, htip⟩ := htip
                    have htip := Nat.eq_of_beq_eq_true htip
                    cases hoff : Nat.beq off 0 with
                    | false => rw [hoff] at e; cases e
                    | true =>
                    have hoff0 := Nat.eq_of_beq_eq_true hoff
                    subst hoff0
                    rw [hoff] at e
                    cases e
                    by_cases hroom : n + m ≤ c'
                    · have hxs := hszx (by rw [← br.gr]; exact hgr)
                      have hcsz : 0 + c' * sz ≤ x0.csz := by
                        rcases hcap with rfl | ⟨_, _, _, h4⟩
                        · omega
                        · rw [hxs] at h4; exact h4
                      have hm1 : n * sz + m * sz = (n + m) * sz := (Nat.add_mul _ _ _).symm
                      have hm2 : (n + m) * sz ≤ c' * sz := Nat.mul_le_mul_right _ hroom
                      obtain ⟨w', cc', hrun, hwr⟩ := run_storeCells_block (P := P) (off := 0 + n * sz) news 0 w c f1 (by intro _; omega) (by rw [f2]; exact f3) hone
                      have hn' : newB h ⟨old ++ src, x0.sz, true⟩ = some (i, h1) := by rw [hxs]; exact hn
                      obtain ⟨g', r1, r2, r3⟩ := hw.grow (m' := n * sz) hB hg f1 hold S.rel (by omega) hn' (hf i (by omega) (by simp only; omega)) (by simpa using hwr)
                      refine ⟨g', w', _, run_append_in (w := w) hus' hux' hit hits k1 S hroom (by rw [add_off]; exact hrun), ?_, r1, r2⟩
                      exact VR.slice i 0 (n + m) (n + m) c' ⟨x0.b, x0.csz, n * sz + src.length, x0.sz, true⟩ r3 (.inr ⟨rfl, by simp only [hxs]; omega, hroom, by simp only [hxs]; exact hcsz⟩)
                    · obtain ⟨g', w', v', q1, q2, q3, q4⟩ := fresh (by omega) rfl
                      exact ⟨g', w', v', q1, q2, q3.kill hbl, q4.kill hbl⟩
                  | false =>
                    rw [htip] at e
                    cases e
                    have hexact : c' = cap := by
                      rcases hcap with h | ⟨g1, g2, _, _⟩
                      · exact h
                      · exfalso
                        have hs1 := hszx g1
                        rw [hs1, ← br.len] at g2
                        rw [← br.gr] at g1
                        rw [g1, beq_true_of g2] at htip
                        cases htip
                    exact fresh (by omega) rfl
        · cases e
      · cases e
    · cases e
  · cases e

end
end Ev
namespace Ev
open Go

section
variable {C : Ctx} {P : Program} {g : Gh} {h h' : Hp} {w : World} {t : Tr Value} {a : Act}

theorem one_rel {args args' : Array Value} {x : Value} (hx : args.toList = [x]) (ha : VRL g args.toList args'.toList) : ∃ x', args' = #[x'] ∧ VR g x x' := by
  rw [hx] at ha
  generalize hl : args'.toList = l at ha
  cases ha with
  | cons h1 t1 => cases t1; exact ⟨_, one_of_toList hl, h1⟩

theorem two_rel {args args' : Array Value} {x y : Value} (hx : args.toList = [x, y]) (ha : VRL g args.toList args'.toList) : ∃ x' y', args' = #[x', y'] ∧ VR g x x' ∧ VR g y y' := by
  rw [hx] at ha
  generalize hl : args'.toList = l at ha
  cases ha with
  | cons h1 t1 => cases t1 with
    | cons h2 t2 => cases t2; exact ⟨_, _, two_of_toList hl, h1, h2⟩

theorem len_ok (hC : CtxOk C P) {ats : Array TypeId} {ty : TypeId} {args args' : Array Value} {v : Value} (ha : VRL g args.toList args'.toList) (e : lenV C ats args = some v) :
    ∃ v', (Builtin.len_ ats ty args').run P w = .ok v' w ∧ VR g v v' := by
  unfold lenV at e
  split at e
  · rename_i t0 x hat hx
    have := one_of_toList hat
    subst this
    obtain ⟨x', rfl, rx⟩ := one_rel hx ha
    split at e
    · rename_i s hu
      cases e
      rw [rx.string_inv]
      exact ⟨_, by simp [Builtin.len_, run_underlying hC hu, goInt], .int _ _⟩
    · rename_i n el hu
      cases e
      exact ⟨_, by simp [Builtin.len_, run_underlying hC hu, goInt], .int _ _⟩
    · rename_i el b n c hu
      cases e
      have : ∃ b' c', x' = .slice b' n c' := by
        cases rx with
        | nilSlice => exact ⟨_, _, rfl⟩
        | emptySlice => exact ⟨_, _, rfl⟩
        | slice => exact ⟨_, _, rfl⟩
      obtain ⟨b', c', rfl⟩ := this
      exact ⟨_, by simp [Builtin.len_, run_underlying hC hu, goInt], .int _ _⟩
    · cases e
  · cases e

theorem max_ok {ats : Array TypeId} {ty : TypeId} {args args' : Array Value} {v : Value} (ha : VRL g args.toList args'.toList) (e : maxV args = some v) :
    ∃ v', (Builtin.max_ ats ty args').run P w = .ok v' w ∧ VR g v v' := by
  unfold maxV at e
  split at e
  · rename_i k x k' y hx
    obtain ⟨x', y', rfl, rx, ry⟩ := two_rel hx ha
    cases e
    rw [rx.int_inv, ry.int_inv]
    exact ⟨_, run_max_int2 w ats ty k k' x y, .int _ _⟩
  · cases e

theorem min_ok {ats : Array TypeId} {ty : TypeId} {args args' : Array Value} {v : Value} (ha : VRL g args.toList args'.toList) (e : minV args = some v) :
    ∃ v', (Builtin.min_ ats ty args').run P w = .ok v' w ∧ VR g v v' := by
  unfold minV at e
  split at e
  · rename_i k x k' y hx
    obtain ⟨x', y', rfl, rx, ry⟩ := two_rel hx ha
    cases e
    rw [rx.int_inv, ry.int_inv]
    exact ⟨_, run_min_int2 w ats ty k k' x y, .int _ _⟩
  · cases e

theorem copy_ok (hC : CtxOk C P) {ats : Array TypeId} {ty : TypeId} {args args' : Array Value} {v : Value} (hw : WR g h w) (ha : VRL g args.toList args'.toList) (e : copyV C ats args h = some (v, h')) :
    ∃ w' v', (Builtin.copy_ ats ty args').run P w = .ok v' w' ∧ VR g v v' ∧ WR g h' w' ∧ Ext g h w g h' w' := by
  unfold copyV at e
  split at e
  · rename_i dt ats' base n cap x hat hargs
    obtain ⟨d', x', rfl, rd, rx⟩ := two_rel hargs ha
    have hat0 : ats[0]? = some dt := by
      have : ats.toList[0]? = some dt := by rw [hat]; rfl
      simpa using this
    split at e
    · rename_i el hu
      split at e
      · rename_i sz m hsz hm
        simp only at e
        split at e
        · rename_i src b off hsrc
          obtain ⟨_, x0, c', hg, hcap, rfl⟩ := rd.slice_inv
          split at e
          · rename_i B hB
            split at e
            · rename_i l hl
              cases e
              obtain ⟨y, hy, br⟩ := hw.live b B hB
              rw [hg] at hy; cases hy
              obtain ⟨c, cel, fr, f1, f2, f3, f4⟩ := br.ex
              have hS : ∃ news : List Value, (Builtin.lenOf x').run P w = .ok m w ∧ (Builtin.firstCells sz (Nat.min m n) x').run P w = .ok news.toArray w ∧ VRL g src news := by
                split at hsrc
                · cases hsrc
                  simp only at hm
                  cases hm
                  rcases rx.sliceN_inv with ⟨_, ⟨rfl, rfl⟩ | ⟨rfl, a', c', rfl⟩⟩
                  · exact ⟨[], rfl, rfl, .nil⟩
                  · refine ⟨[], rfl, ?_, .nil⟩
                    cases a' with
                    | none => rfl
                    | some ad => simp [Builtin.firstCells, loadCells, loadCellsFrom, Nat.min]
                · rename_i b2 off2 n2 c2
                  simp only at hm
                  cases hm
                  obtain ⟨_, x2, c2', hg2, _, rfl⟩ := rx.slice_inv
                  simp only [Option.bind_eq_some_iff] at hsrc
                  obtain ⟨B2, hB2, hcut⟩ := hsrc
                  obtain ⟨y2, hy2, br2⟩ := hw.live b2 B2 hB2
                  rw [hg2] at hy2; cases hy2
                  obtain ⟨l', hl', rel⟩ := run_loadCells_rel (P := P) br2 hcut
                  exact ⟨l', rfl, by simpa [Builtin.firstCells] using hl', rel⟩
                · cases hsrc
              obtain ⟨news, q1, q2, q3⟩ := hS
              obtain ⟨e1, e2, e3, e4⟩ := paste_spec _ _ _ _ hl
              have hnl := q3.length
              have hone : ∀ u ∈ news, u.oneCell' = true := src_cells q3 (by rw [List.all_eq_true]; exact e3)
              obtain ⟨w', cc', hrun, hwr⟩ := run_storeCells_block (P := P) (off := off) news 0 w c f1 (by
                intro hne
                have hsne : src ≠ [] := by
                  rintro rfl
                  apply hne
                  cases news with
                  | nil => rfl
                  | cons _ _ => simp at hnl
                have := e2 hsne
                have := br.le
                have := br.len
                omega) (by rw [f2]; exact f3) hone
              obtain ⟨r1, r2⟩ := hw.wrote hB hg f1 hl q3 (by simpa using hwr)
              refine ⟨w', .int .i64 (Nat.min m n), ?_, .int _ _, r1, r2⟩
              simp [Builtin.copy_, hat0, run_underlying hC hu, q1, run_sizeOf hC hsz, q2, hrun, goInt]
            · cases e
          · cases e
        · cases e
      · cases e
    · cases e
  · cases e

end
end Ev
namespace Ev
open Go

section
variable {C : Ctx} {P : Program} {g : Gh} {h h' : Hp} {w : World} {t : Tr Value} {a : Act}

theorem vhres_inv {x : Option (Value × Hp)} {r : AR} (e : vhres x = some (r, h')) : ∃ v, x = some (v, h') ∧ r = .val v := by
  unfold vhres at e
  split at e
  · cases e; exact ⟨_, rfl, rfl⟩
  · cases e

theorem alloc_ok' {ty : TypeId} {v v' : Value} {r : AR} (hw : WR g h w) (hf : Fr g h h') (hv : VR g v v') (e : opAlloc h (some v) = some (r, h')) :
    OpOk P (do pure (Next.value (.pointer (some (← newVar ty v')))) : Sem Next) g h w r h' := by
  simp only [opAlloc] at e
  cases hn : newB h ⟨v.cells.toList, 0, false⟩ with
  | none => rw [hn] at e; cases e
  | some x =>
    obtain ⟨i, h1⟩ := x
    rw [hn] at e
    cases e
    obtain ⟨g', w', p', q1, q2, q3, q4⟩ := box_ok (P := P) (ty := ty) hw hf hv hn
    refine ⟨g', w', p', ?_, q2, q3, q4⟩
    have := run_v q1
    simpa using this

theorem callO_inv {f : Option Value} {args : List Value} {r : AR} (e : callO h f args = some (r, h')) :
    h' = h ∧ ∃ k first cap, f = some (.func (.func k) first cap) ∧ r = .call k (first ++ args.toArray ++ cap) := by
  unfold callO at e
  split at e
  · rename_i f0
    simp only [Option.map_eq_some_iff] at e
    obtain ⟨r0, hr0, e⟩ := e
    cases e
    unfold callV at hr0
    split at hr0
    · cases hr0; exact ⟨rfl, _, _, _, rfl, rfl⟩
    · cases hr0
  · cases e

set_option maxHeartbeats 600000 in
theorem aop_ok (hC : CtxOk C P) {o : Oper} {r : AR} (ht : TR g t a.tmps) (hw : WR g h w) (hf : Fr g h h') (e : aop C o t h = some (r, h')) :
    OpOk P (execOp a.eval o) g h w r h' := by
  obtain ⟨dst, op, ty0, pos, after, guard⟩ := o
  have ho : ∀ x (u : Value), opd t x = some u → VR g u (a.eval x) := fun x u hu => opd_rel ht hu
  unfold aop at e
  simp only at e
  cases op
  case move x =>
    obtain ⟨v, hv, rfl, rfl⟩ := vres_inv (show vres h (opd t x) = _ from e)
    exact OpOk.pure hw rfl (ho x v hv)
  case assign x =>
    obtain ⟨v, hv, rfl, rfl⟩ := vres_inv (show vres h (opd t x) = _ from e)
    exact OpOk.pure hw rfl (ho x v hv)
  case pick c x y =>
    obtain ⟨v, hv, rfl, rfl⟩ := vres_inv (show vres h (pickV (opd t c) (opd t x) (opd t y)) = _ from e)
    obtain ⟨v', h1, h2⟩ := pick_ok (P := P) (w := w) ht hv
    exact OpOk.pure hw h1 h2
  case alloc el =>
    have e' : opAlloc h (zeroT C el) = some (r, h') := e
    cases hz : zeroT C el with
    | none => rw [hz] at e'; cases e'
    | some z =>
      rw [hz] at e'
      have hzv : ∃ z', (zeroValue el).run P w = .ok z' w ∧ z' = z := ⟨z, run_zeroValue hC hz w, rfl⟩
      have := alloc_ok' (P := P) (ty := el) (v := .agg z.cells) (v' := .agg z.cells) hw hf (.agg _ _ (zeros_closed (hC.zc _ z hz))) (by simpa [opAlloc, Value.cells] using e')
      unfold OpOk at this ⊢
      have hrun : (execOp a.eval ⟨dst, .alloc el, ty0, pos, after, guard⟩).run P w = (do pure (Next.value (.pointer (some (← newVar el (.agg z.cells))))) : Sem Next).run P w := by
        simp [execOp, Instr.alloc, run_zeroValue hC hz, newVar, Value.cells]
      cases r <;> simp only [hrun] <;> exact this
  case box el x =>
    have e' : opAlloc h (opd t x) = some (r, h') := e
    cases hx : opd t x with
    | none => rw [hx] at e'; cases e'
    | some v =>
      rw [hx] at e'
      have := alloc_ok' (P := P) (ty := el) hw hf (ho x v hx) e'
      unfold OpOk at this ⊢
      have hrun : (execOp a.eval ⟨dst, .box el x, ty0, pos, after, guard⟩).run P w = (do pure (Next.value (.pointer (some (← newVar el (a.eval x))))) : Sem Next).run P w := by
        simp [execOp, Instr.box]
      cases r <;> simp only [hrun] <;> exact this
  case build ty ps =>
    have e' : opBuild C h ty (parts t ps.toList) = some (r, h') := e
    cases hp : parts t ps.toList with
    | none => rw [hp] at e'; cases e'
    | some vs =>
      rw [hp] at e'
      obtain ⟨v, hv, rfl, rfl⟩ := vres_inv (show vres h (buildV C ty vs) = _ from e')
      have hrel := parts_rel ht hp
      obtain ⟨v', h1, h2⟩ := build_ok (P := P) (w := w) hC (ps' := ps.map fun p => (p.1, a.eval p.2)) (by simpa using hrel) hv
      exact OpOk.pure hw (run_v h1) h2
  case buildSlice ty len ps =>
    have e' : opBuildSlice C h len (und C ty) (parts t ps.toList) = some (r, h') := e
    have q := buildSlice_ok (P := P) hC (vs' := ps.map fun p => (p.1, a.eval p.2)) hw hf (fun u hu => by simpa using parts_rel ht hu) e'
    have hx : execOp a.eval ⟨dst, .buildSlice ty len ps, ty0, pos, after, guard⟩ = (do pure (Next.value (← Instr.buildSlice ty len (ps.map fun p => (p.1, a.eval p.2)))) : Sem Next) := by
      unfold execOp
      rfl
    rw [hx]
    exact q
  case load ty x =>
    have e' : opLoad C h ty (opd t x) = some (r, h') := e
    cases hx : opd t x with
    | none => rw [hx] at e'; cases e'
    | some p =>
      rw [hx] at e'
      obtain ⟨v, hv, rfl, rfl⟩ := vres_inv (show vres h (loadV C h ty p) = _ from e')
      obtain ⟨v', h1, h2⟩ := load_ok (P := P) hw (ho x p hx) hC hv
      exact OpOk.pure hw (run_v h1) h2
  case store ty x y =>
    have e' : opStore C h ty (opd t x) (opd t y) = some (r, h') := e
    cases hx : opd t x with
    | none => rw [hx] at e'; cases e'
    | some p =>
      cases hy : opd t y with
      | none => rw [hx, hy] at e'; cases e'
      | some v =>
        rw [hx, hy] at e'
        have e'' : skres (storeV C h ty p v) = some (r, h') := e'
        cases hs : storeV C h ty p v with
        | none => rw [hs] at e''; cases e''
        | some h1 =>
          rw [hs] at e''
          cases e''
          obtain ⟨w', q1, q2, q3⟩ := store_ok (P := P) hw (ho x p hx) (ho y v hy) hC hs
          exact ⟨g, w', by simp [execOp, q1], q2, q3⟩
  case nilCheck x =>
    obtain ⟨v, hv, rfl, rfl⟩ := vres_inv (show vres h (nilV (opd t x)) = _ from e)
    unfold nilV at hv
    split at hv
    · rename_i ad hx
      cases hv
      obtain ⟨i, off, sp⟩ := ad
      have rr := ho x _ hx
      obtain ⟨rfl, x0, hg, hv'⟩ := rr.ptr_inv
      exact OpOk.pure hw (by simp only [execOp, hv']; rfl) (.ptr i off x0 hg)
    · rename_i f b c hx
      cases hv
      have rr := ho x _ hx
      obtain ⟨b', c', hv', hb, hc⟩ := rr.func_inv
      exact OpOk.pure hw (by simp only [execOp, hv']; rfl) (.func _ _ _ _ _ hb hc)
    · cases hv
  case binOp op ty x y yt =>
    obtain ⟨v, hv, rfl, rfl⟩ := vres_inv (show vres h (opBin2 C op ty x y (opd t x) (opd t y)) = _ from e)
    have hx : execOp a.eval ⟨dst, .binOp op ty x y yt, ty0, pos, after, guard⟩ =
      (do pure (Next.value (← (do eqGuard op ty x y (a.eval x) (a.eval y); binOp op ty (a.eval x) (a.eval y) : Sem Value))) : Sem Next) := rfl
    unfold opBin2 at hv
    split at hv
    · rename_i h1 h2
      cases hcst : (isConst x || isConst y) with
      | false => rw [hcst] at hv; cases hv
      | true =>
        rw [hcst] at hv
        simp only [cond_true] at hv
        have e1 := (ho x _ h1).nilIface_inv
        have e2 := (ho y _ h2).nilIface_inv
        obtain ⟨q1, q2⟩ := nil_eq_ok (P := P) (w := w) hC hcst hv
        have q3 := run_v q1
        rw [hx, e1, e2]
        exact OpOk.pure hw q3 q2
    rename_i hno
    clear hx
    unfold opBin at hv
    split at hv
    · rename_i u1 u2 h1 h2
      obtain ⟨v', q1, q2⟩ := bin_ok (P := P) (w := w) hC (ox := x) (oy := y) (ho x _ h1) (ho y _ h2) hv
      have q3 := run_v q1
      have hx : execOp a.eval ⟨dst, .binOp op ty x y yt, ty0, pos, after, guard⟩ =
        (do pure (Next.value (← (do eqGuard op ty x y (a.eval x) (a.eval y); binOp op ty (a.eval x) (a.eval y) : Sem Value))) : Sem Next) := rfl
      rw [hx]
      exact OpOk.pure hw q3 q2
    · cases hv
  case unOp op ty x =>
    obtain ⟨v, hv, rfl, rfl⟩ := vres_inv (show vres h (unV op (opd t x)) = _ from e)
    obtain ⟨v', q1, q2⟩ := un_ok (P := P) (w := w) (x' := a.eval x) (fun u hu => ho x u hu) hv
    exact OpOk.pure hw (run_v q1) q2
  case convert src dst' x =>
    have e' : opConv C src dst' h (opd t x) = some (r, h') := e
    cases hx : opd t x with
    | none => rw [hx] at e'; cases e'
    | some v =>
      rw [hx] at e'
      obtain ⟨u, hu, rfl⟩ := vhres_inv (show vhres (convV C src dst' v h) = _ from e')
      exact conv_ok (P := P) hC hw hf (ho x v hx) hu
  case makeInterface ty x =>
    obtain ⟨v, hv, rfl, rfl⟩ := vres_inv (show vres h (ifaceV ty (und C ty) (opd t x)) = _ from e)
    obtain ⟨v', q1, q2⟩ := iface_ok (P := P) (w := w) hC (x' := a.eval x) (fun u hu => ho x u hu) hv
    exact OpOk.pure hw (run_v q1) q2
  case makeFunc fn first cap =>
    obtain ⟨v, hv, rfl, rfl⟩ := vres_inv (show vres h (funV fn (opds t first.toList) (opds t cap.toList)) = _ from e)
    unfold funV at hv
    split at hv
    · rename_i u1 u2 h1 h2
      cases hv
      refine OpOk.pure (v' := .func fn (first.map a.eval) (cap.map a.eval)) hw rfl (.func _ _ _ _ _ ?_ ?_)
      · simpa using opds_rel ht h1
      · simpa using opds_rel ht h2
    · cases hv
  case makeSlice ty x y =>
    have e' : mkSlice C h (und C ty) (opd t x) (opd t y) = some (r, h') := e
    exact mkSlice_ok (P := P) hC hw hf (fun u hu => ho x u hu) (fun u hu => ho y u hu) e'
  case slice ty x lo hi mx =>
    obtain ⟨v, hv, rfl, rfl⟩ := vres_inv (show vres h (opSlice C h ty (opd t x) (optV opd t lo) (optV opd t hi) (optV opd t mx)) = _ from e)
    unfold opSlice at hv
    split at hv
    · rename_i u l0 h0 m0 h1 h2 h3 h4
      obtain ⟨v', q1, q2⟩ := slice_ok (P := P) hC hw (ho x u h1) (optV_rel ht h2) (optV_rel ht h3) (optV_rel ht h4) hv
      exact OpOk.pure hw (run_v q1) q2
    · cases hv
  case fieldAddr s x k =>
    obtain ⟨v, hv, rfl, rfl⟩ := vres_inv (show vres h (opFieldAddr C k (und C s) (opd t x)) = _ from e)
    obtain ⟨v', q1, q2⟩ := fieldAddr_ok (P := P) (w := w) hC (x' := a.eval x) (fun u hu => ho x u hu) hv
    exact OpOk.pure hw (run_v q1) q2
  case field s x k =>
    obtain ⟨v, hv, rfl, rfl⟩ := vres_inv (show vres h (opField C k (und C s) (opd t x)) = _ from e)
    obtain ⟨v', q1, q2⟩ := field_ok (P := P) (w := w) hC (x' := a.eval x) (fun u hu => ho x u hu) hv
    exact OpOk.pure hw (run_v q1) q2
  case indexAddr ty x i =>
    obtain ⟨v, hv, rfl, rfl⟩ := vres_inv (show vres h (opIndexAddr C (und C ty) (opd t x) (opd t i)) = _ from e)
    obtain ⟨v', q1, q2⟩ := indexAddr_ok (P := P) (w := w) hC (x' := a.eval x) (i' := a.eval i) (fun u hu => ho x u hu) (fun u hu => ho i u hu) hv
    exact OpOk.pure hw (run_v q1) q2
  case index ty x i =>
    obtain ⟨v, hv, rfl, rfl⟩ := vres_inv (show vres h (opIndex C (und C ty) (opd t x) (opd t i)) = _ from e)
    obtain ⟨v', q1, q2⟩ := index_ok (P := P) (w := w) hC (x' := a.eval x) (i' := a.eval i) (fun u hu => ho x u hu) (fun u hu => ho i u hu) hv
    exact OpOk.pure hw (run_v q1) q2
  case typeAssert x xT ty ok =>
    obtain ⟨v, hv, rfl, rfl⟩ := vres_inv (show vres h (opAssert ty ok (und C ty) (opd t x)) = _ from e)
    obtain ⟨v', q1, q2⟩ := assert_ok (P := P) (w := w) hC (xT := xT) (x' := a.eval x) (fun u hu => ho x u hu) hv
    exact OpOk.pure hw (run_v q1) q2
  case extract x k =>
    obtain ⟨v, hv, rfl, rfl⟩ := vres_inv (show vres h (opExtract k (opd t x)) = _ from e)
    obtain ⟨v', q1, q2⟩ := extract_ok (P := P) (w := w) (x' := a.eval x) (fun u hu => ho x u hu) hv
    exact OpOk.pure hw (run_v q1) q2
  case panic x =>
    have e' : opPanic h (opd t x) = some (r, h') := e
    unfold opPanic at e'
    split at e'
    · rename_i ty u hx
      cases e'
      obtain ⟨u', hu', rr⟩ := (ho x _ hx).iface_inv
      refine ⟨rfl, .iface ty u', .iface _ _ _ rr, ?_⟩
      simp [execOp, hu', Instr.panic]
    · cases e'
  case call c =>
    have e' : opCall C t h c.callee c.argTypes (opds t c.args.toList) = some (r, h') := e
    cases ha : opds t c.args.toList with
    | none => rw [ha] at e'; cases e'
    | some args =>
      rw [ha] at e'
      have hrel : VRL g args.toArray.toList (c.args.map a.eval).toList := by simpa using opds_rel ht ha
      unfold opCall at e'
      simp only at e'
      split at e'
      · rename_i b hcal
        obtain ⟨v, hv, rfl⟩ := vhres_inv e'
        have hexec : execOp a.eval ⟨dst, .call c, ty0, pos, after, guard⟩ = builtin b c.argTypes ty0 (c.args.map fun | .const _ => true | _ => false) (c.args.map a.eval) := by
          simp only [execOp, resolve, hcal]; rfl
        rw [hexec]
        cases b <;> simp only [builtinV] at hv <;> first
          | (cases hv; done)
          | skip
        · obtain ⟨g', w', v', q1, q2, q3, q4⟩ := append_ok (P := P) (ty := ty0) hC hw hf hrel hv
          exact ⟨g', w', v', run_v q1, q2, q3, q4⟩
        · obtain ⟨w', v', q1, q2, q3, q4⟩ := copy_ok (P := P) (ty := ty0) hC hw hrel hv
          exact ⟨g, w', v', run_v q1, q2, q3, q4⟩
        · simp only [Option.map_eq_some_iff] at hv
          obtain ⟨u, hu, hv⟩ := hv
          cases hv
          obtain ⟨v', q1, q2⟩ := len_ok (P := P) (w := w) (ty := ty0) hC hrel hu
          exact OpOk.pure hw (run_v q1) q2
        · simp only [Option.map_eq_some_iff] at hv
          obtain ⟨u, hu, hv⟩ := hv
          cases hv
          obtain ⟨v', q1, q2⟩ := max_ok (P := P) (w := w) (ty := ty0) (ats := c.argTypes) hrel hu
          exact OpOk.pure hw (run_v q1) q2
        · simp only [Option.map_eq_some_iff] at hv
          obtain ⟨u, hu, hv⟩ := hv
          cases hv
          obtain ⟨v', q1, q2⟩ := min_ok (P := P) (w := w) (ty := ty0) (ats := c.argTypes) hrel hu
          exact OpOk.pure hw (run_v q1) q2
      · rename_i f hcal
        obtain ⟨rfl, k, first, cap, hf', rfl⟩ := callO_inv e'
        obtain ⟨first', cap', hv', hfi, hca⟩ := (ho f _ hf').func_inv
        refine ⟨rfl, first' ++ c.args.map a.eval ++ cap', ?_, ?_⟩
        · simp only [Array.toList_append]
          exact (hfi.append hrel).append hca
        · simp [execOp, resolve, hcal, hv', Deferred.ofValue, invoke]
      · cases e'
  all_goals (exact absurd e (by simp [aopSel, x_none]))

end
end Ev
