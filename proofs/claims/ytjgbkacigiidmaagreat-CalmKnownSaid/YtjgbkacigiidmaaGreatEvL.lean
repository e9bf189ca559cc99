import Derived.Test.YtjgbkacigiidmaaGreatEvK
import Derived.Laws.BytesString
import Derived.Laws.IdiomStrings
namespace Ev
open Go

section
variable {C : Ctx} {P : Program} {g : Gh} {h h' : Hp} {w : World} {t : Tr Value} {a : Act}

theorem pureOf_map {s : Sem Value} {v : Value} {h0 : Hp} (e : (pureOf s).map (·, h) = some (v, h0)) : pureOf s = some v ∧ h0 = h := by
  cases hs : pureOf s with
  | none => rw [hs] at e; cases e
  | some u => rw [hs] at e; simp at e; exact ⟨by rw [e.1], e.2.symm⟩

theorem bytesL_ok : ∀ {l l' : List Value} {bs : List UInt8}, VRL g l l' → bytesL l = some bs →
    ∃ ns : List Int, l' = ns.map (Value.int .u8) ∧ bs = ns.map fun n => UInt8.ofNat n.toNat
  | [], _, bs, .nil, e => by simp [bytesL] at e; subst e; exact ⟨[], rfl, rfl⟩
  | v :: l, _, bs, .cons (l' := l') hv t, e => by
    cases v with
    | int k n =>
      cases k <;> simp only [bytesL] at e <;> first | (cases e; done) | skip
      simp only [Option.map_eq_some_iff] at e
      obtain ⟨r, hr, rfl⟩ := e
      obtain ⟨ns, rfl, rfl⟩ := bytesL_ok t hr
      exact ⟨n :: ns, by rw [hv.int_inv]; rfl, rfl⟩
    | _ => simp [bytesL] at e

theorem foldl_push (ns : List Int) : ∀ s : ByteArray, ns.foldl (fun r n => r.push (UInt8.ofNat n.toNat)) s = ⟨(s.data.toList ++ ns.map fun n => UInt8.ofNat n.toNat).toArray⟩ := by
  induction ns with
  | nil => intro s; simp
  | cons n ns ih =>
    intro s
    simp only [List.foldl_cons, ih, List.map_cons]
    congr 1
    simp [ByteArray.push]

theorem conv_ok (hC : CtxOk C P) {src dst : TypeId} {x x' v : Value} (hw : WR g h w) (hf : Fr g h h') (hx : VR g x x') (e : convV C src dst x h = some (v, h')) :
    OpOk P (do pure (Next.value (← convert src dst x')) : Sem Next) g h w (.val v) h' := by
  unfold convV at e
  split at e
  · rename_i k1 k k2 n hs hd
    cases e
    rw [hx.int_inv]
    refine OpOk.pure (v' := .int k (k.wrap n)) hw ?_ (by rw [wrapF_eq]; exact .int _ _)
    simp [convert, run_underlying hC hs, run_underlying hC hd, Conv.intToInt]
  · rename_i k1 k k2 n hs hd
    obtain ⟨e1, rfl⟩ := pureOf_map e
    rw [hx.int_inv]
    have hcl : closedV v = true := by simp [Conv.intToFloat, pureOf, pure] at e1; subst e1; rfl
    refine OpOk.pure (v' := v) hw ?_ (VR.of_closed hcl)
    simp [convert, run_underlying hC hs, run_underlying hC hd, pureOf_run e1]
  · rename_i k1 k s b hs hd
    obtain ⟨e1, rfl⟩ := pureOf_map e
    rw [hx.float_inv]
    have hcl : closedV v = true := by
      unfold Conv.floatToInt at e1
      split at e1
      · split at e1
        · simp [pureOf, pure] at e1; subst e1; rfl
        · simp [pureOf, choose, bind, Sem.bind] at e1
      · simp [pureOf, choose, bind, Sem.bind] at e1
    refine OpOk.pure (v' := v) hw ?_ (VR.of_closed hcl)
    simp [convert, run_underlying hC hs, run_underlying hC hd, pureOf_run e1]
  · rename_i s hs hd
    cases e
    rw [hx.string_inv]
    refine OpOk.pure (v' := .string s) hw ?_ (.string s)
    simp [convert, run_underlying hC hs, run_underlying hC hd]
  · rename_i el s hs hd
    rw [hx.string_inv]
    split at e
    · rename_i he
      split at e
      · rename_i i h1 hn
        cases e
        obtain ⟨hi, hnx⟩ := newB_next hn
        have hrun := run_bytes_of_string (P := P) w src dst el s (und_ok hC hs) (und_ok hC hd) (und_ok hC he)
        have hge := grownCap_ge w s.size 0 el
        generalize hcap : grownCap w s.size 0 el = cap at hrun hge
        generalize hc : bytesRow s cap = c at hrun
        have hcs : c.size = cap := by
          subst hc
          have : s.data.size = s.size := rfl
          simp [bytesRow, this]; omega
        have hcell : ∀ (k : Nat) (v : Value), (s.data.toList.map fun b => Value.int .u8 b.toNat)[k]? = some v → ∃ v', c[k]? = some v' ∧ VR g v v' := by
          intro k v hk
          have hcl : closedV v = true := by
            simp only [List.getElem?_map, Option.map_eq_some_iff] at hk
            obtain ⟨b, _, rfl⟩ := hk
            rfl
          refine ⟨v, ?_, VR.of_closed hcl⟩
          have hlt : k < s.size := by
            rcases Nat.lt_or_ge k s.size with h | h
            · exact h
            · rw [List.getElem?_eq_none (by simpa using h)] at hk; cases hk
          subst hc
          have hlt' : k < (Array.map (fun b : UInt8 => Value.int .u8 (b.toNat : Int)) s.data).size := by simpa using hlt
          rw [bytesRow, Array.getElem?_append_left hlt']
          simpa using hk
        obtain ⟨g', r1, r2, r3, _⟩ := (WR.of_same (w' := w.drew) (w := w) rfl hw).alloc (w' := w.drew.alloc (.cells c el (c.size, c.size + 1))) (csz := cap) (c := c) (el := el) hn (hf i (by omega) (by omega)) rfl
          (by intro k hk; simp; omega) rfl rfl hcs (by simp; exact hge) hcell
        refine ⟨g', _, _, run_v hrun, ?_, r1, ⟨r2.ge, r2.new, r2.keep, r2.img, r2.size, r2.next, r2.os, r2.out⟩⟩
        refine .slice i 0 s.size s.size cap _ r3 (.inr ⟨rfl, by simp, hge, by simp⟩)
      · cases e
    · cases e
  · rename_i el c hs hd
    split at e
    · rename_i he
      cases e
      have key : ∀ a' c', (do pure (Next.value (← convert src dst (.slice a' 0 c'))) : Sem Next).run P w = .ok (.value (.string .empty)) w := by
        intro a' c'
        have h1 : (convert src dst (.slice a' 0 c')).run P w = .ok (.string .empty) w := by
          rw [run_convert_bytes_string w src dst el a' 0 c' (und_ok hC hs) (und_ok hC he) (und_ok hC hd)]
          cases a' with
          | none => rfl
          | some ad =>
            rw [run_bytesToString w ad 0 c' [] (by simp [loadCells, loadCellsFrom])]
            rfl
        exact run_v h1
      rcases hx.sliceN_inv with ⟨_, ⟨rfl, rfl⟩ | ⟨rfl, a', c', rfl⟩⟩
      · exact OpOk.pure hw (key _ _) (.string _)
      · exact OpOk.pure hw (key _ _) (.string _)
    · cases e
  · rename_i el b off n c hs hd
    split at e
    · rename_i B he hB
      split at e
      · rename_i l hl
        simp only [Option.map_eq_some_iff] at e
        obtain ⟨bs, hbs, e⟩ := e
        cases e
        obtain ⟨_, x0, c', hg, _, rfl⟩ := hx.slice_inv
        obtain ⟨y, hy, br⟩ := hw.live b B hB
        rw [hg] at hy; cases hy
        obtain ⟨l', hl', rel⟩ := run_loadCells_rel (P := P) br hl
        obtain ⟨ns, rfl, rfl⟩ := bytesL_ok rel hbs
        refine OpOk.pure hw (v' := .string ⟨(ns.map fun n => UInt8.ofNat n.toNat).toArray⟩) ?_ (.string _)
        refine run_v ?_
        rw [run_convert_bytes_string w src dst el _ n c' (und_ok hC hs) (und_ok hC he) (und_ok hC hd), run_bytesToString w _ n c' ns hl', foldl_push]
        rfl
      · cases e
    · cases e
  · cases e

/-- what is appended, and how long it is. -/
structure Src (P : Program) (g : Gh) (w : World) (sz : Nat) (x' : Value) (src : List Value) (m : Nat) (news : List Value) : Prop where
  len : ∀ w' : World, (Builtin.lenOf x').run P w' = .ok m w'
  run : ∀ w' : World, w'.heap = w.heap → (Builtin.firstCells sz m x').run P w' = .ok news.toArray w'
  rel : VRL g src news
  size : src.length = m * sz

theorem src_ok {sz m : Nat} {x x' : Value} {src : List Value} (hw : WR g h w) (hx : VR g x x') (e : srcCells h sz x = some (src, m)) :
    ∃ news, Src P g w sz x' src m news := by
  unfold srcCells at e
  split at e
  · rename_i s
    cases hb : Nat.beq sz 1 with
    | false => rw [hb] at e; cases e
    | true =>
    have hsz1 := Nat.eq_of_beq_eq_true hb
    rw [hb] at e
    cases e
    rw [hx.string_inv]
    refine ⟨s.data.toList.map fun b => .int .u8 b.toNat, ⟨fun w' => rfl, fun w' _ => ?_, zeros_closed ?_, ?_⟩⟩
    · have : s.extract 0 s.size = s := by
        apply ByteArray.ext
        simp
      simp only [Builtin.firstCells, Sem.run_pure, this]
      congr 1
      apply Array.ext'
      simp
    · rw [List.all_eq_true]
      intro v hv
      obtain ⟨b, _, rfl⟩ := List.mem_map.1 hv
      rfl
    · have : s.data.size = s.size := rfl
      rw [hsz1]; simp [this]
  · cases e
    rcases hx.sliceN_inv with ⟨_, ⟨rfl, rfl⟩ | ⟨rfl, a', c', rfl⟩⟩
    · exact ⟨[], ⟨fun w' => rfl, fun w' _ => rfl, .nil, by simp⟩⟩
    · refine ⟨[], ⟨fun w' => rfl, fun w' _ => ?_, .nil, by simp⟩⟩
      cases a' with
      | none => rfl
      | some ad => simp [Builtin.firstCells, loadCells, loadCellsFrom]
  · rename_i b off n c
    obtain ⟨_, x0, c', hg, _, rfl⟩ := hx.slice_inv
    split at e
    · rename_i B hB
      simp only [Option.map_eq_some_iff] at e
      obtain ⟨l, hl, e⟩ := e
      cases e
      obtain ⟨y, hy, br⟩ := hw.live b B hB
      rw [hg] at hy; cases hy
      obtain ⟨l', hl', rel⟩ := run_loadCells_all (P := P) br hl
      exact ⟨l', ⟨fun w' => rfl, fun w' hh => hl' w' hh, rel, (cut_spec _ _ _ _ hl).2.1⟩⟩
    · cases e
  · cases e

end
end Ev
