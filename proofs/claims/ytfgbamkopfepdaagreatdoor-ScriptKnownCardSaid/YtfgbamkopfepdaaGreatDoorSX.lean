import Derived.Test.YtfgbamkopfepdaaGreatDoorEH
import Derived.Test.YtfgbamkopfepdaaGreatDoorSA
import Derived.KernelRfl
import Derived.Test.YtfgbamkopfepdaaGreatDoorShelf
namespace Ev
open Go Go.Proofs

def lib : LibIds where
  join := 42
  split := 30
  pre := 76
  idx := 244
  itoa := 39
  fmt := 44
  atoi := 133
  parse := 137
  tstr := 9

theorem old_grow (w : World) (k : Nat) (os : Array Obj) : Old w (Go.Sort.grow (w.drewN k) os) := by
  refine ⟨?_, ?_, rfl, rfl⟩
  · intro b hb
    show (w.heap ++ os)[b]? = w.heap[b]?
    rw [Array.getElem?_append_left hb]
  · show w.heap.size ≤ (w.heap ++ os).size
    rw [Array.size_append]; omega

theorem old_bytes (w : World) (e : TypeId) (t : ByteArray) : Old w (Lib.bytesWorld w e t) := by
  have h0 : ∀ (u : World) (a : Addr) (n : Nat), w.heap.size ≤ a.block → Old w u → Old w (u.freeze a n) := by
    intro u a n ha hu
    unfold World.freeze
    split
    · exact hu
    · refine ⟨?_, ?_, hu.os, hu.out⟩
      · intro b hb
        simp only [Array.getElem?_modify]
        rw [if_neg (by omega)]
        exact hu.heap b hb
      · simp only [Array.size_modify]; exact hu.size
  unfold Lib.bytesWorld
  refine h0 _ _ _ (Nat.le_refl _) ⟨?_, ?_, rfl, rfl⟩
  · intro b hb
    show (w.heap.push _)[b]? = w.heap[b]?
    rw [Array.getElem?_push, if_neg (by omega)]
  · show w.heap.size ≤ (w.heap.push _).size
    simp

theorem old_or {w w' : World} {e : TypeId} (h : w' = w ∨ ∃ t, w' = Lib.bytesWorld w e t) : Old w w' := by
  rcases h with rfl | ⟨t, rfl⟩
  · exact Old.refl _
  · exact old_bytes _ _ _

theorem tab_is {w : World} (h : ∃ el fr, w.heap[1]? = some (.cells powCells.toArray el fr)) : Lib.TabIs Tryz.prog w "internal/strconv.uint64pow10" .u64 Lib.pow10Tab := by
  obtain ⟨el, fr, h⟩ := h
  have hg : Tryz.prog.globalNamed "internal/strconv.uint64pow10" = some 1 := by kernel_rfl
  unfold Lib.TabIs World.var?
  rw [hg]
  simp only [Option.bind_some, h]
  rfl

theorem syn_eq {x y : Lib.NumEnd Int} (h : Syn x) (hy : Syn y := by trivial) : x = y := by
  cases x <;> first | exact h.elim | (cases y <;> first | exact hy.elim | rfl)

theorem libSpec : LibSpec Tryz.prog lib where
  ent := by
    intro f hf args w
    simp only [lib, List.mem_cons, List.not_mem_nil, or_false] at hf
    rcases hf with rfl | rfl | rfl | rfl | rfl | rfl | rfl | rfl <;> kernel_rfl
  join := fun bk o c xs sep w h1 h2 h3 h4 h5 => (Tryz.strings_Join bk o c xs sep w h1 h2 h3 h4 h5).mono fun e w' h => ⟨h.1, Old.of_below h.2⟩
  join0 := fun a c sep w => (Tryz.strings_Join_none a c sep w).mono fun e w' h => ⟨h.1, h.2 ▸ Old.refl _⟩
  split := fun s sep w hb h1 h3 => let ⟨m, h2⟩ := hb.mx; Tryz.strings_Split s sep m w h1 h2 h3
  pre := fun s p w => (Tryz.strings_HasPrefix s p w).mono fun e w' h => ⟨h.1, h.2 ▸ Old.refl _⟩
  idx := fun s c w => (Tryz.strings_IndexByte s c w).mono fun e w' h => ⟨h.1, h.2 ▸ Old.refl _⟩
  itoa := fun n w h0 h1 ht => (Tryz.strconv_Itoa n h0 h1 w (tab_is ht.pow)).mono fun e w' ⟨h, k, os, hw⟩ => ⟨h, hw ▸ old_grow _ _ _⟩
  fmt := fun n w h0 h1 ht => (Tryz.strconv_FormatInt_10 n h0 h1 w (tab_is ht.pow)).mono fun e w' ⟨h, k, os, hw⟩ => ⟨h, hw ▸ old_grow _ _ _⟩
  atoiOk := fun s v w h1 h2 => (Tryz.strconv_Atoi_ok s (by omega) v h2 w).mono fun e w' h => ⟨h.1, old_or h.2⟩
  atoiSyn := fun s w hb h1 h2 => let ⟨ev, h0, h3⟩ := hb.syn; (Any.strconv_Atoi_syntax Tryz.laysC172 s h1 (syn_eq h2) ev w h3 h0).mono fun e w' ⟨N, h, _, _, hb⟩ => ⟨⟨_, _, h⟩, Old.of_below hb⟩
  atoiRan := fun s w hb h1 h2 => let ⟨ev, h0, h3⟩ := hb.ran; (Tryz.strconv_Atoi_range s h1 h2 ev w h3 h0).mono fun e w' ⟨N, h, _, _, hb⟩ => ⟨⟨_, _, h⟩, Old.of_below hb⟩
  parOk := fun s v w h1 h2 => (Tryz.strconv_ParseInt_10_at64_ok s (by omega) v h2 w).mono fun e w' h => ⟨h.1, old_or h.2⟩
  parSyn := fun s w hb h1 h2 => let ⟨ev, h0, h3⟩ := hb.syn; (Any.strconv_ParseInt_10_at64_syntax Tryz.laysC174 s h1 (syn_eq h2) ev w h3 h0).mono fun e w' ⟨N, h, _, _, hb⟩ => ⟨⟨_, _, h⟩, Old.of_below hb⟩
  parRan := fun s w hb h1 h2 => let ⟨ev, h0, h3⟩ := hb.ran; (Tryz.strconv_ParseInt_10_at64_range s h1 h2 ev w h3 h0).mono fun e w' ⟨N, h, _, _, hb⟩ => ⟨⟨_, _, h⟩, Old.of_below hb⟩
end Ev
