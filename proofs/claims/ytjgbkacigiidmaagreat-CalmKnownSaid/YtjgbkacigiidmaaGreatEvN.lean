import Derived.Test.YtjgbkacigiidmaaGreatEvM
namespace Ev
open Go

section
variable {C : Ctx} {P : Program} {g : Gh} {h h' : Hp} {w : World} {t : Tr Value} {a : Act}

theorem two_of_toList {α : Type} {l : Array α} {x y : α} (e : l.toList = [x, y]) : l = #[x, y] := by
  apply Array.ext'; simpa using e

theorem one_of_toList {α : Type} {l : Array α} {x : α} (e : l.toList = [x]) : l = #[x] := by
  apply Array.ext'; simpa using e

theorem src_cells {news src : List Value} (hv : VRL g src news) (hs : src.all isCell = true) : ∀ v ∈ news, v.oneCell' = true := by
  intro u hu
  obtain ⟨k, hk⟩ := List.mem_iff_getElem?.1 hu
  have hlen := hv.length
  have hklt : k < src.length := by
    rw [hlen]
    rcases Nat.lt_or_ge k news.length with h' | h'
    · exact h'
    · rw [List.getElem?_eq_none h'] at hk; cases hk
  obtain ⟨u', hu', rr⟩ := hv.get (k := k) (v := src[k]) (List.getElem?_eq_getElem hklt)
  rw [hk] at hu'; cases hu'
  exact isCell_one (by rw [rr.isCell_iff]; exact List.all_eq_true.1 hs _ (List.getElem_mem hklt))

theorem append_ok (hC : CtxOk C P) {ats : Array TypeId} {ty : TypeId} {args args' : Array Value} {v : Value} (hw : WR g h w) (hf : Fr g h h') (ha : VRL g args.toList args'.toList)
    (e : appendV C ats args h = some (v, h')) :
    ∃ g' w' v', (Builtin.append_ ats ty args').run P w = .ok v' w' ∧ VR g' v v' ∧ WR g' h' w' ∧ Ext g h w g' h' w' := by
  unfold appendV at e
  split at e
  · rename_i st xt base n cap x hats hargs
    have hats' := two_of_toList hats
    subst hats'
    rw [hargs] at ha
    have hargs' : ∃ s' x', args' = #[s', x'] ∧ VR g (.slice base n cap) s' ∧ VR g x x' := by
      generalize hl : args'.toList = l at ha
      cases ha with
      | cons h1 t1 => cases t1 with
        | cons h2 t2 => cases t2; exact ⟨_, _, two_of_toList hl, h1, h2⟩
    obtain ⟨s', x', rfl, hs, hx⟩ := hargs'
    split at e
    · rename_i el xd hus hux
      split at e
      · rename_i sz by_ z src m hsz hby hz hsrc
        have hszD : (sizeT C el).getD 0 = sz := by rw [hsz]; rfl
        rw [hszD] at hsrc
        simp only at e
        cases hck : (!(srcDesc xd) || Nat.beq sz 0 || Nat.beq by_ 0 || !(Nat.ble ((n + m) * by_) 1099511627776 && Nat.ble by_ 1048576 && Nat.ble (n + m) 4294967296) || !src.all isCell) with
        | true => rw [hck] at e; cases e
        | false =>
        rw [hck] at e
        simp only [cond_false] at e
        simp only [Bool.or_eq_false_iff, Bool.not_eq_false', Bool.and_eq_true, Nat.ble_eq] at hck
        obtain ⟨⟨⟨⟨k1, k2⟩, k3⟩, ⟨k4, k5⟩, k6⟩, k7⟩ := hck
        have hsz0 : sz ≠ 0 := by rintro rfl; cases k2
        have hby0 : by_ ≠ 0 := by rintro rfl; cases k3
        obtain ⟨it, hit, hits⟩ := size_ok hC hsz
        obtain ⟨it', hit', hitb⟩ := bytes_ok hC hby
        rw [hit] at hit'; cases hit'
        have hzs := hC.zs el z sz hz hsz
        obtain ⟨it', hit', hitz⟩ := zero_ok hC hz
        rw [hit] at hit'; cases hit'
        have hux' := und_ok hC hux
        have hus' := und_ok hC hus
        obtain ⟨news, S⟩ := src_ok (P := P) hw hx hsrc
        have hone := src_cells S.rel k7
        have hnl := S.rel.length
        have hss := S.size
        split at e
        · -- nil
          cases hb : (Nat.beq n 0 && Nat.beq cap 0) with
          | false => rw [hb] at e; cases e
          | true =>
          rw [hb] at e
          simp only [cond_true] at e
          simp only [Bool.and_eq_true] at hb
          have hn0 := Nat.eq_of_beq_eq_true hb.1
          have hc0 := Nat.eq_of_beq_eq_true hb.2
          subst hn0 hc0
          have := (hs.sliceN0_inv).2
          subst this
          cases hm : Nat.beq m 0 with
          | true =>
            have := Nat.eq_of_beq_eq_true hm
            subst this
            rw [hm] at e
            cases e
            exact ⟨g, w, _, run_append_none (w := w) hus' hux' hit hits k1 S, .nilSlice, hw, Ext.refl _ _ _⟩
          | false =>
            have hm0 : m ≠ 0 := by rintro rfl; cases hm
            rw [hm] at e
            simp only [cond_false] at e
            split at e
            · rename_i i h1 hn
              cases e
              obtain ⟨hi, hnx⟩ := newB_next hn
              have hrun := run_append_new (w := w) (ty := ty) (b := none) (n := 0) (c := 0) (old := []) hus' hux' hit hits hitz k1 S (by omega)
                (fun w' _ => by simp [Builtin.firstCells]) (by rw [hitb]; exact k4) (by rw [hitb]; exact hby0)
              have hge := grownCap_ge w (0 + m) 0 el
              obtain ⟨g', r1, r2, r3, _⟩ := (WR.of_same (w' := w.drew) (w := w) rfl hw).alloc
                (w' := w.drew.alloc (.cells (([] ++ news).toArray ++ Builtin.zeroCells z.cells (grownCap w (0 + m) 0 el - (0 + m))) el))
                (csz := news.length + (grownCap w (0 + m) 0 el - (0 + m)) * z.cells.size)
                (c := (([] ++ news).toArray ++ Builtin.zeroCells z.cells (grownCap w (0 + m) 0 el - (0 + m)))) (el := el) hn (hf i (by omega) (by omega)) rfl (by simp) rfl rfl
                (by simp [size_zeroCells]) (by omega) (fun k u hu => by
                  obtain ⟨u', e1, e2⟩ := S.rel.get hu
                  refine ⟨u', ?_, e2⟩
                  rw [Array.getElem?_append_left]
                  · simpa using e1
                  · rcases Nat.lt_or_ge k news.length with h' | h'
                    · simpa using h'
                    · rw [List.getElem?_eq_none h'] at e1; cases e1)
              refine ⟨g', _, _, hrun, ?_, r1, ⟨r2.ge, r2.new, r2.keep, r2.img, r2.size, r2.next, r2.os, r2.out⟩⟩
              rw [Nat.zero_add] at hge ⊢
              refine .slice i 0 m m _ _ r3 (.inr ⟨rfl, by simp; omega, hge, ?_⟩)
              rw [hzs]
              have : m * sz + (grownCap w m 0 el - m) * sz = grownCap w m 0 el * sz := by rw [← Nat.add_mul]; congr 1; omega
              simp only [Nat.zero_add]
              omega
            · cases e
        · rename_i b off
          obtain ⟨_, x0, c', hg, hcap, rfl⟩ := hs.slice_inv
          split at e
          · cases e
          · rename_i B hB
            obtain ⟨y, hy, br⟩ := hw.live b B hB
            rw [hg] at hy; cases hy
            obtain ⟨c, cel, fr, f1, f2, f3, f4⟩ := br.ex
            have hcc := capR_le hcap
            cases hnc : Nat.ble (n + m) cap with
            | true =>
              have hle := Nat.le_of_ble_eq_true hnc
              rw [hnc] at e
              simp only [cond_true] at e
              split at e
              · rename_i l hl
                cases e
                obtain ⟨e1, e2, e3, e4⟩ := paste_spec _ _ _ _ hl
                have hbound : news ≠ [] → off + n * sz + 0 + news.length ≤ c.size := by
                  intro hne
                  have hsne : src ≠ [] := by
                    rintro rfl
                    apply hne
                    cases news with
                    | nil => rfl
                    | cons _ _ => simp at hnl
                  have := e2 hsne
                  have := br.le
                  have := br.len
                  omega
                obtain ⟨w', cc', hrun, hwr⟩ := run_storeCells_block (P := P) (off := off + n * sz) news 0 w c f1 hbound (by rw [f2]; exact f3) hone
                obtain ⟨r1, r2⟩ := hw.wrote hB hg f1 hl S.rel (by simpa using hwr)
                refine ⟨g, w', _, run_append_in (w := w) hus' hux' hit hits k1 S (by omega : n + m ≤ c') (by rw [add_off]; exact hrun), ?_, r1, r2⟩
                exact .slice b off _ _ _ x0 hg hcap
              · cases e
            | false =>
              have hgt : cap < n + m := by
                rcases Nat.lt_or_ge cap (n + m) with h | h
                · exact h
                · rw [Nat.ble_eq_true_of_le h] at hnc; cases hnc
              rw [hnc] at e
              simp only [cond_false] at e
              split at e
              · cases e
              · rename_i old hold
                cases hgs : (B.grown && !(Nat.beq B.sz sz)) with
                | true => rw [hgs] at e; cases e
                | false =>
                rw [hgs] at e
                simp only [cond_false] at e
                have hszx : x0.grown = true → x0.sz = sz := by
                  intro hgr
                  rw [← br.gr] at hgr
                  rw [hgr] at hgs
                  rw [← br.sz]
                  exact Nat.eq_of_beq_eq_true (by simpa using hgs)
                split at e
                · cases e
                · rename_i i h1 hn
                  obtain ⟨hi, hnx⟩ := newB_next hn
                  have hbl := hw.lt_lim hB
                  obtain ⟨old', hold', orel⟩ := run_loadCells_all (P := P) br hold
                  have holdlen := (cut_spec _ _ _ _ hold).2.1
                  have hol' := orel.length
                  -- what a new array brings
                  have fresh : c' < n + m → h'.next = h1.next → ∃ g' w' v', (Builtin.append_ #[st, xt] ty #[.slice (some ⟨x0.b, off, none⟩) n c', x']).run P w = .ok v' w' ∧
                      VR g' (.slice (some ⟨i, 0, none⟩) (n + m) (n + m)) v' ∧ WR g' h1 w' ∧ Ext g h w g' h1 w' := by
                    intro hlt hnext
                    have hrun := run_append_new (w := w) (ty := ty) (b := some ⟨x0.b, off, none⟩) (n := n) (c := c') (old := old') hus' hux' hit hits hitz k1 S hlt
                      (fun w' hh => by simp only [Builtin.firstCells]; exact hold' w' hh) (by rw [hitb]; exact k4) (by rw [hitb]; exact hby0)
                    have hge := grownCap_ge w (n + m) c' el
                    have hrel := orel.append S.rel
                    obtain ⟨g', r1, r2, r3, _⟩ := (WR.of_same (w' := w.drew) (w := w) rfl hw).alloc
                      (w' := w.drew.alloc (.cells ((old' ++ news).toArray ++ Builtin.zeroCells z.cells (grownCap w (n + m) c' el - (n + m))) el))
                      (csz := (old' ++ news).length + (grownCap w (n + m) c' el - (n + m)) * z.cells.size)
                      (c := ((old' ++ news).toArray ++ Builtin.zeroCells z.cells (grownCap w (n + m) c' el - (n + m)))) (el := el) hn (hf i (by omega) (by omega)) rfl (by simp) rfl rfl
                      (by simp [size_zeroCells]) (by rw [hrel.length]; omega) (fun k u hu => by
                        obtain ⟨u', e1, e2⟩ := hrel.get hu
                        refine ⟨u', ?_, e2⟩
                        rw [Array.getElem?_append_left]
                        · simpa using e1
                        · rcases Nat.lt_or_ge k (old' ++ news).length with h' | h'
                          · simpa using h'
                          · rw [List.getElem?_eq_none h'] at e1; cases e1)
                    refine ⟨g', _, _, hrun, ?_, r1, ⟨r2.ge, r2.new, r2.keep, r2.img, r2.size, r2.next, r2.os, r2.out⟩⟩
                    have hlen2 : (old' ++ news).length = (n + m) * sz := by simp [Nat.add_mul]; omega
                    have hlen3 : (old ++ src).length = (n + m) * sz := by simp [Nat.add_mul]; omega
                    refine .slice i 0 (n + m) (n + m) _ _ r3 (.inr ⟨rfl, by simp only [Nat.zero_add]; exact hlen3.symm, hge, ?_⟩)
                    rw [hzs]
                    have : (n + m) * sz + (grownCap w (n + m) c' el - (n + m)) * sz = grownCap w (n + m) c' el * sz := by rw [← Nat.add_mul]; congr 1; omega
                    simp only [Nat.zero_add]
                    omega
                  cases htip : (B.grown && Nat.beq (off + cap * sz) B.cells.length) with
                  | true =>
                    rw [htip] at e
                    simp only [cond_true] at e
                    simp only [Bool.and_eq_true] at htip
                    obtain ⟨hgr, htip⟩ := htip
                    have htip := Nat.eq_of_beq_eq_true htip
                    cases hoff : Nat.beq off 0 with
                    | false => rw [hoff] at e; cases e
                    | true =>
                    have hoff0 := Nat.eq_of_beq_eq_true hoff
                    subst hoff0
                    rw [hoff] at e
                    cases e
                    by_cases hroom : n + m ≤ c'
                    · have hxs := hszx (by rw [← br.gr]; exact hgr)
                      have hcsz : 0 + c' * sz ≤ x0.csz := by
                        rcases hcap with rfl | ⟨_, _, _, h4⟩
                        · omega
                        · rw [hxs] at h4; exact h4
                      have hm1 : n * sz + m * sz = (n + m) * sz := (Nat.add_mul _ _ _).symm
                      have hm2 : (n + m) * sz ≤ c' * sz := Nat.mul_le_mul_right _ hroom
                      obtain ⟨w', cc', hrun, hwr⟩ := run_storeCells_block (P := P) (off := 0 + n * sz) news 0 w c f1 (by intro _; omega) (by rw [f2]; exact f3) hone
                      have hn' : newB h ⟨old ++ src, x0.sz, true⟩ = some (i, h1) := by rw [hxs]; exact hn
                      obtain ⟨g', r1, r2, r3⟩ := hw.grow (m' := n * sz) hB hg f1 hold S.rel (by omega) hn' (hf i (by omega) (by simp only; omega)) (by simpa using hwr)
                      refine ⟨g', w', _, run_append_in (w := w) hus' hux' hit hits k1 S hroom (by rw [add_off]; exact hrun), ?_, r1, r2⟩
                      exact VR.slice i 0 (n + m) (n + m) c' ⟨x0.b, x0.csz, n * sz + src.length, x0.sz, true⟩ r3 (.inr ⟨rfl, by simp only [hxs]; omega, hroom, by simp only [hxs]; exact hcsz⟩)
                    · obtain ⟨g', w', v', q1, q2, q3, q4⟩ := fresh (by omega) rfl
                      exact ⟨g', w', v', q1, q2, q3.kill hbl, q4.kill hbl⟩
                  | false =>
                    rw [htip] at e
                    cases e
                    have hexact : c' = cap := by
                      rcases hcap with h | ⟨g1, g2, _, _⟩
                      · exact h
                      · exfalso
                        have hs1 := hszx g1
                        rw [hs1, ← br.len] at g2
                        rw [← br.gr] at g1
                        rw [g1, beq_true_of g2] at htip
                        cases htip
                    exact fresh (by omega) rfl
        · cases e
      · cases e
    · cases e
  · cases e

end
end Ev
