import Derived.Test.YtjgbkacigiidmaaGreatEvN
namespace Ev
open Go

section
variable {C : Ctx} {P : Program} {g : Gh} {h h' : Hp} {w : World} {t : Tr Value} {a : Act}

theorem one_rel {args args' : Array Value} {x : Value} (hx : args.toList = [x]) (ha : VRL g args.toList args'.toList) : ∃ x', args' = #[x'] ∧ VR g x x' := by
  rw [hx] at ha
  generalize hl : args'.toList = l at ha
  cases ha with
  | cons h1 t1 => cases t1; exact ⟨_, one_of_toList hl, h1⟩

theorem two_rel {args args' : Array Value} {x y : Value} (hx : args.toList = [x, y]) (ha : VRL g args.toList args'.toList) : ∃ x' y', args' = #[x', y'] ∧ VR g x x' ∧ VR g y y' := by
  rw [hx] at ha
  generalize hl : args'.toList = l at ha
  cases ha with
  | cons h1 t1 => cases t1 with
    | cons h2 t2 => cases t2; exact ⟨_, _, two_of_toList hl, h1, h2⟩

theorem len_ok (hC : CtxOk C P) {ats : Array TypeId} {ty : TypeId} {args args' : Array Value} {v : Value} (ha : VRL g args.toList args'.toList) (e : lenV C ats args = some v) :
    ∃ v', (Builtin.len_ ats ty args').run P w = .ok v' w ∧ VR g v v' := by
  unfold lenV at e
  split at e
  · rename_i t0 x hat hx
    have := one_of_toList hat
    subst this
    obtain ⟨x', rfl, rx⟩ := one_rel hx ha
    split at e
    · rename_i s hu
      cases e
      rw [rx.string_inv]
      exact ⟨_, by simp [Builtin.len_, run_underlying hC hu, goInt], .int _ _⟩
    · rename_i n el hu
      cases e
      exact ⟨_, by simp [Builtin.len_, run_underlying hC hu, goInt], .int _ _⟩
    · rename_i el b n c hu
      cases e
      have : ∃ b' c', x' = .slice b' n c' := by
        cases rx with
        | nilSlice => exact ⟨_, _, rfl⟩
        | emptySlice => exact ⟨_, _, rfl⟩
        | slice => exact ⟨_, _, rfl⟩
      obtain ⟨b', c', rfl⟩ := this
      exact ⟨_, by simp [Builtin.len_, run_underlying hC hu, goInt], .int _ _⟩
    · cases e
  · cases e

theorem max_ok {ats : Array TypeId} {ty : TypeId} {args args' : Array Value} {v : Value} (ha : VRL g args.toList args'.toList) (e : maxV args = some v) :
    ∃ v', (Builtin.max_ ats ty args').run P w = .ok v' w ∧ VR g v v' := by
  unfold maxV at e
  split at e
  · rename_i k x k' y hx
    obtain ⟨x', y', rfl, rx, ry⟩ := two_rel hx ha
    cases e
    rw [rx.int_inv, ry.int_inv]
    exact ⟨_, run_max_int2 w ats ty k k' x y, .int _ _⟩
  · cases e

theorem min_ok {ats : Array TypeId} {ty : TypeId} {args args' : Array Value} {v : Value} (ha : VRL g args.toList args'.toList) (e : minV args = some v) :
    ∃ v', (Builtin.min_ ats ty args').run P w = .ok v' w ∧ VR g v v' := by
  unfold minV at e
  split at e
  · rename_i k x k' y hx
    obtain ⟨x', y', rfl, rx, ry⟩ := two_rel hx ha
    cases e
    rw [rx.int_inv, ry.int_inv]
    exact ⟨_, run_min_int2 w ats ty k k' x y, .int _ _⟩
  · cases e

theorem copy_ok (hC : CtxOk C P) {ats : Array TypeId} {ty : TypeId} {args args' : Array Value} {v : Value} (hw : WR g h w) (ha : VRL g args.toList args'.toList) (e : copyV C ats args h = some (v, h')) :
    ∃ w' v', (Builtin.copy_ ats ty args').run P w = .ok v' w' ∧ VR g v v' ∧ WR g h' w' ∧ Ext g h w g h' w' := by
  unfold copyV at e
  split at e
  · rename_i dt ats' base n cap x hat hargs
    obtain ⟨d', x', rfl, rd, rx⟩ := two_rel hargs ha
    have hat0 : ats[0]? = some dt := by
      have : ats.toList[0]? = some dt := by rw [hat]; rfl
      simpa using this
    split at e
    · rename_i el hu
      split at e
      · rename_i sz m hsz hm
        simp only at e
        split at e
        · rename_i src b off hsrc
          obtain ⟨_, x0, c', hg, hcap, rfl⟩ := rd.slice_inv
          split at e
          · rename_i B hB
            split at e
            · rename_i l hl
              cases e
              obtain ⟨y, hy, br⟩ := hw.live b B hB
              rw [hg] at hy; cases hy
              obtain ⟨c, cel, fr, f1, f2, f3, f4⟩ := br.ex
              have hS : ∃ news : List Value, (Builtin.lenOf x').run P w = .ok m w ∧ (Builtin.firstCells sz (Nat.min m n) x').run P w = .ok news.toArray w ∧ VRL g src news := by
                split at hsrc
                · cases hsrc
                  simp only at hm
                  cases hm
                  rcases rx.sliceN_inv with ⟨_, ⟨rfl, rfl⟩ | ⟨rfl, a', c', rfl⟩⟩
                  · exact ⟨[], rfl, rfl, .nil⟩
                  · refine ⟨[], rfl, ?_, .nil⟩
                    cases a' with
                    | none => rfl
                    | some ad => simp [Builtin.firstCells, loadCells, loadCellsFrom, Nat.min]
                · rename_i b2 off2 n2 c2
                  simp only at hm
                  cases hm
                  obtain ⟨_, x2, c2', hg2, _, rfl⟩ := rx.slice_inv
                  simp only [Option.bind_eq_some_iff] at hsrc
                  obtain ⟨B2, hB2, hcut⟩ := hsrc
                  obtain ⟨y2, hy2, br2⟩ := hw.live b2 B2 hB2
                  rw [hg2] at hy2; cases hy2
                  obtain ⟨l', hl', rel⟩ := run_loadCells_rel (P := P) br2 hcut
                  exact ⟨l', rfl, by simpa [Builtin.firstCells] using hl', rel⟩
                · cases hsrc
              obtain ⟨news, q1, q2, q3⟩ := hS
              obtain ⟨e1, e2, e3, e4⟩ := paste_spec _ _ _ _ hl
              have hnl := q3.length
              have hone : ∀ u ∈ news, u.oneCell' = true := src_cells q3 (by rw [List.all_eq_true]; exact e3)
              obtain ⟨w', cc', hrun, hwr⟩ := run_storeCells_block (P := P) (off := off) news 0 w c f1 (by
                intro hne
                have hsne : src ≠ [] := by
                  rintro rfl
                  apply hne
                  cases news with
                  | nil => rfl
                  | cons _ _ => simp at hnl
                have := e2 hsne
                have := br.le
                have := br.len
                omega) (by rw [f2]; exact f3) hone
              obtain ⟨r1, r2⟩ := hw.wrote hB hg f1 hl q3 (by simpa using hwr)
              refine ⟨w', .int .i64 (Nat.min m n), ?_, .int _ _, r1, r2⟩
              simp [Builtin.copy_, hat0, run_underlying hC hu, q1, run_sizeOf hC hsz, q2, hrun, goInt]
            · cases e
          · cases e
        · cases e
      · cases e
    · cases e
  · cases e

end
end Ev
