import Derived.Test.YtjgbkacigiidmaaGreatEvE
import Derived.Laws.Build
namespace Ev
open Go

theorem VRL.set {g : Gh} : ∀ {l l' : List Value}, VRL g l l' → ∀ {k : Nat} {v v' : Value}, VR g v v' → VRL g (l.set k v) (l'.set k v')
  | _, _, .nil, k, v, v', _ => by simpa using .nil
  | _, _, .cons hv t, 0, v, v', h => .cons h t
  | _, _, .cons hv t, k + 1, v, v', h => .cons hv (VRL.set t h)

theorem fold_rel {g : Gh} (off : Nat) : ∀ {l l' : List Value} (n : Nat) {cs cs' : Array Value}, VRL g l l' → VRL g cs.toList cs'.toList →
    VRL g ((l.zipIdx n).foldl (fun (cs : Array Value) (x : Value × Nat) => cs.setIfInBounds (off + x.2) x.1) cs).toList
      ((l'.zipIdx n).foldl (fun (cs : Array Value) (x : Value × Nat) => cs.setIfInBounds (off + x.2) x.1) cs').toList
  | [], _, n, cs, cs', .nil, h => by simpa using h
  | _ :: _, _, n, cs, cs', .cons hv t, h => by
    simp only [List.zipIdx_cons, List.foldl_cons]
    refine fold_rel off (n + 1) t ?_
    simp only [Array.toList_setIfInBounds]
    exact VRL.set h hv

theorem fill_rel {g : Gh} (place : Nat → Option (Nat × Nat)) : ∀ {ps ps' : List (Nat × Value)} {cs cs' r : Array Value}, VRP g ps ps' → VRL g cs.toList cs'.toList →
    Instr.fill place cs ps = some r → ∃ r', Instr.fill place cs' ps' = some r' ∧ VRL g r.toList r'.toList
  | [], _, cs, cs', r, .nil, hc, h => by simp [Instr.fill] at h; subst h; exact ⟨cs', by simp [Instr.fill], hc⟩
  | (i, v) :: ps, _, cs, cs', r, .cons (v' := v') (l' := ps') hv t, hc, h => by
    simp only [Instr.fill] at h ⊢
    cases hp : place i with
    | none => rw [hp] at h; cases h
    | some os =>
      obtain ⟨off, size⟩ := os
      rw [hp] at h
      have e1 := hv.cells_size
      have e2 : cs'.size = cs.size := by have := hc.length; simpa using this.symm
      simp only [e1, e2] at h ⊢
      split at h
      · cases h
      · rename_i hn
        rw [if_neg hn]
        refine fill_rel place t ?_ h
        have := fold_rel (g := g) off 0 hv.cells hc
        rw [← Array.foldl_toList, ← Array.foldl_toList, Array.toList_zipIdx, Array.toList_zipIdx]
        exact this

theorem zeros_closed {g : Gh} : ∀ {l : List Value}, l.all closedV = true → VRL g l l
  | [], _ => .nil
  | v :: l, h => by simp at h; exact .cons (VR.of_closed h.1) (zeros_closed (by simpa using h.2))

section
variable {C : Ctx} {P : Program} {g : Gh} {w : World}

theorem places_eq : ∀ (fs : List Field) {pl : List (Nat × Nat)}, (∀ t i, C.ty.get t = some i → P.info? t = some i) → places C fs = some pl →
    fs.mapM (fun f => (P.info? f.type).map fun i => (f.offset, i.size)) = some pl
  | [], pl, _, h => by simp [places] at h; subst h; rfl
  | f :: fs, pl, hC, h => by
    simp only [places] at h
    split at h
    · rename_i n r h1 h2
      cases h
      simp only [sizeT, Option.map_eq_some_iff] at h1
      obtain ⟨i, hi, rfl⟩ := h1
      simp [List.mapM_cons, hC _ _ hi, places_eq fs hC h2]
    · cases h


theorem build_ok (hC : CtxOk C P) {ty : TypeId} {ps : List (Nat × Value)} {ps' : Array (Nat × Value)} {v : Value} (hp : VRP g ps ps'.toList) (h : buildV C ty ps = some v) : ∃ v', (Instr.build ty ps').run P w = .ok v' w ∧ VR g v v' := by
  unfold buildV at h
  split at h
  · rename_i z fields h1 h2
    have hz' : VRL g z.cells.toList z.cells.toList := zeros_closed (hC.zc _ z h1)
    split at h
    · rename_i pl hpl
      simp only [Option.map_eq_some_iff] at h
      obtain ⟨r, hr, rfl⟩ := h
      obtain ⟨r', hr', hrel⟩ := fill_rel _ hp hz' hr
      obtain ⟨i, hi, hzi⟩ := zero_ok hC h1
      refine ⟨.agg r', ?_, .agg _ _ hrel⟩
      refine run_build w ty ps' r' ?_
      unfold Program.built
      simp only [hi, und_ok hC h2, hzi, places_eq fields.toList hC.ty hpl]
      simpa using hr'
    · cases h
  · rename_i z n e h1 h2
    have hz' : VRL g z.cells.toList z.cells.toList := zeros_closed (hC.zc _ z h1)
    split at h
    · rename_i sz hsz
      simp only [Option.map_eq_some_iff] at h
      obtain ⟨r, hr, rfl⟩ := h
      obtain ⟨r', hr', hrel⟩ := fill_rel _ hp hz' hr
      obtain ⟨i, hi, hzi⟩ := zero_ok hC h1
      obtain ⟨ie, hie, rfl⟩ := size_ok hC hsz
      refine ⟨.agg r', ?_, .agg _ _ hrel⟩
      refine run_build w ty ps' r' ?_
      unfold Program.built
      simp only [hi, und_ok hC h2, hzi, hie]
      exact hr'
    · cases h
  · cases h

theorem part_ok (hC : CtxOk C P) {ty : TypeId} {cs cs' : Array Value} {off : Nat} {v : Value} (hcs : VRL g cs.toList cs'.toList) (h : partV C ty cs off = some v) :
    ∃ v', (part ty cs' off).run P w = .ok v' w ∧ VR g v v' := by
  unfold partV at h
  split at h
  · rename_i d hd
    cases ha : isAggD d with
    | true =>
      rw [ha] at h
      simp only [cond_true, Option.map_eq_some_iff] at h
      obtain ⟨n, hn, rfl⟩ := h
      refine ⟨.agg (cs'.extract off (off + n)), ?_, .agg _ _ ?_⟩
      · simp [part, run_isAgg hC hd, ha, run_sizeOf hC hn]
      · have := (hcs.drop off).take n
        simp only [Array.toList_extract]
        simpa [List.extract_eq_take_drop] using this
    | false =>
      rw [ha] at h
      simp only [cond_false] at h
      obtain ⟨v', hv', r⟩ := hcs.get (k := off) (v := v) (by simpa using h)
      refine ⟨v', ?_, r⟩
      have hv'' : cs'[off]? = some v' := by simpa using hv'
      simp [part, run_isAgg hC hd, ha, hv'']
  · cases h

end

end Ev
