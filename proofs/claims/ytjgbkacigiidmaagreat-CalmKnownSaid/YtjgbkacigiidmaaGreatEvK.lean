import Derived.Test.YtjgbkacigiidmaaGreatEvJ
namespace Ev
open Go

section
variable {C : Ctx} {P : Program} {g : Gh} {h h' : Hp} {w : World} {t : Tr Value} {a : Act}

theorem newB_next {b : Blk} {i : Nat} (e : newB h b = some (i, h')) : i = h.next ∧ h'.next = h.next + 1 := by
  unfold newB at e
  cases hb : Nat.blt h.next limH <;> rw [hb] at e <;> simp at e
  obtain ⟨rfl, rfl⟩ := e
  exact ⟨rfl, rfl⟩

/-- a row of related cells is made. -/
theorem row_ok {el : TypeId} {i sz : Nat} {gr : Bool} {l : List Value} {c : Array Value} (hw : WR g h w) (hf : Fr g h h') (e : newB h ⟨l, sz, gr⟩ = some (i, h')) (hv : VRL g l c.toList) :
    ∃ g', (newRow el c).run P w = .ok ⟨w.heap.size, 0, none⟩ (w.alloc (.cells c el)) ∧ WR g' h' (w.alloc (.cells c el)) ∧ Ext g h w g' h' (w.alloc (.cells c el)) ∧
      g' i = some ⟨w.heap.size, c.size, l.length, sz, gr⟩ := by
  obtain ⟨hi, hn⟩ := newB_next e
  have hlen := hv.length
  obtain ⟨g', r1, r2, r3, _⟩ := hw.alloc (w' := w.alloc (.cells c el)) (csz := c.size) (c := c) (el := el) e (hf i (by omega) (by omega)) rfl (by simp) rfl rfl rfl
    (by simp at hlen; omega) (fun k u hu => by simpa using hv.get hu)
  exact ⟨g', by simp [newRow], r1, r2, r3⟩

theorem rowOf_rel {z : Array Value} {n : Nat} (hz : z.toList.all closedV = true) (hn : n = 0 ∨ 0 < z.size) : VRL g (rowOf z n).toList (rowOf z n).toList := by
  refine zeros_closed ?_
  rw [List.all_eq_true]
  intro v hv
  simp only [rowOf, Array.toList_map, List.mem_map] at hv
  obtain ⟨k, hk, rfl⟩ := hv
  rcases hn with rfl | hn
  · simp at hk
  · have : k % z.size < z.size := Nat.mod_lt _ hn
    rw [getElem!_pos z _ this]
    exact List.all_eq_true.1 hz _ (by simp)

theorem buildSlice_ok (hC : CtxOk C P) {ty : TypeId} {len : Nat} {vs : Option (List (Nat × Value))} {vs' : Array (Nat × Value)} {r : AR} (hw : WR g h w) (hf : Fr g h h')
    (hv : ∀ u, vs = some u → VRP g u vs'.toList) (e : opBuildSlice C h len (und C ty) vs = some (r, h')) :
    OpOk P (do pure (Next.value (← Instr.buildSlice ty len vs')) : Sem Next) g h w r h' := by
  unfold opBuildSlice at e
  split at e
  · rename_i el vs0 hu
    unfold opBuildSlice2 at e
    split at e
    · rename_i sz z hsz hz
      cases hb : (Nat.beq sz 0 || Nat.blt 16777216 (Nat.mul len sz) || Nat.beq z.cells.size 0) with
      | true => rw [hb] at e; cases e
      | false =>
      rw [hb] at e
      simp only [cond_false] at e
      simp only [Bool.or_eq_false_iff] at hb
      obtain ⟨⟨b1, b2⟩, b3⟩ := hb
      have c1 : sz ≠ 0 := by rintro rfl; cases b1
      have c2 : ¬ len * sz > 2 ^ 24 := by
        intro h
        have : Nat.blt 16777216 (Nat.mul len sz) = true := by rw [Nat.blt_eq]; exact h
        rw [this] at b2; cases b2
      have c3 : 0 < z.cells.size := by
        rcases Nat.eq_zero_or_pos z.cells.size with h | h
        · rw [beq_true_of h] at b3; cases b3
        · exact h
      unfold bslice at e
      split at e
      · rename_i cs hcs
        unfold sres at e
        split at e
        · rename_i i h1 hn
          cases e
          have hzc := hC.zc _ z hz
          have hzeq : (bif Nat.beq (Nat.mul len sz) 0 then (#[] : Array Value) else z.cells) = (if len * sz = 0 then #[] else z.cells) := by
            by_cases h0 : len * sz = 0
            · rw [if_pos h0, beq_true_of (show Nat.mul len sz = 0 from h0)]; rfl
            · rw [if_neg h0, beq_false_of (show Nat.mul len sz ≠ 0 from h0)]; rfl
          rw [hzeq] at hcs
          have hrow : VRL g (rowOf (if len * sz = 0 then #[] else z.cells) (Nat.mul len sz)).toList (rowOf (if len * sz = 0 then #[] else z.cells) (Nat.mul len sz)).toList := by
            refine rowOf_rel ?_ ?_
            · split
              · rfl
              · exact hzc
            · by_cases h0 : len * sz = 0
              · exact .inl h0
              · right; rw [if_neg h0]; exact c3
          obtain ⟨cs', hcs', rel⟩ := fill_rel _ (hv _ rfl) hrow hcs
          obtain ⟨g', q1, q2, q3, q4⟩ := row_ok (P := P) (el := el) (c := cs') hw hf hn rel
          refine ⟨g', _, .slice (some ⟨w.heap.size, 0, none⟩) len len, ?_, ?_, q2, q3⟩
          · have hz' := run_zeroValue hC hz w
            by_cases h0 : len * sz = 0
            · have hcs'' : Instr.fill (fun i => some (i * sz, sz)) (Array.map (fun x => (#[] : Array Value)[x % (#[] : Array Value).size]!) (Array.range (len * sz))) vs'.toList = some cs' := by
                simp only [if_pos h0] at hcs'; exact hcs'
              simp only [Sem.run_bind, Instr.buildSlice, run_underlying hC hu, Result.andThen_ok, run_sizeOf hC hsz, Sem.run_ite, if_neg c2, Sem.run_pure, if_pos h0, hcs'', q1]
            · have hcs'' : Instr.fill (fun i => some (i * sz, sz)) (Array.map (fun x => z.cells[x % z.cells.size]!) (Array.range (len * sz))) vs'.toList = some cs' := by
                simp only [if_neg h0] at hcs'; exact hcs'
              simp only [Sem.run_bind, Instr.buildSlice, run_underlying hC hu, Result.andThen_ok, run_sizeOf hC hsz, Sem.run_ite, if_neg c2, Sem.run_pure, if_neg h0, hz', hcs'', q1]
          · exact .slice i 0 len len len _ q4 (.inl rfl)
        · cases e
      · cases e
    · cases e
  · cases e

theorem mkSlice_ok (hC : CtxOk C P) {ty : TypeId} {l c : Option Value} {l' c' : Value} {r : AR} (hw : WR g h w) (hf : Fr g h h')
    (hl : ∀ u, l = some u → VR g u l') (hc : ∀ u, c = some u → VR g u c') (e : mkSlice C h (und C ty) l c = some (r, h')) :
    OpOk P (do pure (Next.value (← Instr.makeSlice ty l' c')) : Sem Next) g h w r h' := by
  unfold mkSlice at e
  split at e
  · rename_i el k1 l0 k2 c0 hu
    rw [(hl _ rfl).int_inv, (hc _ rfl).int_inv]
    unfold mkSlice2 at e
    split at e
    · rename_i sz by_ z hsz hby hz
      cases hb : (Nat.ble l0 c0 && Nat.ble (Nat.mul by_ c0) 1099511627776 && Nat.ble c0 4294967296 && Nat.blt 0 sz && Nat.blt 0 z.cells.size) with
      | false => rw [hb] at e; cases e
      | true =>
      rw [hb] at e
      simp only [cond_true] at e
      simp only [Bool.and_eq_true, Nat.ble_eq, Nat.blt_eq] at hb
      obtain ⟨⟨⟨⟨b1, b2⟩, b3⟩, b4⟩, b5⟩ := hb
      split at e
      · rename_i i h1 hn
        cases e
        have hzc := hC.zc _ z hz
        have hzeq : (bif Nat.beq (Nat.mul c0 sz) 0 then (#[] : Array Value) else z.cells) = (if c0 * sz = 0 then #[] else z.cells) := by
          by_cases h0 : c0 * sz = 0
          · rw [if_pos h0, beq_true_of (show Nat.mul c0 sz = 0 from h0)]; rfl
          · rw [if_neg h0, beq_false_of (show Nat.mul c0 sz ≠ 0 from h0)]; rfl
        rw [hzeq] at hn
        have hrow : VRL g (rowOf (if c0 * sz = 0 then #[] else z.cells) (Nat.mul c0 sz)).toList (rowOf (if c0 * sz = 0 then #[] else z.cells) (Nat.mul c0 sz)).toList := by
          refine rowOf_rel ?_ ?_
          · split
            · rfl
            · exact hzc
          · by_cases h0 : c0 * sz = 0
            · exact .inl h0
            · right; rw [if_neg h0]; exact b5
        obtain ⟨g', q1, q2, q3, q4⟩ := row_ok (P := P) (el := el) hw hf hn hrow
        refine ⟨g', _, .slice (some ⟨w.heap.size, 0, none⟩) l0 c0, ?_, ?_, q2, q3⟩
        · obtain ⟨inf, hinf, rfl⟩ := run_typeInfo_bytes hC hby w
          have hz' := run_zeroValue hC hz w
          have w1 : IntKind.i64.wrap (Int.ofNat l0) = (l0 : Int) := IntWalk.i64_in (l0 : Int) ⟨by omega, by omega⟩
          have w2 : IntKind.i64.wrap (Int.ofNat c0) = (c0 : Int) := IntWalk.i64_in (c0 : Int) ⟨by omega, by omega⟩
          have hmul : (inf.bytes : Int) * (c0 : Int) ≤ 1099511627776 := by
            have := b2
            have h2 : Nat.mul inf.bytes c0 = inf.bytes * c0 := rfl
            rw [h2] at this
            rw [← Int.natCast_mul]
            generalize inf.bytes * c0 = q at this ⊢
            omega
          have a1 : ¬ (c0 : Int) < 0 := by omega
          have a2 : ¬ (inf.bytes : Int) * (c0 : Int) > 2 ^ 48 := by have : (2 : Int) ^ 48 = 281474976710656 := by decide
                                                                    omega
          have a3 : ¬ (l0 : Int) < 0 := by omega
          have a4 : ¬ (l0 : Int) > (c0 : Int) := by omega
          by_cases h0 : c0 * sz = 0
          · simp only [if_pos h0] at q1 ⊢
            have q1' : (newRow el (Array.map (fun x => (#[] : Array Value)[x % (#[] : Array Value).size]!) (Array.range (c0 * sz)))).run P w = _ := q1
            simp only [Sem.run_bind, Instr.makeSlice, asInt, asIntOf, run_underlying hC hu, Result.andThen_ok, Sem.run_pure, hinf, w1, w2, a1, a2, a3, a4, decide_false, Bool.or_self, Bool.false_eq_true, Sem.run_ite, if_false, run_askRoom,
              run_sizeOf hC hsz, Int.toNat_natCast, if_pos h0, q1']
          · simp only [if_neg h0] at q1 ⊢
            have q1' : (newRow el (Array.map (fun x => z.cells[x % z.cells.size]!) (Array.range (c0 * sz)))).run P w = _ := q1
            simp only [Sem.run_bind, Instr.makeSlice, asInt, asIntOf, run_underlying hC hu, Result.andThen_ok, Sem.run_pure, hinf, w1, w2, a1, a2, a3, a4, decide_false, Bool.or_self, Bool.false_eq_true, Sem.run_ite, if_false, run_askRoom,
              run_sizeOf hC hsz, Int.toNat_natCast, if_neg h0, hz', q1']
        · exact .slice i 0 l0 c0 c0 _ q4 (.inl rfl)
      · cases e
    · cases e
  · cases e

end
end Ev
