import Derived.Test.YtjgbkacigiidmaaGreatEvZd
namespace Ev
open Go

section
variable {C : Ctx} {P : Program} {F : CallF} {ops : Array Oper} {st : Nat → St} {mt : Nat → Met} {N : Nat}

/-! ### temporaries -/

theorem Canon.temp (hc : Canon C F ops st mt) {i : Nat} {o : Oper} (ho : ops[i]? = some o) : ∃ v, (st (i + 1)).t = putT (st i).t o.dst v := by
  rcases hc.step i _ ho with ⟨h0, h1, _⟩ | ⟨h0, h1⟩
  · rw [h1]; exact ⟨_, rfl⟩
  · rcases h1 with ⟨v, h2, h3, _⟩ | ⟨h2, h3, _⟩ | ⟨f, args, h1, v, h2, h3, h4, _⟩
    · exact ⟨_, h3⟩
    · exact ⟨_, h3⟩
    · exact ⟨_, h4⟩

theorem getT_put_ne {t : Tr Value} {d : Option Nat} {v : Value} (hd : ∀ x, d = some x → x < 4000) {x : Nat} (hx : d ≠ some x) : getT (putT t d v) x = getT t x := by
  cases d with
  | none => rfl
  | some y =>
    rw [getT_putT (hd y rfl), if_neg]
    intro e; exact hx (by rw [e])

theorem Canon.keepT (hc : Canon C F ops st mt) (hN : N ≤ 4000) (hdst : ∀ (j : Nat) (o : Oper) d, ops[j]? = some o → o.dst = some d → d < N) (x : Nat) (i : Nat) :
    ∀ (d : Nat), i + d ≤ ops.size → (∀ m o, i ≤ m → m < i + d → ops[m]? = some o → o.dst ≠ some x) → getT (st (i + d)).t x = getT (st i).t x
  | 0, _, _ => rfl
  | d + 1, hd, h => by
    have hd' : i + d + 1 ≤ ops.size := hd
    have ih := hc.keepT hN hdst x i d (by omega) (fun m o h1 h2 => h m o h1 (by omega))
    have ho : ops[i + d]? = some (ops[i + d]'(by omega)) := by simp
    obtain ⟨v, hv⟩ := hc.temp ho
    show getT (st (i + d + 1)).t x = _
    rw [hv, getT_put_ne (fun y hy => Nat.lt_of_lt_of_le (hdst _ _ _ ho hy) hN) (h (i + d) _ (by omega) (by omega) ho), ih]

theorem Canon.keepT' (hc : Canon C F ops st mt) (hN : N ≤ 4000) (hdst : ∀ (j : Nat) (o : Oper) d, ops[j]? = some o → o.dst = some d → d < N) (x : Nat) {i j : Nat}
    (hij : i ≤ j) (hj : j ≤ ops.size) (h : ∀ m o, i ≤ m → m < j → ops[m]? = some o → o.dst ≠ some x) : getT (st j).t x = getT (st i).t x := by
  have := hc.keepT hN hdst x i (j - i) (by omega) (fun m o h1 h2 => h m o h1 (by omega))
  rwa [show i + (j - i) = j by omega] at this

/-- the frame behind the operations of S: theirs as at the end, all others as at the start. -/
def Temps (ops : Array Oper) (st : Nat → St) (S : Nat → Prop) (T : Tr Value) : Prop :=
  ∀ x, (∀ i o, ops[i]? = some o → S i → o.dst = some x → getT T x = getT (st ops.size).t x) ∧
    ((∀ i o, ops[i]? = some o → S i → o.dst ≠ some x) → getT T x = getT (st 0).t x)

variable {S : Nat → Prop} {T : Tr Value}

theorem Temps.step (hc : Canon C F ops st mt) (hg : Good ops) (hN : N ≤ 4000) (hdst : ∀ (j : Nat) (o : Oper) d, ops[j]? = some o → o.dst = some d → d < N)
    (ht : Temps ops st S T) {k : Nat} {o : Oper} (hk : ops[k]? = some o) {v : Value} (hv : (st (k + 1)).t = putT (st k).t o.dst v) :
    Temps ops st (fun i => S i ∨ i = k) (putT T o.dst v) := by
  have hlt : k < ops.size := (Array.getElem?_eq_some_iff.1 hk).1
  have hd4 : ∀ x, o.dst = some x → x < 4000 := fun x hx => Nat.lt_of_lt_of_le (hdst _ _ _ hk hx) hN
  intro x
  obtain ⟨h1, h2⟩ := ht x
  by_cases hx : o.dst = some x
  · have e1 : getT (putT T o.dst v) x = v := by rw [hx, getT_putT (hd4 x hx), if_pos rfl]
    have e2 : getT (st ops.size).t x = v := by
      rw [hc.keepT' hN hdst x (i := k + 1) (j := ops.size) hlt (Nat.le_refl _) ?_, hv, hx, getT_putT (hd4 x hx), if_pos rfl]
      intro m o' hm _ ho'
      exact hg.dd k m o o' (by omega) hk ho' x hx
    exact ⟨fun _ _ _ _ _ => by rw [e1, e2], fun h => absurd hx (h k o hk (.inr rfl))⟩
  · rw [getT_put_ne hd4 hx]
    refine ⟨?_, ?_⟩
    · rintro i o' ho' (hS | rfl) hd
      · exact h1 i o' ho' hS hd
      · rw [hk] at ho'; cases ho'; exact absurd hd hx
    · intro h
      exact h2 fun i o' ho' hS => h i o' ho' (.inl hS)

/-- what an operation that may come up looks at is as in the canonical run. -/
theorem Temps.looks (hc : Canon C F ops st mt) (hg : Good ops) (hN : N ≤ 4000) (hdst : ∀ (j : Nat) (o : Oper) d, ops[j]? = some o → o.dst = some d → d < N)
    (ht : Temps ops st S T) {k : Nat} {o : Oper} (hk : ops[k]? = some o) (hSk : ¬ S k) (hb : ∀ i, Bit ops k i → S i) (hs : ∀ i j, S i → Bit ops i j → S j)
    {x : Nat} (hx : x ∈ o.looksAt ops) : getT T x = getT (st k).t x := by
  have hlt : k < ops.size := (Array.getElem?_eq_some_iff.1 hk).1
  obtain ⟨h1, h2⟩ := ht x
  by_cases he : ∃ (i : Nat) (o' : Oper), ops[i]? = some o' ∧ o'.dst = some x
  · obtain ⟨i, o', ho', hd⟩ := he
    have hil : i < ops.size := (Array.getElem?_eq_some_iff.1 ho').1
    have only : ∀ m o2, ops[m]? = some o2 → o2.dst = some x → m = i := by
      intro m o2 h3 h4
      rcases Nat.lt_trichotomy m i with h | h | h
      · exact absurd hd (hg.dd m i o2 o' h h3 ho' x h4)
      · exact h
      · exact absurd h4 (hg.dd i m o' o2 h ho' h3 x hd)
    rcases Nat.lt_or_ge i k with h | h
    · have hS := hb i (hg.rd1 i k o' o h ho' hk x hd hx)
      rw [h1 i o' ho' hS hd]
      refine hc.keepT' hN hdst x (by omega) (Nat.le_refl _) ?_
      intro m o2 h3 _ h4 h5
      have := only m o2 h4 h5; omega
    · have hSi : ¬ S i := by
        intro hS
        rcases Nat.lt_or_ge k i with h' | h'
        · exact hSk (hs i k hS (hg.rd2 k i o o' h' hk ho' x hd hx))
        · have : i = k := by omega
          subst this; exact hSk hS
      rw [h2 ?_]
      · refine (hc.keepT' hN hdst x (Nat.zero_le k) (by omega) ?_).symm
        intro m o2 _ h3 h4 h5
        have := only m o2 h4 h5; omega
      · intro m o2 h3 h4 h5
        have := only m o2 h3 h5
        subst this; exact hSi h4
  · have hno : ∀ (m : Nat) (o2 : Oper), ops[m]? = some o2 → o2.dst ≠ some x := fun m o2 h3 h4 => he ⟨m, o2, h3, h4⟩
    rw [h2 fun m o2 h3 _ => hno m o2 h3]
    exact (hc.keepT' hN hdst x (Nat.zero_le k) (by omega) fun m o2 _ _ h3 => hno m o2 h3).symm

theorem opd_looks {o : Oper} {T t : Tr Value} (h : ∀ x ∈ o.looksAt ops, getT T x = getT t x) : ∀ x ∈ o.op.operands, opd T x = opd t x := by
  intro x hx
  cases x with
  | tmp n =>
    simp only [opd]
    rw [h n]
    unfold Oper.looksAt
    rw [List.mem_append]
    refine .inl ?_
    rw [List.mem_filterMap]
    exact ⟨.tmp n, by simpa using hx, rfl⟩
  | const v => rfl
  | global n => rfl
  | func f => rfl

theorem wantedA_looks {o : Oper} {T t : Tr Value} (h : ∀ x ∈ o.looksAt ops, getT T x = getT t x) : wantedA ops.toList T o = wantedA ops.toList t o := by
  unfold wantedA
  cases hg : o.guard with
  | none => rfl
  | some jw =>
    obtain ⟨j, want⟩ := jw
    simp only
    cases hd : dstOf ops.toList j with
    | none => rfl
    | some d =>
      simp only
      rw [h d]
      unfold Oper.looksAt
      rw [List.mem_append]
      refine .inr ?_
      rw [hg]
      simp only
      unfold dstOf at hd
      have : ops.toList[j]? = ops[j]? := by simp
      rw [this] at hd
      cases ho : ops[j]? with
      | none => rw [ho] at hd; cases hd
      | some o' =>
        rw [ho] at hd
        simp only at hd
        simp [hd]

/-! ### notes -/

theorem Canon.note (hc : Canon C F ops st mt) {m : Nat} (hm : m < ops.size) :
    (¬ Wr ops st m ∧ (mt (m + 1)).stages = (mt m).stages) ∨ (Wr ops st m ∧ (mt (m + 1)).stages = (m, (st (m + 1)).h) :: (mt m).stages) := by
  have ho : ops[m]? = some ops[m] := by simp [hm]
  have hno : wantedA ops.toList (st m).t ops[m] = false → ¬ Wr ops st m := by
    rintro h ⟨o, h1, _, h2⟩
    rw [ho] at h1; cases h1
    rw [h] at h2; cases h2
  have hnw : isWriter ops[m] = false → ¬ Wr ops st m := by
    rintro h ⟨o, h1, h2, _⟩
    rw [ho] at h1; cases h1
    rw [h] at h2; cases h2
  have hnote : ∀ r h', wantedA ops.toList (st m).t ops[m] = true → (mt (m + 1)) = Ev.note C ops[m] m (st m).t r h' (mt m) → h' = (st (m + 1)).h →
      (¬ Wr ops st m ∧ (mt (m + 1)).stages = (mt m).stages) ∨ (Wr ops st m ∧ (mt (m + 1)).stages = (m, (st (m + 1)).h) :: (mt m).stages) := by
    rintro r h' hw h rfl
    rw [h]
    unfold Ev.note
    cases hr : isReader ops[m] with
    | true =>
      refine .inl ⟨hnw (reader_not_writer hr), ?_⟩
      cases r <;> rfl
    | false =>
      cases hwr : isWriter ops[m] with
      | true => exact .inr ⟨⟨_, ho, hwr, hw⟩, rfl⟩
      | false => exact .inl ⟨hnw hwr, rfl⟩
  rcases hc.step m _ ho with ⟨h0, h1, h2⟩ | ⟨h0, h1⟩
  · exact .inl ⟨hno h0, by rw [h2]⟩
  · rcases h1 with ⟨v, h2, h3, h4, _⟩ | ⟨h2, h3, h4⟩ | ⟨f, args, h1, v, h2, h3, h4, h5⟩
    · exact hnote _ _ h0 h4 rfl
    · exact hnote _ _ h0 h4 rfl
    · exact hnote _ _ h0 h5 rfl

theorem Canon.stages (hc : Canon C F ops st mt) (p : Nat) : ∀ (d : Nat), p + d ≤ ops.size →
    ∃ l, (mt (p + d)).stages.reverse = (mt p).stages.reverse ++ l ∧ ∀ e ∈ l, p ≤ e.1 ∧ e.1 < p + d ∧ Wr ops st e.1
  | 0, _ => ⟨[], by simp, by simp⟩
  | d + 1, hd => by
    have hd' : p + d + 1 ≤ ops.size := hd
    obtain ⟨l, h1, h2⟩ := hc.stages p d (by omega)
    show ∃ l, (mt (p + d + 1)).stages.reverse = (mt p).stages.reverse ++ l ∧ ∀ e ∈ l, p ≤ e.1 ∧ e.1 < p + d + 1 ∧ Wr ops st e.1
    rcases hc.note (m := p + d) (by omega) with ⟨_, h⟩ | ⟨hw, h⟩
    · exact ⟨l, by rw [h, h1], fun e he => by obtain ⟨q1, q2, q3⟩ := h2 e he; exact ⟨q1, by omega, q3⟩⟩
    · refine ⟨l ++ [(p + d, (st (p + d + 1)).h)], by rw [h, List.reverse_cons, h1, List.append_assoc], ?_⟩
      intro e he
      rw [List.mem_append] at he
      rcases he with he | he
      · obtain ⟨q1, q2, q3⟩ := h2 e he; exact ⟨q1, by omega, q3⟩
      · simp only [List.mem_singleton] at he
        subst he
        exact ⟨by simp, by simp, hw⟩

theorem Canon.loads_step (hc : Canon C F ops st mt) {m : Nat} (hm : m < ops.size) {e : Nat × (Hp → Option (AR × Hp)) × Value} (he : e ∈ (mt m).loads) : e ∈ (mt (m + 1)).loads := by
  have ho : ops[m]? = some ops[m] := by simp [hm]
  have hnote : ∀ r h', (mt (m + 1)) = Ev.note C ops[m] m (st m).t r h' (mt m) → e ∈ (mt (m + 1)).loads := by
    intro r h' h
    rw [h]
    unfold Ev.note
    cases hr : isReader ops[m] with
    | true => cases r <;> simp [he]
    | false => cases hwr : isWriter ops[m] <;> simpa using he
  rcases hc.step m _ ho with ⟨h0, h1, h2⟩ | ⟨h0, h1⟩
  · rw [h2]; exact he
  · rcases h1 with ⟨v, h2, h3, h4, _⟩ | ⟨h2, h3, h4⟩ | ⟨f, args, h1, v, h2, h3, h4, h5⟩
    · exact hnote _ _ h4
    · exact hnote _ _ h4
    · exact hnote _ _ h5

theorem Canon.loads (hc : Canon C F ops st mt) {p : Nat} {e : Nat × (Hp → Option (AR × Hp)) × Value} (he : e ∈ (mt p).loads) : ∀ (d : Nat), p + d ≤ ops.size → e ∈ (mt (p + d)).loads
  | 0, _ => he
  | d + 1, hd => hc.loads_step (m := p + d) hd (hc.loads he d (by have : p + d + 1 ≤ ops.size := hd; omega))

def lastH (h : Hp) : List (Nat × Hp) → Hp
  | [] => h
  | (_, h') :: r => lastH h' r

theorem lastH_append (h : Hp) (p : Nat) (h' : Hp) : ∀ l, lastH h (l ++ [(p, h')]) = h'
  | [] => rfl
  | (_, h1) :: l => lastH_append h1 p h' l

theorem loadOk_at {bef : Array Nat} {i : Nat} {f : Hp → Option (AR × Hp)} {v : Value} (l2 : List (Nat × Hp)) : ∀ (l1 : List (Nat × Hp)) (past : List Nat) (h : Hp),
    loadOk bef i f v past h (l1 ++ l2) = true → staged bef i ((l1.map (·.1)).reverse ++ past) (l2.map (·.1)) = true → sameO (lastH h l1) (f (lastH h l1)) v = true
  | [], past, h, e, hs => by
    simp only [List.map_nil, List.reverse_nil, List.nil_append] at hs e
    simp only [lastH]
    cases l2 with
    | nil =>
      simp only [loadOk, Bool.or_eq_true, Bool.not_eq_true'] at e
      rcases e with e | e
      · exact e
      · rw [List.map_nil, e] at hs; cases hs
    | cons y r =>
      obtain ⟨p, h'⟩ := y
      simp only [loadOk, Bool.or_eq_true, Bool.not_eq_true', Bool.and_eq_true] at e
      rcases e.1 with e | e
      · exact e
      · rw [List.map_cons, e] at hs; cases hs
  | (p, h') :: l1, past, h, e, hs => by
    simp only [List.cons_append, loadOk, Bool.and_eq_true] at e
    refine loadOk_at l2 l1 (p :: past) h' e.2 ?_
    simpa using hs

/-- a reader sees the same at the stage at hand. -/
theorem reader_at (hc : Canon C F ops st mt) {listed : Array Bool} (hsh : Shut ops listed) {k q : Nat} {o : Oper} (hk : ops[k]? = some o) (hkr : k ∈ Region.ready .any ops listed)
    (hSk : ¬ listed.getD k false = true)
    (_hr : isReader o = true) {v : Value} (hl : (k, aop C o (st k).t, v) ∈ (mt (k + 1)).loads) (hwq : ∀ i, Wr ops st i → (listed.getD i false = true ↔ i < q)) (hqn : q ≤ ops.size)
    (hq : q = 0 ∨ ∃ p, q = p + 1 ∧ Wr ops st p) (hd : drawnOk ops (st 0).h (mt ops.size) = true) :
    sameO (st q).h (aop C o (st k).t (st q).h) v = true := by
  have hlt : k < ops.size := (Array.getElem?_eq_some_iff.1 hk).1
  have hl' : (k, aop C o (st k).t, v) ∈ (mt ops.size).loads := by
    have := hc.loads hl (ops.size - (k + 1)) (by omega)
    rwa [show k + 1 + (ops.size - (k + 1)) = ops.size by omega] at this
  obtain ⟨l2, e2, h2⟩ := hc.stages q (ops.size - q) (by omega)
  rw [show q + (ops.size - q) = ops.size by omega] at e2 h2
  have hlast : lastH (st 0).h (mt q).stages.reverse = (st q).h := by
    rcases hq with rfl | ⟨p, rfl, hw⟩
    · rw [hc.m0]; rfl
    · rcases hc.note (m := p) (by omega) with ⟨h, _⟩ | ⟨_, h⟩
      · exact absurd hw h
      · rw [h, List.reverse_cons, lastH_append]
  obtain ⟨l1, e1, h1⟩ := hc.stages 0 q (by omega)
  rw [hc.m0] at e1
  simp only [Nat.zero_add, List.reverse_nil, List.nil_append] at e1 h1
  unfold drawnOk at hd
  have hst : staged (Region.before ops) k ((l1.map (·.1)).reverse ++ []) (l2.map (·.1)) = true := by
    unfold staged
    simp only [List.append_nil, Bool.and_eq_true, List.all_eq_true, List.mem_reverse, List.mem_map, Bool.not_eq_true']
    refine ⟨?_, ?_⟩
    · rintro x ⟨e, he, rfl⟩
      obtain ⟨_, q2, q3⟩ := h1 e he
      have hS := (hwq _ q3).2 q2
      cases hbt : ((Region.before ops).getD e.1 0).testBit k with
      | false => rfl
      | true =>
        obtain ⟨ow, how, _⟩ := q3
        exact absurd (hsh.before e.1 k ow how (fun ed h3 h4 => hsh e.1 ow how hS ed h3 h4) hbt) hSk
    · rintro x ⟨e, he, rfl⟩
      obtain ⟨q1, _, q3⟩ := h2 e he
      cases hbt : ((Region.before ops).getD k 0).testBit e.1 with
      | false => rfl
      | true =>
        have := (hwq _ q3).1 (hsh.ready hkr hbt)
        omega
  split at hd
  · rename_i hnil
    rw [List.all_eq_true] at hd
    have h0 := hd _ hl'
    simp only at h0
    rw [hnil] at e2
    have : (mt q).stages.reverse = [] := by
      cases h : (mt q).stages.reverse with
      | nil => rfl
      | cons a b => rw [h] at e2; simp at e2
    rw [this] at hlast
    rw [← hlast]
    exact h0
  · rw [List.all_eq_true] at hd
    have h0 := hd _ hl'
    simp only at h0
    rw [e2, e1] at h0
    have := loadOk_at l2 l1 [] _ h0 hst
    rw [← e1, hlast] at this
    exact this

theorem sameV_eq {x y : Value} (h : sameV x y = true) : x = y := by
  unfold sameV at h
  split at h
  all_goals first
    | (cases h; done)
    | rfl
    | (simp only [beq_iff_eq] at h; rw [h]; done)
    | skip
  · simp only [Bool.and_eq_true, decide_eq_true_eq, beq_iff_eq] at h; rw [h.1, h.2]
  · simp only [Bool.and_eq_true, decide_eq_true_eq, beq_iff_eq] at h; rw [h.1, h.2]
  · rename_i a b
    simp only [beq_iff_eq] at h
    have : a = b := by
      cases a; cases b
      simp only [ByteArray.mk.injEq]
      exact Array.ext' h
    rw [this]
  · simp only [Bool.and_eq_true, beq_iff_eq] at h; rw [h.1.1, h.1.2, h.2]

theorem sameL_eq : ∀ {x y : List Value}, sameL x y = true → x = y
  | [], [], _ => rfl
  | x :: l, y :: r, h => by
    simp only [sameL, Bool.and_eq_true] at h
    rw [sameV_eq h.1, sameL_eq h.2]
  | [], _ :: _, h => by cases h
  | _ :: _, [], h => by cases h

theorem sameW_eq {x y : Value} (h : sameW x y = true) : x = y := by
  unfold sameW at h
  split at h
  · rw [Array.ext' (sameL_eq h)]
  · exact sameV_eq h

theorem sameO_inv {h : Hp} {x : Option (AR × Hp)} {y : Value} (e : sameO h x y = true) : ∃ h', x = some (.val y, h') ∧ h'.next = h.next := by
  unfold sameO at e
  split at e
  · rename_i u h' 
    simp only [Bool.and_eq_true] at e
    exact ⟨h', by rw [sameW_eq e.1], Nat.eq_of_beq_eq_true e.2⟩
  · cases e

end
end Ev
