import Derived.Test.YtjgbkacigiidmaaGreatEvZg
namespace Ev
open Go

noncomputable section

/-- a list as a trie. -/
def trGo {α : Type} : List α → Nat → Tr α → Tr α
  | [], _, t => t
  | a :: l, i, t => trGo l (Nat.succ i) (t.set (some a) depthT i)
def trOf {α : Type} (l : List α) : Tr α := trGo l 0 .nil

/-- what a seat gives beside its program. -/
structure Ids where
  eqs : List TypeId
  run : FuncId
  ern : TypeId
  fbits : FuncId
  ffrom : FuncId
  ftrunc : FuncId

def ctxOf (P : Program) (I : Ids) : Ctx where
  ty := trOf P.types.toList
  fn := trOf P.funcs.toList
  eqs := I.eqs
  run := I.run
  ern := I.ern
  fbits := I.fbits
  ffrom := I.ffrom
  ftrunc := I.ftrunc
  orc := fun _ _ _ => none

/-- the facts on a program's types and functions, for the kernel. -/
def zeroOk (i : TypeInfo) : Bool :=
  match noTuple i.zero with
  | some z => z.cells.toList.all closedV && Nat.beq z.cells.size i.size
  | none => true

def fnGood (fn : Func) : Bool :=
  (!(fn.name == "runtime.NumGoroutine")) &&
  match fn.body with
  | some c => goodC fn.ntmps c && Nat.ble fn.ntmps 4000
  | none => true

def typesOk : List TypeInfo → Bool
  | [] => true
  | i :: l => zeroOk i && typesOk l
def fnsOk : List Func → Bool
  | [] => true
  | f :: l => fnGood f && fnsOk l
def eqsOk (P : Program) : List TypeId → Bool
  | [] => true
  | t :: l => !(P.eqGuardType P.depth t) && (!(P.stoodInHeld t) && eqsOk P l)

end

theorem trGo_get {α : Type} : ∀ (l : List α) (i : Nat) (t : Tr α), i + l.length ≤ 4000 → ∀ n, (trGo l i t).get n = if i ≤ n ∧ n < i + l.length then l[n - i]? else t.get n
  | [], i, t, _, n => by
    simp only [trGo, List.length_nil]
    rw [if_neg (by omega)]
  | a :: l, i, t, h, n => by
    simp only [List.length_cons] at h
    simp only [trGo, List.length_cons]
    have hp : (2 : Nat) ^ depthT = 4096 := by decide
    rw [trGo_get l (i + 1) _ (by omega) n, Tr.get_set _ depthT t i n (by omega)]
    by_cases h1 : i + 1 ≤ n ∧ n < i + 1 + l.length
    · rw [if_pos h1, if_pos (by omega), show n - i = (n - (i + 1)) + 1 by omega]
      rfl
    · rw [if_neg h1]
      by_cases h2 : n = i
      · subst h2
        rw [if_pos rfl, if_pos (by omega), Nat.sub_self]
        rfl
      · rw [if_neg h2, if_neg (by omega)]

theorem trOf_get {α : Type} {l : List α} (h : l.length ≤ 4000) (n : Nat) : (trOf l).get n = l[n]? := by
  unfold trOf
  rw [trGo_get l 0 .nil (by omega) n]
  by_cases h1 : n < l.length
  · rw [if_pos (by omega), Nat.sub_zero]
  · rw [if_neg (by omega), List.getElem?_eq_none (by omega)]
    rfl

theorem typesOk_spec : ∀ {l : List TypeInfo}, typesOk l = true → ∀ i ∈ l, zeroOk i = true
  | [], _, i, hi => by cases hi
  | j :: l, h, i, hi => by
    simp only [typesOk, Bool.and_eq_true] at h
    rcases List.mem_cons.1 hi with e | e
    · subst e; exact h.1
    · exact typesOk_spec h.2 i e

theorem fnsOk_spec : ∀ {l : List Func}, fnsOk l = true → ∀ f ∈ l, fnGood f = true
  | [], _, i, hi => by cases hi
  | j :: l, h, i, hi => by
    simp only [fnsOk, Bool.and_eq_true] at h
    rcases List.mem_cons.1 hi with e | e
    · subst e; exact h.1
    · exact fnsOk_spec h.2 i e

theorem fnsOk_append : ∀ {l r : List Func}, fnsOk l = true → fnsOk r = true → fnsOk (l ++ r) = true
  | [], _, _, h => h
  | j :: l, r, h, h' => by
    simp only [fnsOk, Bool.and_eq_true, List.cons_append] at h ⊢
    exact ⟨h.1, fnsOk_append h.2 h'⟩

theorem eqsOk_spec {P : Program} : ∀ {l : List TypeId}, eqsOk P l = true → ∀ t ∈ l, P.eqGuardType P.depth t = false ∧ P.stoodInHeld t = false
  | [], _, i, hi => by cases hi
  | j :: l, h, i, hi => by
    simp only [eqsOk, Bool.and_eq_true, Bool.not_eq_true'] at h
    rcases List.mem_cons.1 hi with e | e
    · subst e; exact ⟨h.1, h.2.1⟩
    · exact eqsOk_spec h.2.2 i e

theorem ctxOf_ok {P : Program} {I : Ids} (h1 : P.types.toList.length ≤ 4000) (h2 : P.funcs.toList.length ≤ 4000) (ht : typesOk P.types.toList = true) (hf : fnsOk P.funcs.toList = true)
    (he : eqsOk P I.eqs = true) (hm : P.follows .mixedOrders = true) : CtxOk (ctxOf P I) P := by
  have hty : ∀ t i, (ctxOf P I).ty.get t = some i → P.types[t]? = some i := by
    intro t i h
    have : (trOf P.types.toList).get t = some i := h
    rw [trOf_get h1] at this
    simpa using this
  have hfn : ∀ f fn, (ctxOf P I).fn.get f = some fn → P.funcs[f]? = some fn := by
    intro t i h
    have : (trOf P.funcs.toList).get t = some i := h
    rw [trOf_get h2] at this
    simpa using this
  have hz : ∀ t i, P.types[t]? = some i → zeroOk i = true := fun t i h => typesOk_spec ht i (by rw [Array.mem_toList_iff]; exact Array.mem_of_getElem? h)
  have hzt : ∀ t z, zeroT (ctxOf P I) t = some z → ∃ i, P.types[t]? = some i ∧ noTuple i.zero = some z := by
    intro t z h
    unfold zeroT at h
    rw [Option.bind_eq_some_iff] at h
    obtain ⟨i, h3, h4⟩ := h
    exact ⟨i, hty t i h3, h4⟩
  refine ⟨?_, hfn, ?_, fun t ht => (eqsOk_spec he t ht).1, fun t ht => (eqsOk_spec he t ht).2, ?_, ?_, hm⟩
  · intro t i h
    have h3 := hty t i h
    have : t < P.types.size := (Array.getElem?_eq_some_iff.1 h3).1
    unfold Tables.info?
    rw [if_pos this]
    exact h3
  · intro f fn h
    have := fnsOk_spec hf fn (by rw [Array.mem_toList_iff]; exact Array.mem_of_getElem? (hfn f fn h))
    simp only [fnGood, Bool.and_eq_true, Bool.not_eq_true'] at this
    exact this.1
  · intro t z h
    obtain ⟨i, h3, h4⟩ := hzt t z h
    have := hz t i h3
    unfold zeroOk at this
    rw [h4] at this
    simp only [Bool.and_eq_true] at this
    exact this.1
  · intro t z n h h5
    obtain ⟨i, h3, h4⟩ := hzt t z h
    have := hz t i h3
    unfold zeroOk at this
    rw [h4] at this
    simp only [Bool.and_eq_true] at this
    have e := Nat.eq_of_beq_eq_true this.2
    rw [e]
    unfold sizeT at h5
    rw [Option.map_eq_some_iff] at h5
    obtain ⟨j, h6, h7⟩ := h5
    have := hty t j h6
    rw [h3] at this; cases this
    exact h7

/-- the two functions without a body that the evaluator knows. -/
theorem fnsOk_of {P : Program} {I : Ids} (h2 : P.funcs.toList.length ≤ 4000) (hf : fnsOk P.funcs.toList = true)
    (hb : ∀ b (w : World), (callFunc I.fbits #[.float .f64 b]).run P w = .ok (.value (.int .u64 b)) w)
    (hr : ∀ (b : Nat) (w : World), (callFunc I.ffrom #[.int .u64 (.ofNat b)]).run P w = .ok (.value (.float .f64 b)) w) : FnsOk (ctxOf P I) P := by
  have hfn : ∀ f fn, (ctxOf P I).fn.get f = some fn → P.funcs[f]? = some fn := by
    intro t i h
    have : (trOf P.funcs.toList).get t = some i := h
    rw [trOf_get h2] at this
    simpa using this
  refine ⟨?_, ?_⟩
  · intro f fn c h hc
    have := fnsOk_spec hf fn (by rw [Array.mem_toList_iff]; exact Array.mem_of_getElem? (hfn f fn h))
    simp only [fnGood, Bool.and_eq_true, hc, Nat.ble_eq] at this
    exact this.2
  · intro f fn args v _ _ he w
    unfold extV at he
    split at he
    · rename_i b ha
      cases hq : Nat.beq f (ctxOf P I).fbits with
      | false => rw [hq] at he; cases he
      | true =>
        rw [hq] at he; cases he
        have e1 := Nat.eq_of_beq_eq_true hq
        have e2 : args = #[.float .f64 b] := Array.ext' ha
        subst e1 e2
        exact hb b w
    · rename_i b ha
      cases hq : Nat.beq f (ctxOf P I).ffrom with
      | false => rw [hq] at he; cases he
      | true =>
        rw [hq] at he; cases he
        have e1 := Nat.eq_of_beq_eq_true hq
        have e2 : args = #[.int .u64 (.ofNat b)] := Array.ext' ha
        subst e1 e2
        exact hr b w
    · cases he

/-- entries, as a table. -/
noncomputable def tabGo : List Ent → Tr (List Ent) → Tr (List Ent)
  | [], t => t
  | e :: l, t => tabGo l (t.set (some (e :: (t.get e.f).getD [])) depthT e.f)
noncomputable def tabOf (l : List Ent) : Tr (List Ent) := tabGo l .nil

theorem tabGo_ok {P : Program} : ∀ (l : List Ent) (t : Tr (List Ent)), TabOk P t → (∀ e ∈ l, e.f < 4000 ∧ ∀ (args : Array Value) (h : Hp) (r : Ret) (h' : Hp), tryE e args h = some (r, h') → h.next ≤ h'.next ∧ CallOk P e.f args h r h') → TabOk P (tabGo l t)
  | [], t, ht, _ => ht
  | e :: l, t, ht, hl => by
    refine tabGo_ok l _ ?_ (fun x hx => hl x (by simp [hx]))
    obtain ⟨h1, h2⟩ := hl e (by simp)
    have h1' : Nat.lt e.f 4000 := h1
    have h1'' : e.f + 1 < 2 ^ depthT := by
      have hp : (2 : Nat) ^ depthT = 4096 := by decide
      rw [hp]
      exact Nat.lt_trans (Nat.succ_lt_succ h1') (by decide)
    intro f k hk x hx args h r h' hxx
    rw [Tr.get_set _ depthT t e.f f h1''] at hk
    by_cases e1 : f = e.f
    · rw [if_pos e1] at hk
      cases hk
      subst e1
      rcases List.mem_cons.1 hx with e2 | e2
      · subst e2; exact h2 args h r h' hxx
      · cases hg : t.get e.f with
        | none => rw [hg] at e2; cases e2
        | some k => rw [hg] at e2; exact ht e.f k hg x e2 args h r h' hxx
    · rw [if_neg e1] at hk
      exact ht f k hk x hx args h r h' hxx

theorem tabOf_ok {P : Program} {l : List Ent} (hl : ∀ e ∈ l, e.f < 4000 ∧ ∀ (args : Array Value) (h : Hp) (r : Ret) (h' : Hp), tryE e args h = some (r, h') → h.next ≤ h'.next ∧ CallOk P e.f args h r h') : TabOk P (tabOf l) :=
  tabGo_ok l .nil (fun f k hk => by cases hk) hl

/-- a call whose outcome is known, and proved. -/
def EntOk (P : Program) (e : Ent) : Prop :=
  e.f < 4000 ∧ ∀ (args : Array Value) (h : Hp) (r : Ret) (h' : Hp), tryE e args h = some (r, h') → h.next ≤ h'.next ∧ CallOk P e.f args h r h'

theorem entNil {P : Program} : ∀ e ∈ ([] : List Ent), EntOk P e := fun _ h => by cases h

theorem entCons {P : Program} {C : Ctx} (hC : CtxOk C P) (hFn : FnsOk C P) (hT : TrapSpec C P) {l : List Ent} (hl : ∀ e ∈ l, EntOk P e) {n : Nat} {e : Ent}
    (hf : Nat.blt e.f 4000 = true) (hok : okE { C with orc := orcT (tabOf l) } n e = true) : ∀ x ∈ e :: l, EntOk P x := by
  intro x hx
  rcases List.mem_cons.1 hx with h | h
  · subst h
    refine ⟨by simpa [Nat.blt_eq] using hf, ?_⟩
    intro args h r h' ht
    exact ent_ok (hC.with _) (evFn_with hC hFn hT (tabOf_ok hl) n) hok ht
  · exact hl x h

theorem evFn_ents {P : Program} {C : Ctx} (hC : CtxOk C P) (hFn : FnsOk C P) (hT : TrapSpec C P) {l : List Ent} (hl : ∀ e ∈ l, EntOk P e) (n : Nat) :
    FOk P (evFn { C with orc := orcT (tabOf l) } n) := evFn_with hC hFn hT (tabOf_ok hl) n

/-- a closed function that says true. -/
theorem says_true {P : Program} {C : Ctx} {n : Nat} (hC : CtxOk C P) (hF : FOk P (evFn C n)) {f : FuncId} (hb : hasBody C f = true) (h : saysTrue (evFn C n f #[] ⟨.nil, 0⟩) = true) (w : World) :
    Calls P f #[] w fun e w' => e = .returned (.bool true) ∧ (∀ b, b < w.heap.size → w'.heap[b]? = w.heap[b]?) ∧ w.heap.size ≤ w'.heap.size ∧ w'.os = w.os ∧ w'.output = w.output := by
  unfold saysTrue at h
  split at h
  · rename_i h' he
    have h0 : WR (fun _ => none) ⟨.nil, 0⟩ w := by
      refine ⟨?_, ?_, fun _ _ => rfl, Nat.zero_le _⟩
      · intro i B hi; cases hi
      · intro i j B B' x y hi; cases hi
    rcases (hF f #[] ⟨.nil, 0⟩ _ h' he).2 (fun _ => none) w #[] .nil h0 (fun _ _ _ => rfl) with ⟨_, q⟩ | ⟨v, v', _, _, _, q⟩
    · refine q.mono ?_
      rintro e w' ⟨g', _, s2, v', s3, rfl⟩
      refine ⟨?_, ?_, s2.size, s2.os, s2.out⟩
      · generalize hv : Value.bool true = u at s3
        cases s3 <;> cases hv
        rfl
      · intro b hb
        refine s2.keep b hb ?_
        intro i B x hi; cases hi
    · exfalso
      unfold hasBody at hb
      split at hb
      · rename_i fn hfn
        obtain ⟨c, hc⟩ := Option.isSome_iff_exists.1 hb
        rw [callFunc_enter hC hfn hc] at q
        cases q
      · cases hb
  · cases h

end Ev
