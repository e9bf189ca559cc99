import Derived.Test.YtfgbamkopfepdaaGreatDoorEF
import Derived.ChangeSame
import Derived.MapKept
namespace Ev
open Go

noncomputable section

/-! ### equality of values, for the kernel -/

def allEq (eq : Value → Value → Bool) : List Value → List Value → Bool
  | [], [] => true
  | x :: l, y :: r => eq x y && allEq eq l r
  | _, _ => false

def fnEq : Fn → Fn → Bool
  | .func a, .func b => Nat.beq a b
  | _, _ => false

def vEq : Nat → Value → Value → Bool
  | 0, _, _ => false
  | d + 1, x, y =>
    match x, y with
    | .agg a, .agg b => allEq (vEq d) a.toList b.toList
    | .tuple a, .tuple b => allEq (vEq d) a.toList b.toList
    | .iface t v, .iface u w => Nat.beq t u && vEq d v w
    | .func f a b, .func f' a' b' => fnEq f f' && (allEq (vEq d) a.toList a'.toList && allEq (vEq d) b.toList b'.toList)
    | .map none, .map none => true
    | x, y => sameV x y

def blkEq (x y : Blk) : Bool := Nat.beq x.sz y.sz && (x.grown == y.grown && allEq (vEq 8) x.cells y.cells)

def retEq : Ret → Ret → Bool
  | .ret v, .ret w => vEq 8 v w
  | .panic v, .panic w => vEq 8 v w
  | _, _ => false

/-! ### values, written short -/

def nI (n : Nat) : Value := .int .i64 (.ofNat n)
def nY (n : Nat) : Value := .int .u8 (.ofNat n)
def yL : List Nat → List Value
  | [] => []
  | n :: l => nY n :: yL l
def bT : Value := .bool true
def bF : Value := .bool false
def pN : Value := .pointer none
def pA (b o : Nat) : Value := .pointer (some ⟨b, o, none⟩)
def sN : Value := .slice none 0 0
def sA (b o n c : Nat) : Value := .slice (some ⟨b, o, none⟩) n c
def sE : Value := .string ⟨⟨[]⟩⟩
def bytesOf : List Nat → List UInt8
  | [] => []
  | n :: l => .ofNat n :: bytesOf l
def sB (l : List Nat) : Value := .string ⟨⟨bytesOf l⟩⟩

/-! ### a call whose outcome is known: pre: the blocks that it looks at; post: those that are there behind it -/

structure Ent where
  f : FuncId
  args : List Value
  pre : List (Nat × Blk)
  next : Nat
  r : Ret
  post : List (Nat × Blk)
  next2 : Nat

def mkT : List (Nat × Blk) → Tr Blk → Tr Blk
  | [], t => t
  | (i, b) :: l, t => mkT l (t.set (some b) depthH i)

def dropT : List (Nat × Blk) → Tr Blk → Tr Blk
  | [], t => t
  | (i, _) :: l, t => dropT l (t.set none depthH i)

def Ent.h1 (e : Ent) : Hp := ⟨mkT e.pre .nil, e.next⟩
def Ent.app (e : Ent) (h : Hp) : Hp := ⟨mkT e.post (dropT e.pre h.m), e.next2⟩

def has (m : Tr Blk) : List (Nat × Blk) → Bool
  | [] => true
  | (i, b) :: l => (match m.get i with
    | some b' => blkEq b' b
    | none => false) && has m l

def below (n : Nat) : List (Nat × Blk) → Bool
  | [] => true
  | (i, _) :: l => Nat.blt i n && below n l

def tryE (e : Ent) (args : Array Value) (h : Hp) : Option (Ret × Hp) :=
  bif Nat.beq h.next e.next && (allEq (vEq 8) args.toList e.args && has h.m e.pre) then some (e.r, e.app h) else none

def tryL (args : Array Value) (h : Hp) : List Ent → Option (Ret × Hp)
  | [] => none
  | e :: l => orK (tryL args h l) (tryE e args h)

def orcT (t : Tr (List Ent)) (f : FuncId) (args : Array Value) (h : Hp) : Option (Ret × Hp) :=
  match t.get f with
  | some l => tryL args h l
  | none => none

def okK (e : Ent) : Option (Ret × Hp) → Bool
  | some (r, h2) => retEq r e.r && (Nat.beq h2.next e.next2 && (Nat.ble e.next e.next2 && has h2.m e.post))
  | none => false

def okE (C : Ctx) (n : Nat) (e : Ent) : Bool :=
  hasBody C e.f && (below e.next e.pre && (Nat.ble e.next limH && okK e (evFn C n e.f e.args.toArray e.h1)))

end

theorem allEq_eq {eq : Value → Value → Bool} (h : ∀ x y, eq x y = true → x = y) : ∀ {l r : List Value}, allEq eq l r = true → l = r
  | [], [], _ => rfl
  | x :: l, y :: r, e => by
    simp only [allEq, Bool.and_eq_true] at e
    rw [h x y e.1, allEq_eq h e.2]
  | [], _ :: _, e => by cases e
  | _ :: _, [], e => by cases e

theorem fnEq_eq {x y : Fn} (h : fnEq x y = true) : x = y := by
  unfold fnEq at h
  split at h
  · rw [Nat.eq_of_beq_eq_true h]
  · cases h

theorem vEq_eq : ∀ (d : Nat) (x y : Value), vEq d x y = true → x = y
  | 0, _, _, h => by cases h
  | d + 1, x, y, h => by
    have ih := vEq_eq d
    unfold vEq at h
    split at h
    · rw [Array.ext' (allEq_eq ih h)]
    · rw [Array.ext' (allEq_eq ih h)]
    · simp only [Bool.and_eq_true] at h
      rw [Nat.eq_of_beq_eq_true h.1, ih _ _ h.2]
    · simp only [Bool.and_eq_true] at h
      rw [fnEq_eq h.1, Array.ext' (allEq_eq ih h.2.1), Array.ext' (allEq_eq ih h.2.2)]
    · rfl
    · exact sameV_eq h

theorem blkEq_eq {x y : Blk} (h : blkEq x y = true) : x = y := by
  simp only [blkEq, Bool.and_eq_true, beq_iff_eq] at h
  obtain ⟨h1, h2, h3⟩ := h
  cases x; cases y
  simp only at h1 h2 h3
  rw [Nat.eq_of_beq_eq_true h1, h2, allEq_eq (vEq_eq 8) h3]

theorem retEq_eq {x y : Ret} (h : retEq x y = true) : x = y := by
  unfold retEq at h
  split at h
  · rw [vEq_eq 8 _ _ h]
  · rw [vEq_eq 8 _ _ h]
  · cases h

theorem below_spec {n : Nat} : ∀ {l : List (Nat × Blk)}, below n l = true → ∀ i B, (i, B) ∈ l → i < n
  | [], _, i, B, hm => by cases hm
  | (j, b) :: l, h, i, B, hm => by
    simp only [below, Bool.and_eq_true, Nat.blt_eq] at h
    rcases List.mem_cons.1 hm with e | e
    · cases e; exact h.1
    · exact below_spec h.2 i B e

theorem has_spec {m : Tr Blk} : ∀ {l : List (Nat × Blk)}, has m l = true → ∀ i B, (i, B) ∈ l → m.get i = some B
  | [], _, i, B, hm => by cases hm
  | (j, b) :: l, h, i, B, hm => by
    simp only [has, Bool.and_eq_true] at h
    rcases List.mem_cons.1 hm with e | e
    · cases e
      have h1 := h.1
      split at h1
      · rename_i b' hb
        rw [hb, blkEq_eq h1]
      · cases h1
    · exact has_spec h.2 i B e

theorem set_get {m : Tr Blk} {x : Option Blk} {i : Nat} (hi : i < limH) (j : Nat) : (m.set x depthH i).get j = if j = i then x else m.get j := by
  have : limH + 1 < 2 ^ depthH := by decide
  exact Tr.get_set _ _ _ _ _ (by omega)

theorem mkT_get : ∀ {l : List (Nat × Blk)} {t : Tr Blk}, (∀ i B, (i, B) ∈ l → i < limH) → ∀ i B, (mkT l t).get i = some B → (i, B) ∈ l ∨ t.get i = some B
  | [], t, _, i, B, h => .inr h
  | (j, b) :: l, t, hb, i, B, h => by
    simp only [mkT] at h
    rcases mkT_get (fun i B hm => hb i B (by simp [hm])) i B h with h1 | h1
    · exact .inl (by simp [h1])
    · rw [set_get (hb j b (by simp))] at h1
      by_cases e : i = j
      · rw [if_pos e] at h1; cases h1; subst e; exact .inl (by simp)
      · rw [if_neg e] at h1; exact .inr h1

theorem dropT_get : ∀ {l : List (Nat × Blk)} {t : Tr Blk}, (∀ i B, (i, B) ∈ l → i < limH) → ∀ i B, (dropT l t).get i = some B → (∀ B', (i, B') ∉ l) ∧ t.get i = some B
  | [], t, _, i, B, h => ⟨by simp, h⟩
  | (j, b) :: l, t, hb, i, B, h => by
    simp only [dropT] at h
    obtain ⟨h1, h2⟩ := dropT_get (fun i B hm => hb i B (by simp [hm])) i B h
    rw [set_get (hb j b (by simp))] at h2
    by_cases e : i = j
    · rw [if_pos e] at h2; cases h2
    · rw [if_neg e] at h2
      refine ⟨fun B' hm => ?_, h2⟩
      rcases List.mem_cons.1 hm with e' | e'
      · cases e'; exact e rfl
      · exact h1 B' e'

section
variable {C : Ctx} {P : Program}

/-- fewer blocks. -/
theorem WR.sub {g : Gh} {h h1 : Hp} {w : World} (r : WR g h w) (hs : ∀ i B, h1.m.get i = some B → h.m.get i = some B) (hf : ∀ i, h1.next ≤ i → h1.m.get i = none) (hl : h1.next ≤ limH) : WR g h1 w where
  live := fun i B hi => r.live i B (hs i B hi)
  inj := fun i j B B' x y hi hj => r.inj i j B B' x y (hs i B hi) (hs j B' hj)
  fresh := hf
  lim := hl
  base := r.base
  low := fun i B x hi => r.low i B x (hs i B hi)

theorem ent_ok (hC : CtxOk C P) {n : Nat} (hF : FOk P (evFn C n)) {e : Ent} (hok : okE C n e = true) {args : Array Value} {h : Hp} {r : Ret} {h' : Hp}
    (ht : tryE e args h = some (r, h')) : h.next ≤ h'.next ∧ CallOk P e.f args h r h' := by
  unfold okE at hok
  simp only [Bool.and_eq_true] at hok
  obtain ⟨hbd, hbl, hlim, hk⟩ := hok
  have hlim' : e.next ≤ limH := by simpa [Nat.ble_eq] using hlim
  cases hev : evFn C n e.f e.args.toArray e.h1 with
  | none => rw [hev] at hk; cases hk
  | some x =>
    obtain ⟨r2, h2⟩ := x
    rw [hev] at hk
    simp only [okK, Bool.and_eq_true] at hk
    obtain ⟨k1, k2, k3, k4⟩ := hk
    have hr := retEq_eq k1
    have hn2 := Nat.eq_of_beq_eq_true k2
    have hle : e.next ≤ e.next2 := by simpa [Nat.ble_eq] using k3
    unfold tryE at ht
    cases hcond : (Nat.beq h.next e.next && (allEq (vEq 8) args.toList e.args && has h.m e.pre)) with
    | false => rw [hcond] at ht; cases ht
    | true =>
      rw [hcond] at ht
      simp only [cond_true] at ht
      cases ht
      simp only [Bool.and_eq_true] at hcond
      obtain ⟨c1, c2, c3⟩ := hcond
      have hnx := Nat.eq_of_beq_eq_true c1
      have hargs : args = e.args.toArray := by
        apply Array.ext'
        rw [allEq_eq (vEq_eq 8) c2]
      subst hargs
      have hpl : ∀ i B, (i, B) ∈ e.pre → i < limH := fun i B hm => Nat.lt_of_lt_of_le (below_spec hbl i B hm) hlim'
      refine ⟨by simp only [Ent.app]; omega, ?_⟩
      intro g w args' ha hw hfr
      have hsub : ∀ i B, e.h1.m.get i = some B → (i, B) ∈ e.pre := by
        intro i B hi
        rcases mkT_get hpl i B hi with h1 | h1
        · exact h1
        · cases h1
      have hsub' : ∀ i B, e.h1.m.get i = some B → h.m.get i = some B := fun i B hi => has_spec c3 i B (hsub i B hi)
      have hw1 : WR g e.h1 w := by
        refine hw.sub hsub' ?_ hlim'
        intro i hi
        cases hg : e.h1.m.get i with
        | none => rfl
        | some B =>
          have := below_spec hbl i B (hsub i B hg)
          have : e.next ≤ i := hi
          omega
      have hfr1 : Fr g e.h1 h2 := by
        intro i h1 h3
        exact hfr i (by rw [hnx]; exact h1) (by simp only [Ent.app]; omega)
      have hcall := (hF e.f e.args.toArray e.h1 r2 h2 hev).2 g w args' ha hw1 hfr1
      rcases hcall with ⟨q1, q2⟩ | ⟨v, v', _, _, _, q⟩
      · refine .inl ⟨q1, q2.mono ?_⟩
        rintro e' w' ⟨g', s1, s2, s3⟩
        have hpost : ∀ i B, (i, B) ∈ e.post → h2.m.get i = some B := has_spec k4
        have hpb : ∀ i B, (i, B) ∈ e.post → i < limH := by
          intro i B hm
          rcases Nat.lt_or_ge i h2.next with hlt | hge
          · exact Nat.lt_of_lt_of_le hlt s1.lim
          · have := s1.fresh i hge
            rw [hpost i B hm] at this; cases this
        have hget : ∀ i B, (e.app h).m.get i = some B → h2.m.get i = some B ∨ ((∀ B', (i, B') ∉ e.pre) ∧ h.m.get i = some B) := by
          intro i B hi
          rcases mkT_get hpb i B hi with h1 | h1
          · exact .inl (hpost i B h1)
          · exact .inr (dropT_get hpl i B h1)
        have hold : ∀ i B x, (∀ B', (i, B') ∉ e.pre) → h.m.get i = some B → g' i = some x → g i = some x ∧ BR g B x w := by
          intro i B x _ hi hx
          obtain ⟨y, hy, hb⟩ := hw.live i B hi
          rw [s2.ge _ _ hy] at hx; cases hx
          exact ⟨hy, hb⟩
        have himg : ∀ i B x j B' y, h2.m.get i = some B → g' i = some x → (∀ B', (j, B') ∉ e.pre) → h.m.get j = some B' → g' j = some y → x.b ≠ y.b := by
          intro i B x j B' y hi hx hj1 hj hy he
          obtain ⟨hy', hb'⟩ := hold j B' y hj1 hj hy
          rcases s2.img i B x hi hx with ⟨i', B2, z, p1, p2, p3⟩ | p
          · have := hw.inj i' j B2 B' z y (hsub' i' B2 p1) hj p2 hy' (p3.trans he)
            subst this
            exact hj1 B2 (hsub i' B2 p1)
          · have := hb'.lt; omega
        refine ⟨g', ⟨?_, ?_, ?_, ?_, s1.base, ?_⟩, ⟨s2.ge, ?_, ?_, ?_, s2.size, ?_, s2.os, s2.out⟩, ?_⟩
        · intro i B hi
          rcases hget i B hi with h1 | ⟨h1, h3⟩
          · exact s1.live i B h1
          · obtain ⟨x, hx, hb⟩ := hw.live i B h3
            refine ⟨x, s2.ge _ _ hx, (hb.mono s2.ge).of_blk (s2.keep x.b hb.lt ?_)⟩
            intro j B' y hj hy he
            have := hw.inj j i B' B y x (hsub' j B' hj) h3 hy hx he
            subst this
            exact h1 B' (hsub j B' hj)
        · intro i j B B' x y hi hj hx hy he
          rcases hget i B hi with h1 | ⟨h1, h3⟩
          · rcases hget j B' hj with h4 | ⟨h4, h5⟩
            · exact s1.inj i j B B' x y h1 h4 hx hy he
            · exact absurd he (himg i B x j B' y h1 hx h4 h5 hy)
          · rcases hget j B' hj with h4 | ⟨h4, h5⟩
            · exact absurd he.symm (himg j B' y i B x h4 hy h1 h3 hx)
            · exact hw.inj i j B B' x y h3 h5 (hold i B x h1 h3 hx).1 (hold j B' y h4 h5 hy).1 he
        · intro i hi
          have hi' : e.next2 ≤ i := hi
          cases hg : (e.app h).m.get i with
          | none => rfl
          | some B =>
            exfalso
            rcases hget i B hg with h1 | ⟨_, h3⟩
            · rw [s1.fresh i (by omega)] at h1; cases h1
            · rw [hw.fresh i (by omega)] at h3; cases h3
        · have := s1.lim
          simp only [Ent.app]; omega
        · intro i B x hi hx
          rcases hget i B hi with h1 | ⟨h1, h3⟩
          · exact s1.low i B x h1 hx
          · exact hw.low i B x h3 (hold i B x h1 h3 hx).1
        · intro i x hx
          rcases s2.new i x hx with h1 | ⟨h1, h3⟩
          · exact .inl h1
          · refine .inr ⟨?_, ?_⟩
            · have : e.next ≤ i := h1
              omega
            · simp only [Ent.app]; omega
        · intro b hb hno
          exact s2.keep b hb fun i B x hi hx => hno i B x (hsub' i B hi) hx
        · intro i B x hi hx
          rcases hget i B hi with h1 | ⟨h1, h3⟩
          · rcases s2.img i B x h1 hx with ⟨j, B', y, p1, p2, p3⟩ | p
            · exact .inl ⟨j, B', y, hsub' j B' p1, p2, p3⟩
            · exact .inr p
          · exact .inl ⟨i, B, x, h3, (hold i B x h1 h3 hx).1, rfl⟩
        · simp only [Ent.app]; omega
        · rw [← hr]; exact s3
      · exfalso
        unfold hasBody at hbd
        split at hbd
        · rename_i fn hfn
          obtain ⟨c, hc⟩ := Option.isSome_iff_exists.1 hbd
          rw [callFunc_enter hC hfn hc] at q
          cases q
        · cases hbd

/-- entries, each of which is proved. -/
def TabOk (P : Program) (t : Tr (List Ent)) : Prop :=
  ∀ f l, t.get f = some l → ∀ e ∈ l, ∀ (args : Array Value) (h : Hp) (r : Ret) (h' : Hp), tryE e args h = some (r, h') → h.next ≤ h'.next ∧ CallOk P f args h r h'

theorem orc_ok {t : Tr (List Ent)} (ht : TabOk P t) : FOk P (orcT t) := by
  intro f args h r h' e
  unfold orcT at e
  split at e
  · rename_i l hl
    have key : ∀ (k : List Ent), (∀ x ∈ k, x ∈ l) → tryL args h k = some (r, h') → h.next ≤ h'.next ∧ CallOk P f args h r h' := by
      intro k
      induction k with
      | nil => intro _ e; cases e
      | cons x k ih =>
        intro hk e
        simp only [tryL] at e
        cases hx : tryE x args h with
        | none => rw [hx] at e; exact ih (fun y hy => hk y (by simp [hy])) e
        | some y =>
          rw [hx] at e
          simp only [orK] at e
          cases e
          exact ht f l hl x (hk x (by simp)) args h r h' hx
    exact key l (fun _ h => h) e
  · cases e

/-- the same context with another oracle. -/
theorem CtxOk.with (hC : CtxOk C P) (o : FuncId → Array Value → Hp → Option (Ret × Hp)) : CtxOk { C with orc := o } P :=
  ⟨hC.ty, hC.fn, hC.name, hC.eqg, hC.eqs, hC.zc, hC.zs, hC.mixed⟩

theorem FnsOk.with (h : FnsOk C P) (o : FuncId → Array Value → Hp → Option (Ret × Hp)) : FnsOk { C with orc := o } P := ⟨h.good, h.ext⟩

theorem TrapSpec.with (h : TrapSpec C P) (o : FuncId → Array Value → Hp → Option (Ret × Hp)) : TrapSpec { C with orc := o } P := h

/-- no oracle. -/
theorem none_ok : FOk P (fun _ _ _ => none) := by
  intro f args h r h' e; cases e

theorem evFn_with (hC : CtxOk C P) (hFn : FnsOk C P) (hT : TrapSpec C P) {t : Tr (List Ent)} (ht : TabOk P t) (n : Nat) : FOk P (evFn { C with orc := orcT t } n) :=
  evFn_sound (hC.with _) (hFn.with _) (hT.with _) (orc_ok ht) (drawnSound _ _) n

end
end Ev
namespace Ev
open Go

noncomputable section

/-- a list as a trie. -/
def trGo {α : Type} : List α → Nat → Tr α → Tr α
  | [], _, t => t
  | a :: l, i, t => trGo l (Nat.succ i) (t.set (some a) depthT i)
def trOf {α : Type} (l : List α) : Tr α := trGo l 0 .nil

/-! ### operations in another order -/

def ren (p : List Nat) (o : Oper) : Oper :=
  { o with after := o.after.map fun e => { e with on := p.idxOf e.on }, guard := o.guard.map fun x => (p.idxOf x.1, x.2) }

def permR (p : List Nat) (ops : Array Oper) : Array Oper := (p.map fun i => ren p (ops.getD i default)).toArray

def opIn (n : Nat) (o : Oper) : Bool :=
  (o.after.toList.all fun e => !(Region.binds .any e) || Nat.blt e.on n) && (match o.guard with
    | none => true
    | some x => Nat.blt x.1 n)

def permOkB (p : List Nat) (ops : Array Oper) : Bool :=
  Nat.beq p.length ops.size && (((List.range ops.size).all fun i => p.contains i) && ((p.all fun i => Nat.blt i ops.size) &&
    (((List.range ops.size).all fun k => Nat.beq (p.idxOf (p.getD k 0)) k) && ops.toList.all (opIn ops.size))))

def lookN {α : Type} (k : Nat) : List (Nat × α) → Option α
  | [] => none
  | (i, a) :: l => bif Nat.beq i k then some a else lookN k l

def permQ (id : Nat) (ops : Array Oper) (draw : Bool) : Option (List Nat) → Code
  | some p => bif draw then .region id (permR p ops) true else .region id ops draw
  | none => .region id ops draw

def permC (ps : List (Nat × List Nat)) : Code → Code
  | .seq x y => .seq (permC ps x) (permC ps y)
  | .cond t x y => .cond t (permC ps x) (permC ps y)
  | .block id x => .block id (permC ps x)
  | .loop x => .loop (permC ps x)
  | .region id ops draw => permQ id ops draw (lookN id ps)
  | c => c

def permOkC (ps : List (Nat × List Nat)) : Code → Bool
  | .seq x y => permOkC ps x && permOkC ps y
  | .cond _ x y => permOkC ps x && permOkC ps y
  | .block _ x => permOkC ps x
  | .loop x => permOkC ps x
  | .region id ops _ => match lookN id ps with
    | some p => permOkB p ops
    | none => true
  | _ => true

/-- what a seat gives beside its program: bad: functions that are left out; perm: regions in another order. -/
structure Ids where
  eqs : List TypeId
  run : FuncId
  ern : TypeId
  fbits : FuncId
  ffrom : FuncId
  ftrunc : FuncId
  bad : List FuncId
  perm : List (FuncId × List (Nat × List Nat))

def fnOf (I : Ids) (i : Nat) (fn : Func) : Func :=
  match lookN i I.perm with
  | none => fn
  | some ps => { fn with body := fn.body.map (permC ps) }

def trFn (I : Ids) : List Func → Nat → Tr Func → Tr Func
  | [], _, t => t
  | a :: l, i, t => trFn I l (Nat.succ i) (bif I.bad.contains i then t else t.set (some (fnOf I i a)) depthT i)

def ctxOf (P : Program) (I : Ids) : Ctx where
  ty := trOf P.types.toList
  fn := trFn I P.funcs.toList 0 .nil
  eqs := I.eqs
  run := I.run
  ern := I.ern
  fbits := I.fbits
  ffrom := I.ffrom
  ftrunc := I.ftrunc
  orc := fun _ _ _ => none

/-- the facts on a program's types and functions, for the kernel. -/
def zeroOk (i : TypeInfo) : Bool :=
  match noTuple i.zero with
  | some z => z.cells.toList.all closedV && Nat.beq z.cells.size i.size
  | none => true

def fnGood (fn : Func) : Bool :=
  (!(fn.name == "runtime.NumGoroutine")) &&
  match fn.body with
  | some c => goodC fn.ntmps c && Nat.ble fn.ntmps 4000
  | none => true

def typesOk : List TypeInfo → Bool
  | [] => true
  | i :: l => zeroOk i && typesOk l
def fnsOk (I : Ids) : List Func → Nat → Bool
  | [], _ => true
  | f :: l, i => (I.bad.contains i || (fnGood (fnOf I i f) && (match lookN i I.perm with
    | none => true
    | some ps => match f.body with
      | none => true
      | some c => permOkC ps c))) && fnsOk I l (Nat.succ i)
def eqsOk (P : Program) : List TypeId → Bool
  | [] => true
  | t :: l => !(P.eqGuardType P.depth t) && (!(P.stoodInHeld t) && eqsOk P l)

end

theorem trGo_get {α : Type} : ∀ (l : List α) (i : Nat) (t : Tr α), i + l.length ≤ 4000 → ∀ n, (trGo l i t).get n = if i ≤ n ∧ n < i + l.length then l[n - i]? else t.get n
  | [], i, t, _, n => by
    simp only [trGo, List.length_nil]
    rw [if_neg (by omega)]
  | a :: l, i, t, h, n => by
    simp only [List.length_cons] at h
    simp only [trGo, List.length_cons]
    have hp : (2 : Nat) ^ depthT = 4096 := by decide
    rw [trGo_get l (i + 1) _ (by omega) n, Tr.get_set _ depthT t i n (by omega)]
    by_cases h1 : i + 1 ≤ n ∧ n < i + 1 + l.length
    · rw [if_pos h1, if_pos (by omega), show n - i = (n - (i + 1)) + 1 by omega]
      rfl
    · rw [if_neg h1]
      by_cases h2 : n = i
      · subst h2
        rw [if_pos rfl, if_pos (by omega), Nat.sub_self]
        rfl
      · rw [if_neg h2, if_neg (by omega)]

theorem trOf_get {α : Type} {l : List α} (h : l.length ≤ 4000) (n : Nat) : (trOf l).get n = l[n]? := by
  unfold trOf
  rw [trGo_get l 0 .nil (by omega) n]
  by_cases h1 : n < l.length
  · rw [if_pos (by omega), Nat.sub_zero]
  · rw [if_neg (by omega), List.getElem?_eq_none (by omega)]
    rfl

theorem typesOk_spec : ∀ {l : List TypeInfo}, typesOk l = true → ∀ i ∈ l, zeroOk i = true
  | [], _, i, hi => by cases hi
  | j :: l, h, i, hi => by
    simp only [typesOk, Bool.and_eq_true] at h
    rcases List.mem_cons.1 hi with e | e
    · subst e; exact h.1
    · exact typesOk_spec h.2 i e

theorem fnsOk_spec {I : Ids} : ∀ {l : List Func} {k : Nat}, fnsOk I l k = true → ∀ (j : Nat) (f : Func), l[j]? = some f → I.bad.contains (k + j) = true ∨ (fnGood (fnOf I (k + j) f) = true ∧ ∀ ps c, lookN (k + j) I.perm = some ps → f.body = some c → permOkC ps c = true)
  | [], _, _, j, f, hj => by simp at hj
  | g :: l, k, h, 0, f, hj => by
    simp only [List.getElem?_cons_zero, Option.some.injEq] at hj
    subst hj
    simp only [fnsOk, Bool.and_eq_true, Bool.or_eq_true] at h
    rcases h.1 with h1 | ⟨h1, h2⟩
    · exact .inl h1
    · refine .inr ⟨h1, ?_⟩
      intro ps c hps hc
      rw [Nat.add_zero] at hps
      rw [hps, hc] at h2
      exact h2
  | g :: l, k, h, j + 1, f, hj => by
    simp only [List.getElem?_cons_succ] at hj
    simp only [fnsOk, Bool.and_eq_true] at h
    have := fnsOk_spec h.2 j f hj
    rwa [show Nat.succ k + j = k + (j + 1) by omega] at this

theorem fnsOk_append {I : Ids} : ∀ {l r : List Func} {k : Nat}, fnsOk I l k = true → fnsOk I r (k + l.length) = true → fnsOk I (l ++ r) k = true
  | [], _, _, _, h => h
  | j :: l, r, k, h, h' => by
    simp only [fnsOk, List.cons_append] at h ⊢
    rw [Bool.and_eq_true] at h ⊢
    refine ⟨h.1, fnsOk_append h.2 ?_⟩
    rw [show Nat.succ k + l.length = k + (j :: l).length by simp; omega]
    exact h'

theorem lookN_ren {p : List Nat} (o : Oper) : (ren p o).op = o.op ∧ (ren p o).dst = o.dst ∧ (ren p o).type = o.type ∧ (ren p o).pos = o.pos := ⟨rfl, rfl, rfl, rfl⟩

theorem permOk_of {p : List Nat} {ops : Array Oper} (h : permOkB p ops = true) : PermOk (permR p ops) ops := by
  unfold permOkB at h
  simp only [Bool.and_eq_true, List.all_eq_true, List.mem_range] at h
  obtain ⟨h1, h2, h3, h4, h5⟩ := h
  have hlen := Nat.eq_of_beq_eq_true h1
  have hmem : ∀ i, i < ops.size → i ∈ p := fun i hi => by simpa using h2 i hi
  have hix : ∀ i, i < ops.size → p.idxOf i < ops.size := fun i hi => by rw [← hlen]; exact List.idxOf_lt_length_of_mem (hmem i hi)
  have hget : ∀ i, i < ops.size → p[p.idxOf i]? = some i := by
    intro i hi
    have hlt : p.idxOf i < p.length := by rw [hlen]; exact hix i hi
    rw [List.getElem?_eq_getElem hlt, List.getElem_idxOf hlt]
  have hin : ∀ (i : Nat) (o : Oper), ops[i]? = some o → opIn ops.size o = true := fun i o ho => h5 o (by rw [Array.mem_toList_iff]; exact Array.mem_of_getElem? ho)
  refine ⟨fun i => p.idxOf i, by simp [permR, hlen], hix, ?_, ?_, ?_⟩
  · intro k hk
    have hkp : k < p.length := by omega
    refine ⟨p.getD k 0, ?_, Nat.eq_of_beq_eq_true (h4 k hk)⟩
    have : p.getD k 0 ∈ p := by simp [hkp]
    have := h3 _ this
    simpa [Nat.blt_eq] using this
  · intro i j hi hj he
    have h6 := hget i hi
    simp only at he
    rw [he, hget j hj] at h6
    exact (Option.some.inj h6).symm
  · intro i o ho
    have hi : i < ops.size := (Array.getElem?_eq_some_iff.1 ho).1
    have hopin := hin i o ho
    unfold opIn at hopin
    simp only [Bool.and_eq_true, List.all_eq_true] at hopin
    obtain ⟨k1, k2⟩ := hopin
    have hedge : ∀ e ∈ o.after, Region.binds .any e = true → e.on < ops.size := by
      intro e he hb
      have := k1 e (by simpa using he)
      simpa [hb, Nat.blt_eq] using this
    refine ⟨ren p o, ?_, rfl, rfl, rfl, rfl, ?_, ?_, ?_⟩
    · unfold permR
      rw [List.getElem?_toArray, List.getElem?_map, hget i hi]
      simp only [Option.map_some, Array.getD_eq_getD_getElem?, ho, Option.getD_some]
    · intro e he hb
      exact ⟨hedge e he hb, { e with on := p.idxOf e.on }, Array.mem_map.2 ⟨e, he, rfl⟩, hb, rfl⟩
    · intro e' he' hb
      obtain ⟨e, he, rfl⟩ := Array.mem_map.1 (show e' ∈ o.after.map _ from he')
      exact ⟨e, he, hb, hedge e he hb, rfl⟩
    · cases hg : o.guard with
      | none => exact .inl ⟨rfl, by show o.guard.map _ = none; rw [hg]; rfl⟩
      | some x =>
        obtain ⟨j, b⟩ := x
        rw [hg] at k2
        exact .inr ⟨j, b, by simpa [Nat.blt_eq] using k2, rfl, by show o.guard.map _ = _; rw [hg]; rfl⟩

theorem permC_like {ps : List (Nat × List Nat)} : ∀ (c : Code), permOkC ps c = true → CLike (permC ps c) c := by
  intro c
  induction c with
  | seq x y ihx ihy =>
    intro h
    simp only [permOkC, Bool.and_eq_true] at h
    exact .seq (ihx h.1) (ihy h.2)
  | cond t x y ihx ihy =>
    intro h
    simp only [permOkC, Bool.and_eq_true] at h
    exact .cond t (ihx h.1) (ihy h.2)
  | block id x ih => intro h; exact .block id (ih h)
  | loop x ih => intro h; exact .loop (ih h)
  | region id ops draw =>
    intro h
    simp only [permOkC] at h
    simp only [permC]
    cases hl : lookN id ps with
    | none => exact .refl _
    | some p =>
      rw [hl] at h
      simp only [permQ]
      cases draw with
      | false => exact .refl _
      | true => exact .region id _ _ (permOk_of h)
  | _ => intro _; exact .refl _

theorem fnOf_like {I : Ids} {i : Nat} {fn : Func} (h : ∀ ps c, lookN i I.perm = some ps → fn.body = some c → permOkC ps c = true) : FnLike (fnOf I i fn) fn := by
  unfold fnOf
  cases hl : lookN i I.perm with
  | none => exact FnLike.refl fn
  | some ps =>
    refine ⟨rfl, rfl, rfl, ?_, ?_⟩
    · intro hb
      cases hf : fn.body with
      | none => rfl
      | some c => simp [hf] at hb
    · intro c' hb
      simp only [Option.map_eq_some_iff] at hb
      obtain ⟨c, hc, rfl⟩ := hb
      exact ⟨c, hc, permC_like c (h ps c hl hc)⟩

theorem trFn_get (I : Ids) : ∀ (l : List Func) (i : Nat) (t : Tr Func), i + l.length ≤ 4000 → ∀ n fn, (trFn I l i t).get n = some fn →
    (i ≤ n ∧ I.bad.contains n = false ∧ ∃ f, l[n - i]? = some f ∧ fn = fnOf I n f) ∨ t.get n = some fn
  | [], i, t, _, n, fn, h => .inr h
  | a :: l, i, t, hl, n, fn, h => by
    simp only [List.length_cons] at hl
    simp only [trFn] at h
    have hp : (2 : Nat) ^ depthT = 4096 := by decide
    rcases trFn_get I l (Nat.succ i) _ (by omega) n fn h with ⟨h1, h2, f, h3, h4⟩ | h1
    · refine .inl ⟨by omega, h2, f, ?_, h4⟩
      rw [show n - i = (n - Nat.succ i) + 1 by omega]
      simpa using h3
    · cases hb : I.bad.contains i with
      | true => rw [hb] at h1; exact .inr h1
      | false =>
        rw [hb] at h1
        simp only [cond_false] at h1
        rw [Tr.get_set _ depthT t i n (by omega)] at h1
        by_cases e : n = i
        · rw [if_pos e] at h1
          cases h1
          subst e
          exact .inl ⟨Nat.le_refl _, hb, a, by simp, rfl⟩
        · rw [if_neg e] at h1
          exact .inr h1

theorem eqsOk_spec {P : Program} : ∀ {l : List TypeId}, eqsOk P l = true → ∀ t ∈ l, P.eqGuardType P.depth t = false ∧ P.stoodInHeld t = false
  | [], _, i, hi => by cases hi
  | j :: l, h, i, hi => by
    simp only [eqsOk, Bool.and_eq_true, Bool.not_eq_true'] at h
    rcases List.mem_cons.1 hi with e | e
    · subst e; exact ⟨h.1, h.2.1⟩
    · exact eqsOk_spec h.2.2 i e

theorem ctxFn {P : Program} {I : Ids} (h2 : P.funcs.toList.length ≤ 4000) (hf : fnsOk I P.funcs.toList 0 = true) {f : FuncId} {fn : Func} (h : (ctxOf P I).fn.get f = some fn) :
    ∃ fn0, P.funcs[f]? = some fn0 ∧ FnLike fn fn0 ∧ fnGood fn = true := by
  rcases trFn_get I _ 0 .nil (by simpa using h2) f fn h with ⟨_, h3, fn0, h4, h5⟩ | h3
  · rw [Nat.sub_zero] at h4
    rcases fnsOk_spec hf f fn0 h4 with h6 | ⟨h6, h7⟩
    · rw [Nat.zero_add, h3] at h6; cases h6
    · rw [Nat.zero_add] at h6 h7
      subst h5
      exact ⟨fn0, by simpa using h4, fnOf_like h7, h6⟩
  · cases h3

theorem ctxOf_ok {P : Program} {I : Ids} (h1 : P.types.toList.length ≤ 4000) (h2 : P.funcs.toList.length ≤ 4000) (ht : typesOk P.types.toList = true) (hf : fnsOk I P.funcs.toList 0 = true)
    (he : eqsOk P I.eqs = true) (hm : P.follows .mixedOrders = true) : CtxOk (ctxOf P I) P := by
  have hty : ∀ t i, (ctxOf P I).ty.get t = some i → P.types[t]? = some i := by
    intro t i h
    have : (trOf P.types.toList).get t = some i := h
    rw [trOf_get h1] at this
    simpa using this
  have hz : ∀ t i, P.types[t]? = some i → zeroOk i = true := fun t i h => typesOk_spec ht i (by rw [Array.mem_toList_iff]; exact Array.mem_of_getElem? h)
  have hzt : ∀ t z, zeroT (ctxOf P I) t = some z → ∃ i, P.types[t]? = some i ∧ noTuple i.zero = some z := by
    intro t z h
    unfold zeroT at h
    rw [Option.bind_eq_some_iff] at h
    obtain ⟨i, h3, h4⟩ := h
    exact ⟨i, hty t i h3, h4⟩
  refine ⟨?_, ?_, ?_, fun t ht => (eqsOk_spec he t ht).1, fun t ht => (eqsOk_spec he t ht).2, ?_, ?_, hm⟩
  · intro t i h
    have h3 := hty t i h
    have : t < P.types.size := (Array.getElem?_eq_some_iff.1 h3).1
    unfold Tables.info?
    rw [if_pos this]
    exact h3
  · intro f fn h
    obtain ⟨fn0, a, b, _⟩ := ctxFn h2 hf h
    exact ⟨fn0, a, b⟩
  · intro f fn h
    obtain ⟨_, _, _, this⟩ := ctxFn h2 hf h
    simp only [fnGood, Bool.and_eq_true, Bool.not_eq_true'] at this
    exact this.1
  · intro t z h
    obtain ⟨i, h3, h4⟩ := hzt t z h
    have := hz t i h3
    unfold zeroOk at this
    rw [h4] at this
    simp only [Bool.and_eq_true] at this
    exact this.1
  · intro t z n h h5
    obtain ⟨i, h3, h4⟩ := hzt t z h
    have := hz t i h3
    unfold zeroOk at this
    rw [h4] at this
    simp only [Bool.and_eq_true] at this
    have e := Nat.eq_of_beq_eq_true this.2
    rw [e]
    unfold sizeT at h5
    rw [Option.map_eq_some_iff] at h5
    obtain ⟨j, h6, h7⟩ := h5
    have := hty t j h6
    rw [h3] at this; cases this
    exact h7

/-- the two functions without a body that the evaluator knows. -/
theorem fnsOk_of {P : Program} {I : Ids} (h2 : P.funcs.toList.length ≤ 4000) (hf : fnsOk I P.funcs.toList 0 = true)
    (hb : ∀ b (w : World), (callFunc I.fbits #[.float .f64 b]).run P w = .ok (.value (.int .u64 b)) w)
    (hr : ∀ (b : Nat) (w : World), (callFunc I.ffrom #[.int .u64 (.ofNat b)]).run P w = .ok (.value (.float .f64 b)) w) : FnsOk (ctxOf P I) P := by
  refine ⟨?_, ?_⟩
  · intro f fn c h hc
    obtain ⟨_, _, _, this⟩ := ctxFn h2 hf h
    simp only [fnGood, Bool.and_eq_true, hc, Nat.ble_eq] at this
    exact this.2
  · intro f fn args v _ _ he w
    unfold extV at he
    split at he
    · rename_i b ha
      cases hq : Nat.beq f (ctxOf P I).fbits with
      | false => rw [hq] at he; cases he
      | true =>
        rw [hq] at he; cases he
        have e1 := Nat.eq_of_beq_eq_true hq
        have e2 : args = #[.float .f64 b] := Array.ext' ha
        subst e1 e2
        exact hb b w
    · rename_i b ha
      cases hq : Nat.beq f (ctxOf P I).ffrom with
      | false => rw [hq] at he; cases he
      | true =>
        rw [hq] at he; cases he
        have e1 := Nat.eq_of_beq_eq_true hq
        have e2 : args = #[.int .u64 (.ofNat b)] := Array.ext' ha
        subst e1 e2
        exact hr b w
    · cases he

/-- entries, as a table. -/
noncomputable def tabGo : List Ent → Tr (List Ent) → Tr (List Ent)
  | [], t => t
  | e :: l, t => tabGo l (t.set (some (e :: (t.get e.f).getD [])) depthT e.f)
noncomputable def tabOf (l : List Ent) : Tr (List Ent) := tabGo l .nil

theorem tabGo_ok {P : Program} : ∀ (l : List Ent) (t : Tr (List Ent)), TabOk P t → (∀ e ∈ l, e.f < 4000 ∧ ∀ (args : Array Value) (h : Hp) (r : Ret) (h' : Hp), tryE e args h = some (r, h') → h.next ≤ h'.next ∧ CallOk P e.f args h r h') → TabOk P (tabGo l t)
  | [], t, ht, _ => ht
  | e :: l, t, ht, hl => by
    refine tabGo_ok l _ ?_ (fun x hx => hl x (by simp [hx]))
    obtain ⟨h1, h2⟩ := hl e (by simp)
    have h1' : Nat.lt e.f 4000 := h1
    have h1'' : e.f + 1 < 2 ^ depthT := by
      have hp : (2 : Nat) ^ depthT = 4096 := by decide
      rw [hp]
      exact Nat.lt_trans (Nat.succ_lt_succ h1') (by decide)
    intro f k hk x hx args h r h' hxx
    rw [Tr.get_set _ depthT t e.f f h1''] at hk
    by_cases e1 : f = e.f
    · rw [if_pos e1] at hk
      cases hk
      subst e1
      rcases List.mem_cons.1 hx with e2 | e2
      · subst e2; exact h2 args h r h' hxx
      · cases hg : t.get e.f with
        | none => rw [hg] at e2; cases e2
        | some k => rw [hg] at e2; exact ht e.f k hg x e2 args h r h' hxx
    · rw [if_neg e1] at hk
      exact ht f k hk x hx args h r h' hxx

theorem tabOf_ok {P : Program} {l : List Ent} (hl : ∀ e ∈ l, e.f < 4000 ∧ ∀ (args : Array Value) (h : Hp) (r : Ret) (h' : Hp), tryE e args h = some (r, h') → h.next ≤ h'.next ∧ CallOk P e.f args h r h') : TabOk P (tabOf l) :=
  tabGo_ok l .nil (fun f k hk => by cases hk) hl

/-- a call whose outcome is known, and proved. -/
def EntOk (P : Program) (e : Ent) : Prop :=
  e.f < 4000 ∧ ∀ (args : Array Value) (h : Hp) (r : Ret) (h' : Hp), tryE e args h = some (r, h') → h.next ≤ h'.next ∧ CallOk P e.f args h r h'

theorem entNil {P : Program} : ∀ e ∈ ([] : List Ent), EntOk P e := fun _ h => by cases h

theorem entCons {P : Program} {C : Ctx} (hC : CtxOk C P) (hFn : FnsOk C P) (hT : TrapSpec C P) {l : List Ent} (hl : ∀ e ∈ l, EntOk P e) {n : Nat} {e : Ent}
    (hf : Nat.blt e.f 4000 = true) (hok : okE { C with orc := orcT (tabOf l) } n e = true) : ∀ x ∈ e :: l, EntOk P x := by
  intro x hx
  rcases List.mem_cons.1 hx with h | h
  · subst h
    refine ⟨by simpa [Nat.blt_eq] using hf, ?_⟩
    intro args h r h' ht
    exact ent_ok (hC.with _) (evFn_with hC hFn hT (tabOf_ok hl) n) hok ht
  · exact hl x h

theorem evFn_ents {P : Program} {C : Ctx} (hC : CtxOk C P) (hFn : FnsOk C P) (hT : TrapSpec C P) {l : List Ent} (hl : ∀ e ∈ l, EntOk P e) (n : Nat) :
    FOk P (evFn { C with orc := orcT (tabOf l) } n) := evFn_with hC hFn hT (tabOf_ok hl) n

/-- a closed function that says true. -/
theorem says_true {P : Program} {C : Ctx} {n : Nat} {w : World} (hb0 : Base w) (hC : CtxOk C P) (hF : FOk P (evFn C n)) {f : FuncId} (hb : hasBody C f = true) (h : saysTrue (evFn C n f #[] ⟨.nil, 16⟩) = true) :
    Calls P f #[] w fun e w' => e = .returned (.bool true) ∧ (∀ b, b < w.heap.size → w'.heap[b]? = w.heap[b]?) ∧ w.heap.size ≤ w'.heap.size ∧ w'.os = w.os ∧ w'.output = w.output := by
  unfold saysTrue at h
  split at h
  · rename_i h' he
    have h0 : WR (fun _ => none) ⟨.nil, 16⟩ w := by
      refine ⟨?_, ?_, fun _ _ => rfl, by decide, hb0, fun i B x hi => by cases hi⟩
      · intro i B hi; cases hi
      · intro i j B B' x y hi; cases hi
    rcases (hF f #[] ⟨.nil, 16⟩ _ h' he).2 (fun _ => none) w #[] .nil h0 (fun _ _ _ => rfl) with ⟨_, q⟩ | ⟨v, v', _, _, _, q⟩
    · refine q.mono ?_
      rintro e w' ⟨g', _, s2, v', s3, rfl⟩
      refine ⟨?_, ?_, s2.size, s2.os, s2.out⟩
      · generalize hv : Value.bool true = u at s3
        cases s3 <;> cases hv
        rfl
      · intro b hb
        refine s2.keep b hb ?_
        intro i B x hi; cases hi
    · exfalso
      unfold hasBody at hb
      split at hb
      · rename_i fn hfn
        obtain ⟨c, hc⟩ := Option.isSome_iff_exists.1 hb
        rw [callFunc_enter hC hfn hc] at q
        cases q
      · cases hb
  · cases h

end Ev
namespace Ev
open Go Go.ChangeShapes Go.WideShapes

section
variable {H : Type} {enc : TypeId × Value → H} {P : Program}

/-- what was there is as it was: frozen cells too. -/
theorem frozen_old {W W' : World} (h : ∀ b, b < W.heap.size → W'.heap[b]? = W.heap[b]?) (a : Addr) (ha : a.block < W.heap.size) : W'.frozen? a = W.frozen? a := by
  unfold World.frozen?
  rw [h a.block ha]

theorem kept_old {W W' : World} (h : ∀ b, b < W.heap.size → W'.heap[b]? = W.heap[b]?) (ho : W'.os = W.os) (ht : W'.output = W.output) (may : MemPlace → Prop) : W.keptBut W' may := by
  refine ⟨ho, ht, ?_⟩
  intro i hi
  rw [h i hi]
  cases hx : W.heap[i]? with
  | none => simp
  | some o => cases o <;> simp

/-- the arguments and variables are as they were, as is all that was there; whatever is new. -/
theorem post_of_old {f : Func} {s : ChangeSpec} {apart fresh handsOn again : Bool} {W W' : World} {args : Array Value} {v : Value} {ds gs : List (DataW H)} {before pa pv : List MemPlace}
    (hW : DataW.Whole enc P f.params.toList s.vars apart W args.toList ds gs before)
    (hres : ∀ (b : Nat) (sp : Nat → Bool) (hd : Bool), DataW.TrodAll enc P W' b sp hd f.resultTypes.toList (v.resultList f.resultTypes.size) (s.fn H (ds ++ gs)).results [])
    (hargs : ∀ sp : Nat → Bool, (∀ p ∈ before, sp p.block = true) → DataW.TrodAll enc P W' 0 sp true f.params.toList args.toList (s.fn H (ds ++ gs)).args pa)
    (hvars : ∀ sp : Nat → Bool, (∀ p ∈ before, sp p.block = true) → DataW.TrodVars enc P W' sp s.vars (s.fn H (ds ++ gs)).vars pv)
    (hps : before = pa ++ pv) (hold : ∀ b, b < W.heap.size → W'.heap[b]? = W.heap[b]?) (ho : W'.os = W.os) (ht : W'.output = W.output)
    (hok : ∀ (j : Nat) (t : TypeId) (r : Value), f.resultTypes[j]? = some t → (v.resultList f.resultTypes.size)[j]? = some r → Value.okWide P W' .any 0 t r) :
    s.post enc P f apart fresh handsOn again W args v W' := by
  have hlt : ∀ p ∈ before, p.block < W.heap.size := fun p hp => hW.lt p hp
  have hold' : ∀ p ∈ before, (fun b => decide (b < W.heap.size)) p.block = true := fun p hp => by simpa using hW.lt p hp
  refine ⟨ds, gs, before, [], pa, pv, hW, hres _ _ _, hargs _ hold', hvars _ hold', World.keptBut_mono (fun p hp => ⟨hp, ?_⟩) (kept_old hold ho ht (· ∈ before)), fun _ => ?_⟩
  · rw [hps, List.mem_append] at hp
    exact Or.inr hp
  · obtain ⟨_, _, _, _, _, hz, hn⟩ := hW
    refine ⟨hok, _, _, ([] ++ pa) ++ pv, ⟨[] ++ pa, pv, trodAll_append (hargs _ (fun _ _ => rfl)) (hres _ _ _), hvars _ (fun _ _ => rfl), rfl, ?_, ?_⟩, ?_⟩
    · intro b off hp
      have hm : MemPlace.cell b off ∈ before := by rw [hps]; simpa using hp
      rw [frozen_old hold _ (hlt _ hm)]
      exact hz b off hm
    · intro ha
      have := hn ha
      rw [hps] at this
      simpa using this
    · intro p hp _
      rw [hps]
      simpa using hp

end
end Ev
