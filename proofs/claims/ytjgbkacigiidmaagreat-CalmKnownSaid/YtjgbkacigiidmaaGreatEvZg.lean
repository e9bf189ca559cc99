import Derived.Test.YtjgbkacigiidmaaGreatEvZf
namespace Ev
open Go

noncomputable section

/-! ### equality of values, for the kernel -/

def allEq (eq : Value → Value → Bool) : List Value → List Value → Bool
  | [], [] => true
  | x :: l, y :: r => eq x y && allEq eq l r
  | _, _ => false

def fnEq : Fn → Fn → Bool
  | .func a, .func b => Nat.beq a b
  | _, _ => false

def vEq : Nat → Value → Value → Bool
  | 0, _, _ => false
  | d + 1, x, y =>
    match x, y with
    | .agg a, .agg b => allEq (vEq d) a.toList b.toList
    | .tuple a, .tuple b => allEq (vEq d) a.toList b.toList
    | .iface t v, .iface u w => Nat.beq t u && vEq d v w
    | .func f a b, .func f' a' b' => fnEq f f' && (allEq (vEq d) a.toList a'.toList && allEq (vEq d) b.toList b'.toList)
    | .map none, .map none => true
    | x, y => sameV x y

def blkEq (x y : Blk) : Bool := Nat.beq x.sz y.sz && (x.grown == y.grown && allEq (vEq 8) x.cells y.cells)

def retEq : Ret → Ret → Bool
  | .ret v, .ret w => vEq 8 v w
  | .panic v, .panic w => vEq 8 v w
  | _, _ => false

/-! ### values, written short -/

def nI (n : Nat) : Value := .int .i64 (.ofNat n)
def nY (n : Nat) : Value := .int .u8 (.ofNat n)
def yL : List Nat → List Value
  | [] => []
  | n :: l => nY n :: yL l
def bT : Value := .bool true
def bF : Value := .bool false
def pN : Value := .pointer none
def pA (b o : Nat) : Value := .pointer (some ⟨b, o, none⟩)
def sN : Value := .slice none 0 0
def sA (b o n c : Nat) : Value := .slice (some ⟨b, o, none⟩) n c
def sE : Value := .string ⟨⟨[]⟩⟩
def bytesOf : List Nat → List UInt8
  | [] => []
  | n :: l => .ofNat n :: bytesOf l
def sB (l : List Nat) : Value := .string ⟨⟨bytesOf l⟩⟩

/-! ### a call whose outcome is known: pre: the blocks that it looks at; post: those that are there behind it -/

structure Ent where
  f : FuncId
  args : List Value
  pre : List (Nat × Blk)
  next : Nat
  r : Ret
  post : List (Nat × Blk)
  next2 : Nat

def mkT : List (Nat × Blk) → Tr Blk → Tr Blk
  | [], t => t
  | (i, b) :: l, t => mkT l (t.set (some b) depthH i)

def dropT : List (Nat × Blk) → Tr Blk → Tr Blk
  | [], t => t
  | (i, _) :: l, t => dropT l (t.set none depthH i)

def Ent.h1 (e : Ent) : Hp := ⟨mkT e.pre .nil, e.next⟩
def Ent.app (e : Ent) (h : Hp) : Hp := ⟨mkT e.post (dropT e.pre h.m), e.next2⟩

def has (m : Tr Blk) : List (Nat × Blk) → Bool
  | [] => true
  | (i, b) :: l => (match m.get i with
    | some b' => blkEq b' b
    | none => false) && has m l

def below (n : Nat) : List (Nat × Blk) → Bool
  | [] => true
  | (i, _) :: l => Nat.blt i n && below n l

def tryE (e : Ent) (args : Array Value) (h : Hp) : Option (Ret × Hp) :=
  bif Nat.beq h.next e.next && (allEq (vEq 8) args.toList e.args && has h.m e.pre) then some (e.r, e.app h) else none

def tryL (args : Array Value) (h : Hp) : List Ent → Option (Ret × Hp)
  | [] => none
  | e :: l => orK (tryL args h l) (tryE e args h)

def orcT (t : Tr (List Ent)) (f : FuncId) (args : Array Value) (h : Hp) : Option (Ret × Hp) :=
  match t.get f with
  | some l => tryL args h l
  | none => none

def okK (e : Ent) : Option (Ret × Hp) → Bool
  | some (r, h2) => retEq r e.r && (Nat.beq h2.next e.next2 && (Nat.ble e.next e.next2 && has h2.m e.post))
  | none => false

def okE (C : Ctx) (n : Nat) (e : Ent) : Bool :=
  hasBody C e.f && (below e.next e.pre && (Nat.ble e.next limH && okK e (evFn C n e.f e.args.toArray e.h1)))

end

theorem allEq_eq {eq : Value → Value → Bool} (h : ∀ x y, eq x y = true → x = y) : ∀ {l r : List Value}, allEq eq l r = true → l = r
  | [], [], _ => rfl
  | x :: l, y :: r, e => by
    simp only [allEq, Bool.and_eq_true] at e
    rw [h x y e.1, allEq_eq h e.2]
  | [], _ :: _, e => by cases e
  | _ :: _, [], e => by cases e

theorem fnEq_eq {x y : Fn} (h : fnEq x y = true) : x = y := by
  unfold fnEq at h
  split at h
  · rw [Nat.eq_of_beq_eq_true h]
  · cases h

theorem vEq_eq : ∀ (d : Nat) (x y : Value), vEq d x y = true → x = y
  | 0, _, _, h => by cases h
  | d + 1, x, y, h => by
    have ih := vEq_eq d
    unfold vEq at h
    split at h
    · rw [Array.ext' (allEq_eq ih h)]
    · rw [Array.ext' (allEq_eq ih h)]
    · simp only [Bool.and_eq_true] at h
      rw [Nat.eq_of_beq_eq_true h.1, ih _ _ h.2]
    · simp only [Bool.and_eq_true] at h
      rw [fnEq_eq h.1, Array.ext' (allEq_eq ih h.2.1), Array.ext' (allEq_eq ih h.2.2)]
    · rfl
    · exact sameV_eq h

theorem blkEq_eq {x y : Blk} (h : blkEq x y = true) : x = y := by
  simp only [blkEq, Bool.and_eq_true, beq_iff_eq] at h
  obtain ⟨h1, h2, h3⟩ := h
  cases x; cases y
  simp only at h1 h2 h3
  rw [Nat.eq_of_beq_eq_true h1, h2, allEq_eq (vEq_eq 8) h3]

theorem retEq_eq {x y : Ret} (h : retEq x y = true) : x = y := by
  unfold retEq at h
  split at h
  · rw [vEq_eq 8 _ _ h]
  · rw [vEq_eq 8 _ _ h]
  · cases h

theorem below_spec {n : Nat} : ∀ {l : List (Nat × Blk)}, below n l = true → ∀ i B, (i, B) ∈ l → i < n
  | [], _, i, B, hm => by cases hm
  | (j, b) :: l, h, i, B, hm => by
    simp only [below, Bool.and_eq_true, Nat.blt_eq] at h
    rcases List.mem_cons.1 hm with e | e
    · cases e; exact h.1
    · exact below_spec h.2 i B e

theorem has_spec {m : Tr Blk} : ∀ {l : List (Nat × Blk)}, has m l = true → ∀ i B, (i, B) ∈ l → m.get i = some B
  | [], _, i, B, hm => by cases hm
  | (j, b) :: l, h, i, B, hm => by
    simp only [has, Bool.and_eq_true] at h
    rcases List.mem_cons.1 hm with e | e
    · cases e
      have h1 := h.1
      split at h1
      · rename_i b' hb
        rw [hb, blkEq_eq h1]
      · cases h1
    · exact has_spec h.2 i B e

theorem set_get {m : Tr Blk} {x : Option Blk} {i : Nat} (hi : i < limH) (j : Nat) : (m.set x depthH i).get j = if j = i then x else m.get j := by
  have : limH + 1 < 2 ^ depthH := by decide
  exact Tr.get_set _ _ _ _ _ (by omega)

theorem mkT_get : ∀ {l : List (Nat × Blk)} {t : Tr Blk}, (∀ i B, (i, B) ∈ l → i < limH) → ∀ i B, (mkT l t).get i = some B → (i, B) ∈ l ∨ t.get i = some B
  | [], t, _, i, B, h => .inr h
  | (j, b) :: l, t, hb, i, B, h => by
    simp only [mkT] at h
    rcases mkT_get (fun i B hm => hb i B (by simp [hm])) i B h with h1 | h1
    · exact .inl (by simp [h1])
    · rw [set_get (hb j b (by simp))] at h1
      by_cases e : i = j
      · rw [if_pos e] at h1; cases h1; subst e; exact .inl (by simp)
      · rw [if_neg e] at h1; exact .inr h1

theorem dropT_get : ∀ {l : List (Nat × Blk)} {t : Tr Blk}, (∀ i B, (i, B) ∈ l → i < limH) → ∀ i B, (dropT l t).get i = some B → (∀ B', (i, B') ∉ l) ∧ t.get i = some B
  | [], t, _, i, B, h => ⟨by simp, h⟩
  | (j, b) :: l, t, hb, i, B, h => by
    simp only [dropT] at h
    obtain ⟨h1, h2⟩ := dropT_get (fun i B hm => hb i B (by simp [hm])) i B h
    rw [set_get (hb j b (by simp))] at h2
    by_cases e : i = j
    · rw [if_pos e] at h2; cases h2
    · rw [if_neg e] at h2
      refine ⟨fun B' hm => ?_, h2⟩
      rcases List.mem_cons.1 hm with e' | e'
      · cases e'; exact e rfl
      · exact h1 B' e'

section
variable {C : Ctx} {P : Program}

/-- fewer blocks. -/
theorem WR.sub {g : Gh} {h h1 : Hp} {w : World} (r : WR g h w) (hs : ∀ i B, h1.m.get i = some B → h.m.get i = some B) (hf : ∀ i, h1.next ≤ i → h1.m.get i = none) (hl : h1.next ≤ limH) : WR g h1 w where
  live := fun i B hi => r.live i B (hs i B hi)
  inj := fun i j B B' x y hi hj => r.inj i j B B' x y (hs i B hi) (hs j B' hj)
  fresh := hf
  lim := hl

theorem ent_ok (hC : CtxOk C P) {n : Nat} (hF : FOk P (evFn C n)) {e : Ent} (hok : okE C n e = true) {args : Array Value} {h : Hp} {r : Ret} {h' : Hp}
    (ht : tryE e args h = some (r, h')) : h.next ≤ h'.next ∧ CallOk P e.f args h r h' := by
  unfold okE at hok
  simp only [Bool.and_eq_true] at hok
  obtain ⟨hbd, hbl, hlim, hk⟩ := hok
  have hlim' : e.next ≤ limH := by simpa [Nat.ble_eq] using hlim
  cases hev : evFn C n e.f e.args.toArray e.h1 with
  | none => rw [hev] at hk; cases hk
  | some x =>
    obtain ⟨r2, h2⟩ := x
    rw [hev] at hk
    simp only [okK, Bool.and_eq_true] at hk
    obtain ⟨k1, k2, k3, k4⟩ := hk
    have hr := retEq_eq k1
    have hn2 := Nat.eq_of_beq_eq_true k2
    have hle : e.next ≤ e.next2 := by simpa [Nat.ble_eq] using k3
    unfold tryE at ht
    cases hcond : (Nat.beq h.next e.next && (allEq (vEq 8) args.toList e.args && has h.m e.pre)) with
    | false => rw [hcond] at ht; cases ht
    | true =>
      rw [hcond] at ht
      simp only [cond_true] at ht
      cases ht
      simp only [Bool.and_eq_true] at hcond
      obtain ⟨c1, c2, c3⟩ := hcond
      have hnx := Nat.eq_of_beq_eq_true c1
      have hargs : args = e.args.toArray := by
        apply Array.ext'
        rw [allEq_eq (vEq_eq 8) c2]
      subst hargs
      have hpl : ∀ i B, (i, B) ∈ e.pre → i < limH := fun i B hm => Nat.lt_of_lt_of_le (below_spec hbl i B hm) hlim'
      refine ⟨by simp only [Ent.app]; omega, ?_⟩
      intro g w args' ha hw hfr
      have hsub : ∀ i B, e.h1.m.get i = some B → (i, B) ∈ e.pre := by
        intro i B hi
        rcases mkT_get hpl i B hi with h1 | h1
        · exact h1
        · cases h1
      have hsub' : ∀ i B, e.h1.m.get i = some B → h.m.get i = some B := fun i B hi => has_spec c3 i B (hsub i B hi)
      have hw1 : WR g e.h1 w := by
        refine hw.sub hsub' ?_ hlim'
        intro i hi
        cases hg : e.h1.m.get i with
        | none => rfl
        | some B =>
          have := below_spec hbl i B (hsub i B hg)
          have : e.next ≤ i := hi
          omega
      have hfr1 : Fr g e.h1 h2 := by
        intro i h1 h3
        exact hfr i (by rw [hnx]; exact h1) (by simp only [Ent.app]; omega)
      have hcall := (hF e.f e.args.toArray e.h1 r2 h2 hev).2 g w args' ha hw1 hfr1
      rcases hcall with ⟨q1, q2⟩ | ⟨v, v', _, _, _, q⟩
      · refine .inl ⟨q1, q2.mono ?_⟩
        rintro e' w' ⟨g', s1, s2, s3⟩
        have hpost : ∀ i B, (i, B) ∈ e.post → h2.m.get i = some B := has_spec k4
        have hpb : ∀ i B, (i, B) ∈ e.post → i < limH := by
          intro i B hm
          rcases Nat.lt_or_ge i h2.next with hlt | hge
          · exact Nat.lt_of_lt_of_le hlt s1.lim
          · have := s1.fresh i hge
            rw [hpost i B hm] at this; cases this
        have hget : ∀ i B, (e.app h).m.get i = some B → h2.m.get i = some B ∨ ((∀ B', (i, B') ∉ e.pre) ∧ h.m.get i = some B) := by
          intro i B hi
          rcases mkT_get hpb i B hi with h1 | h1
          · exact .inl (hpost i B h1)
          · exact .inr (dropT_get hpl i B h1)
        have hold : ∀ i B x, (∀ B', (i, B') ∉ e.pre) → h.m.get i = some B → g' i = some x → g i = some x ∧ BR g B x w := by
          intro i B x _ hi hx
          obtain ⟨y, hy, hb⟩ := hw.live i B hi
          rw [s2.ge _ _ hy] at hx; cases hx
          exact ⟨hy, hb⟩
        have himg : ∀ i B x j B' y, h2.m.get i = some B → g' i = some x → (∀ B', (j, B') ∉ e.pre) → h.m.get j = some B' → g' j = some y → x.b ≠ y.b := by
          intro i B x j B' y hi hx hj1 hj hy he
          obtain ⟨hy', hb'⟩ := hold j B' y hj1 hj hy
          rcases s2.img i B x hi hx with ⟨i', B2, z, p1, p2, p3⟩ | p
          · have := hw.inj i' j B2 B' z y (hsub' i' B2 p1) hj p2 hy' (p3.trans he)
            subst this
            exact hj1 B2 (hsub i' B2 p1)
          · have := hb'.lt; omega
        refine ⟨g', ⟨?_, ?_, ?_, ?_⟩, ⟨s2.ge, ?_, ?_, ?_, s2.size, ?_, s2.os, s2.out⟩, ?_⟩
        · intro i B hi
          rcases hget i B hi with h1 | ⟨h1, h3⟩
          · exact s1.live i B h1
          · obtain ⟨x, hx, hb⟩ := hw.live i B h3
            refine ⟨x, s2.ge _ _ hx, (hb.mono s2.ge).of_blk (s2.keep x.b hb.lt ?_)⟩
            intro j B' y hj hy he
            have := hw.inj j i B' B y x (hsub' j B' hj) h3 hy hx he
            subst this
            exact h1 B' (hsub j B' hj)
        · intro i j B B' x y hi hj hx hy he
          rcases hget i B hi with h1 | ⟨h1, h3⟩
          · rcases hget j B' hj with h4 | ⟨h4, h5⟩
            · exact s1.inj i j B B' x y h1 h4 hx hy he
            · exact absurd he (himg i B x j B' y h1 hx h4 h5 hy)
          · rcases hget j B' hj with h4 | ⟨h4, h5⟩
            · exact absurd he.symm (himg j B' y i B x h4 hy h1 h3 hx)
            · exact hw.inj i j B B' x y h3 h5 (hold i B x h1 h3 hx).1 (hold j B' y h4 h5 hy).1 he
        · intro i hi
          have hi' : e.next2 ≤ i := hi
          cases hg : (e.app h).m.get i with
          | none => rfl
          | some B =>
            exfalso
            rcases hget i B hg with h1 | ⟨_, h3⟩
            · rw [s1.fresh i (by omega)] at h1; cases h1
            · rw [hw.fresh i (by omega)] at h3; cases h3
        · have := s1.lim
          simp only [Ent.app]; omega
        · intro i x hx
          rcases s2.new i x hx with h1 | ⟨h1, h3⟩
          · exact .inl h1
          · refine .inr ⟨?_, ?_⟩
            · have : e.next ≤ i := h1
              omega
            · simp only [Ent.app]; omega
        · intro b hb hno
          exact s2.keep b hb fun i B x hi hx => hno i B x (hsub' i B hi) hx
        · intro i B x hi hx
          rcases hget i B hi with h1 | ⟨h1, h3⟩
          · rcases s2.img i B x h1 hx with ⟨j, B', y, p1, p2, p3⟩ | p
            · exact .inl ⟨j, B', y, hsub' j B' p1, p2, p3⟩
            · exact .inr p
          · exact .inl ⟨i, B, x, h3, (hold i B x h1 h3 hx).1, rfl⟩
        · simp only [Ent.app]; omega
        · rw [← hr]; exact s3
      · exfalso
        unfold hasBody at hbd
        split at hbd
        · rename_i fn hfn
          obtain ⟨c, hc⟩ := Option.isSome_iff_exists.1 hbd
          rw [callFunc_enter hC hfn hc] at q
          cases q
        · cases hbd

/-- entries, each of which is proved. -/
def TabOk (P : Program) (t : Tr (List Ent)) : Prop :=
  ∀ f l, t.get f = some l → ∀ e ∈ l, ∀ (args : Array Value) (h : Hp) (r : Ret) (h' : Hp), tryE e args h = some (r, h') → h.next ≤ h'.next ∧ CallOk P f args h r h'

theorem orc_ok {t : Tr (List Ent)} (ht : TabOk P t) : FOk P (orcT t) := by
  intro f args h r h' e
  unfold orcT at e
  split at e
  · rename_i l hl
    have key : ∀ (k : List Ent), (∀ x ∈ k, x ∈ l) → tryL args h k = some (r, h') → h.next ≤ h'.next ∧ CallOk P f args h r h' := by
      intro k
      induction k with
      | nil => intro _ e; cases e
      | cons x k ih =>
        intro hk e
        simp only [tryL] at e
        cases hx : tryE x args h with
        | none => rw [hx] at e; exact ih (fun y hy => hk y (by simp [hy])) e
        | some y =>
          rw [hx] at e
          simp only [orK] at e
          cases e
          exact ht f l hl x (hk x (by simp)) args h r h' hx
    exact key l (fun _ h => h) e
  · cases e

/-- the same context with another oracle. -/
theorem CtxOk.with (hC : CtxOk C P) (o : FuncId → Array Value → Hp → Option (Ret × Hp)) : CtxOk { C with orc := o } P :=
  ⟨hC.ty, hC.fn, hC.name, hC.eqg, hC.eqs, hC.zc, hC.zs, hC.mixed⟩

theorem FnsOk.with (h : FnsOk C P) (o : FuncId → Array Value → Hp → Option (Ret × Hp)) : FnsOk { C with orc := o } P := ⟨h.good, h.ext⟩

theorem TrapSpec.with (h : TrapSpec C P) (o : FuncId → Array Value → Hp → Option (Ret × Hp)) : TrapSpec { C with orc := o } P := h

/-- no oracle. -/
theorem none_ok : FOk P (fun _ _ _ => none) := by
  intro f args h r h' e; cases e

theorem evFn_with (hC : CtxOk C P) (hFn : FnsOk C P) (hT : TrapSpec C P) {t : Tr (List Ent)} (ht : TabOk P t) (n : Nat) : FOk P (evFn { C with orc := orcT t } n) :=
  evFn_sound (hC.with _) (hFn.with _) (hT.with _) (orc_ok ht) (drawnSound _ _) n

end
end Ev
