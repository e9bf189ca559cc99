import Derived.Test.YtjgbkacigiidmaaGreatEvA
import Derived.Laws.Sem
import Derived.Laws.World
import Derived.Laws.Cells
import Derived.Calls
namespace Ev
open Go

theorem Tr.get_nil {α : Type} (n : Nat) : (Tr.nil : Tr α).get n = none := rfl
theorem Tr.get_node {α : Type} (v : Option α) (l r : Tr α) (n : Nat) :
    (Tr.node v l r).get n = cond (Nat.beq n 0) v (cond (Nat.beq (Nat.mod n 2) 1) (l.get (Nat.div n 2)) (r.get (Nat.sub (Nat.div n 2) 1))) := rfl
theorem Tr.set_zero {α : Type} (x : Option α) (t : Tr α) (n : Nat) : Tr.set x 0 t n = t := rfl
theorem Tr.set_nil {α : Type} (x : Option α) (f n : Nat) : Tr.set x (f + 1) .nil n =
    cond (Nat.beq n 0) (.node x .nil .nil) (cond (Nat.beq (Nat.mod n 2) 1) (.node none (Tr.set x f .nil (Nat.div n 2)) .nil) (.node none .nil (Tr.set x f .nil (Nat.sub (Nat.div n 2) 1)))) := rfl
theorem Tr.set_node {α : Type} (x v : Option α) (l r : Tr α) (f n : Nat) : Tr.set x (f + 1) (.node v l r) n =
    cond (Nat.beq n 0) (.node x l r) (cond (Nat.beq (Nat.mod n 2) 1) (.node v (Tr.set x f l (Nat.div n 2)) r) (.node v l (Tr.set x f r (Nat.sub (Nat.div n 2) 1)))) := rfl

theorem beq_false_of {a b : Nat} (h : a ≠ b) : Nat.beq a b = false := by
  rw [Bool.eq_false_iff]; intro e; exact h (Nat.eq_of_beq_eq_true e)
theorem beq_true_of {a b : Nat} (h : a = b) : Nat.beq a b = true := by subst h; exact Nat.beq_refl _

theorem Tr.get_set {α : Type} (x : Option α) : ∀ (f : Nat) (t : Tr α) (n m : Nat), n + 1 < 2 ^ f →
    (Tr.set x f t n).get m = if m = n then x else t.get m := by
  intro f
  induction f with
  | zero => intro t n m h; simp at h
  | succ f ih =>
    intro t n m h
    have hd : Nat.div n 2 = n / 2 := rfl
    have hm : Nat.mod n 2 = n % 2 := rfl
    have hd' : Nat.div m 2 = m / 2 := rfl
    have hm' : Nat.mod m 2 = m % 2 := rfl
    have hs : ∀ a b, Nat.sub a b = a - b := fun _ _ => rfl
    have hp : 2 ^ (f + 1) = 2 * 2 ^ f := by rw [Nat.pow_succ]; omega
    have key : ∀ (v : Option α) (l r : Tr α), (cond (Nat.beq n 0) (Tr.node x l r) (cond (Nat.beq (Nat.mod n 2) 1) (.node v (Tr.set x f l (Nat.div n 2)) r) (.node v l (Tr.set x f r (Nat.sub (Nat.div n 2) 1))))).get m
        = if m = n then x else (Tr.node v l r).get m := by
      intro v l r
      by_cases h0 : n = 0
      · subst h0
        rw [beq_true_of rfl]; simp only [cond_true]
        rw [Tr.get_node, Tr.get_node]
        by_cases hm0 : m = 0
        · rw [if_pos hm0, beq_true_of hm0]; rfl
        · rw [if_neg hm0, beq_false_of hm0]; rfl
      · rw [beq_false_of h0]; simp only [cond_false]
        by_cases h1 : n % 2 = 1
        · rw [hm, beq_true_of h1]; simp only [cond_true]
          rw [Tr.get_node, Tr.get_node, ih _ _ _ (by omega)]
          by_cases hm0 : m = 0
          · rw [beq_true_of hm0, if_neg (show ¬ m = n by omega)]; rfl
          · rw [beq_false_of hm0]; simp only [cond_false]
            by_cases h2 : m % 2 = 1
            · rw [hm', beq_true_of h2]; simp only [cond_true, hd, hd']
              by_cases e : m = n
              · rw [if_pos e, if_pos (by omega)]
              · rw [if_neg e, if_neg (show ¬ (_ : Nat) = _ by omega)]
            · rw [hm', beq_false_of h2, if_neg (show ¬ m = n by omega)]; rfl
        · rw [hm, beq_false_of h1]; simp only [cond_false]
          rw [Tr.get_node, Tr.get_node, ih _ _ _ (by rw [hs, hd]; omega)]
          by_cases hm0 : m = 0
          · rw [beq_true_of hm0, if_neg (show ¬ m = n by omega)]; rfl
          · rw [beq_false_of hm0]; simp only [cond_false]
            by_cases h2 : m % 2 = 1
            · rw [hm', beq_true_of h2, if_neg (show ¬ m = n by omega)]; rfl
            · rw [hm', beq_false_of h2]; simp only [cond_false, hs, hd, hd']
              by_cases e : m = n
              · rw [if_pos e, if_pos (by omega)]
              · rw [if_neg e, if_neg (show ¬ (_ : Nat) = _ by omega)]
    cases t with
    | nil =>
      rw [Tr.set_nil]
      have := key none .nil .nil
      by_cases h0 : n = 0
      · subst h0
        rw [beq_true_of rfl] at this ⊢; simp only [cond_true] at this ⊢
        rw [this]
        by_cases e : m = 0
        · rw [if_pos e, if_pos e]
        · rw [if_neg e, if_neg e, Tr.get_node, beq_false_of e]
          cases Nat.beq (Nat.mod m 2) 1 <;> rfl
      · rw [beq_false_of h0] at this ⊢; simp only [cond_false] at this ⊢
        rw [this]
        by_cases e : m = n
        · rw [if_pos e, if_pos e]
        · rw [if_neg e, if_neg e, Tr.get_node, Tr.get_nil]
          cases Nat.beq m 0 <;> cases Nat.beq (Nat.mod m 2) 1 <;> rfl
    | node v l r => rw [Tr.set_node]; exact key v l r

/-! the ghost: where an abstract block lies -/
structure GB where
  b : Nat
  csz : Nat
  fin : Nat
  sz : Nat
  grown : Bool

abbrev Gh := Nat → Option GB

def capR (x : GB) (off c c' : Nat) : Prop :=
  c' = c ∨ (x.grown = true ∧ off + c * x.sz = x.fin ∧ c ≤ c' ∧ off + c' * x.sz ≤ x.csz)

mutual
inductive VR (g : Gh) : Value → Value → Prop where
  | bool (b : Bool) : VR g (.bool b) (.bool b)
  | int (k : IntKind) (n : Int) : VR g (.int k n) (.int k n)
  | float (k : FloatKind) (b : Nat) : VR g (.float k b) (.float k b)
  | string (s : ByteArray) : VR g (.string s) (.string s)
  | nilPtr : VR g (.pointer none) (.pointer none)
  | nilFunc : VR g .nilFunc .nilFunc
  | nilIface : VR g .nilIface .nilIface
  | nilMap : VR g (.map none) (.map none)
  | ptr (i off : Nat) (x : GB) (h : g i = some x) : VR g (.pointer (some ⟨i, off, none⟩)) (.pointer (some ⟨x.b, off, none⟩))
  | nilSlice : VR g (.slice none 0 0) (.slice none 0 0)
  | emptySlice (a' : Option Addr) (c' : Nat) : VR g (.slice none 0 1) (.slice a' 0 c')
  | slice (i off n c c' : Nat) (x : GB) (h : g i = some x) (hc : capR x off c c') : VR g (.slice (some ⟨i, off, none⟩) n c) (.slice (some ⟨x.b, off, none⟩) n c')
  | func (fn : Fn) (a a' b b' : Array Value) (ha : VRL g a.toList a'.toList) (hb : VRL g b.toList b'.toList) : VR g (.func fn a b) (.func fn a' b')
  | iface (t : TypeId) (v v' : Value) (h : VR g v v') : VR g (.iface t v) (.iface t v')
  | agg (a a' : Array Value) (h : VRL g a.toList a'.toList) : VR g (.agg a) (.agg a')
  | tuple (a a' : Array Value) (h : VRL g a.toList a'.toList) : VR g (.tuple a) (.tuple a')
inductive VRL (g : Gh) : List Value → List Value → Prop where
  | nil : VRL g [] []
  | cons {v v' : Value} {l l' : List Value} (h : VR g v v') (t : VRL g l l') : VRL g (v :: l) (v' :: l')
end

def GExt (g g' : Gh) : Prop := ∀ i x, g i = some x → g' i = some x

theorem GExt.refl (g : Gh) : GExt g g := fun _ _ h => h
theorem GExt.trans {a b c : Gh} (h : GExt a b) (h' : GExt b c) : GExt a c := fun i x hx => h' i x (h i x hx)

mutual
theorem VR.mono {g g' : Gh} (hg : GExt g g') : ∀ {v v' : Value}, VR g v v' → VR g' v v'
  | _, _, .bool b => .bool b
  | _, _, .int k n => .int k n
  | _, _, .float k b => .float k b
  | _, _, .string s => .string s
  | _, _, .nilPtr => .nilPtr
  | _, _, .nilFunc => .nilFunc
  | _, _, .nilIface => .nilIface
  | _, _, .nilMap => .nilMap
  | _, _, .ptr i off x h => .ptr i off x (hg _ _ h)
  | _, _, .nilSlice => .nilSlice
  | _, _, .emptySlice a c => .emptySlice a c
  | _, _, .slice i off n c c' x h hc => .slice i off n c c' x (hg _ _ h) hc
  | _, _, .func fn a a' b b' ha hb => .func fn a a' b b' (VRL.mono hg ha) (VRL.mono hg hb)
  | _, _, .iface t v v' h => .iface t v v' (VR.mono hg h)
  | _, _, .agg a a' h => .agg a a' (VRL.mono hg h)
  | _, _, .tuple a a' h => .tuple a a' (VRL.mono hg h)
theorem VRL.mono {g g' : Gh} (hg : GExt g g') : ∀ {l l' : List Value}, VRL g l l' → VRL g' l l'
  | _, _, .nil => .nil
  | _, _, .cons h t => .cons (VR.mono hg h) (VRL.mono hg t)
end

theorem VRL.length {g : Gh} : ∀ {l l' : List Value}, VRL g l l' → l.length = l'.length
  | _, _, .nil => rfl
  | _, _, .cons _ t => by simp [VRL.length t]

theorem VRL.get {g : Gh} : ∀ {l l' : List Value}, VRL g l l' → ∀ {k : Nat} {v : Value}, l[k]? = some v → ∃ v', l'[k]? = some v' ∧ VR g v v'
  | _, _, .nil, k, v, h => by simp at h
  | _, _, .cons hv t, 0, v, h => by simp at h; subst h; exact ⟨_, rfl, hv⟩
  | _, _, .cons hv t, k + 1, v, h => by simp at h ⊢; exact VRL.get t h

theorem VRL.of_get {g : Gh} : ∀ {l l' : List Value}, l.length = l'.length → (∀ (k : Nat) v v', l[k]? = some v → l'[k]? = some v' → VR g v v') → VRL g l l'
  | [], [], _, _ => .nil
  | [], _ :: _, h, _ => by simp at h
  | _ :: _, [], h, _ => by simp at h
  | x :: l, y :: l', h, hk => .cons (hk 0 x y rfl rfl) (VRL.of_get (by simpa using h) fun k v v' a b => hk (k + 1) v v' (by simpa using a) (by simpa using b))

theorem VRL.append {g : Gh} : ∀ {a a' b b' : List Value}, VRL g a a' → VRL g b b' → VRL g (a ++ b) (a' ++ b')
  | _, _, _, _, .nil, h => h
  | _, _, _, _, .cons hv t, h => .cons hv (VRL.append t h)

theorem VRL.drop {g : Gh} : ∀ {l l' : List Value}, VRL g l l' → ∀ n, VRL g (l.drop n) (l'.drop n)
  | _, _, h, 0 => by simpa using h
  | _, _, .nil, n + 1 => by simp; exact .nil
  | _, _, .cons _ t, n + 1 => by simpa using VRL.drop t n

theorem VRL.take {g : Gh} : ∀ {l l' : List Value}, VRL g l l' → ∀ n, VRL g (l.take n) (l'.take n)
  | _, _, _, 0 => by simp; exact .nil
  | _, _, .nil, n + 1 => by simp; exact .nil
  | _, _, .cons hv t, n + 1 => by simpa using .cons hv (VRL.take t n)

theorem VR.of_closed {g : Gh} {v : Value} (h : closedV v = true) : VR g v v := by
  unfold closedV at h
  split at h <;> first
    | constructor
    | (simp at h)

end Ev
