import Derived.Test.YtjgbkacigiidmaaGreatEvZ
namespace Ev
open Go

theorem push_fold_keep {α : Type} (F : Array Nat → α → Nat) : ∀ (l : List α) (acc : Array Nat) (j : Nat), j < acc.size →
    (l.foldl (fun acc o => acc.push (F acc o)) acc)[j]? = acc[j]?
  | [], _, _, _ => rfl
  | o :: l, acc, j, h => by
    simp only [List.foldl_cons]
    rw [push_fold_keep F l _ j (by simp; omega), Array.getElem?_push, if_neg (by omega)]

theorem push_fold_get {α : Type} (F : Array Nat → α → Nat) : ∀ (l : List α) (acc : Array Nat) (k : Nat) (o : α), l[k]? = some o →
    ∃ acc' : Array Nat, acc'.size = acc.size + k ∧ (∀ j, j < acc'.size → (l.foldl (fun acc o => acc.push (F acc o)) acc)[j]? = acc'[j]?) ∧
      (l.foldl (fun acc o => acc.push (F acc o)) acc)[acc.size + k]? = some (F acc' o)
  | [], _, _, _, h => by simp at h
  | x :: l, acc, 0, o, h => by
    simp only [List.getElem?_cons_zero, Option.some.injEq] at h
    subst h
    refine ⟨acc, rfl, fun j hj => push_fold_keep F (x :: l) acc j hj, ?_⟩
    simp only [List.foldl_cons]
    rw [push_fold_keep F l _ _ (by simp)]
    exact Array.getElem?_push_size
  | x :: l, acc, k + 1, o, h => by
    simp only [List.getElem?_cons_succ] at h
    obtain ⟨acc', q1, q2, q3⟩ := push_fold_get F l (acc.push (F acc x)) k o h
    simp only [Array.size_push] at q1 q3
    refine ⟨acc', by omega, q2, ?_⟩
    rw [show acc.size + (k + 1) = acc.size + 1 + k by omega]
    exact q3

theorem or_fold_bit {g : Edge → Bool} {v : Edge → Nat} (i : Nat) : ∀ (l : List Edge) (s : Nat),
    (l.foldl (fun s e => if g e = true then s ||| 2 ^ e.on ||| v e else s) s).testBit i = true →
    s.testBit i = true ∨ ∃ e ∈ l, g e = true ∧ (e.on = i ∨ (v e).testBit i = true)
  | [], _, h => .inl h
  | e :: l, s, h => by
    simp only [List.foldl_cons] at h
    rcases or_fold_bit i l _ h with h1 | ⟨e', h1, h2, h3⟩
    · by_cases hg : g e = true
      · rw [if_pos hg] at h1
        simp only [Nat.testBit_or, Bool.or_eq_true, Nat.testBit_two_pow, decide_eq_true_eq] at h1
        rcases h1 with (h1 | h1) | h1
        · exact .inl h1
        · exact .inr ⟨e, by simp, hg, .inl h1⟩
        · exact .inr ⟨e, by simp, hg, .inr h1⟩
      · rw [if_neg hg] at h1
        exact .inl h1
    · exact .inr ⟨e', by simp [h1], h2, h3⟩

/-- a bit of `before` at j is an edge of j, or a bit of `before` at an edge's place. -/
theorem before_spec {ops : Array Oper} {j i : Nat} {o : Oper} (ho : ops[j]? = some o) (h : ((Region.before ops).getD j 0).testBit i = true) :
    ∃ e ∈ o.after, Region.binds .any e = true ∧ (e.on = i ∨ (e.on < j ∧ ((Region.before ops).getD e.on 0).testBit i = true)) := by
  have hl : ops.toList[j]? = some o := by simpa using ho
  obtain ⟨acc', q1, q2, q3⟩ := push_fold_get (fun acc (o : Oper) => Array.foldl (fun s e => if Region.binds .any e = true then s ||| 2 ^ e.on ||| acc.getD e.on 0 else s) 0 o.after) ops.toList #[] j o hl
  have hb : Region.before ops = ops.toList.foldl (fun acc o => acc.push (Array.foldl (fun s e => if Region.binds .any e = true then s ||| 2 ^ e.on ||| acc.getD e.on 0 else s) 0 o.after)) #[] := by
    unfold Region.before
    rw [← Array.foldl_toList]
  rw [← hb] at q2 q3
  simp only [List.size_toArray, List.length_nil, Nat.zero_add] at q1 q3
  rw [Array.getD_eq_getD_getElem?, q3, Option.getD_some, ← Array.foldl_toList] at h
  rcases or_fold_bit (g := fun e => Region.binds .any e) (v := fun e => acc'.getD e.on 0) i _ _ h with h1 | ⟨e, h1, h2, h3⟩
  · simp at h1
  · refine ⟨e, by simpa using h1, h2, ?_⟩
    rcases h3 with h3 | h3
    · exact .inl h3
    · rw [Array.getD_eq_getD_getElem?] at h3
      have hlt : e.on < acc'.size := by
        rcases Nat.lt_or_ge e.on acc'.size with h | h
        · exact h
        · rw [Array.getElem?_eq_none h] at h3; simp at h3
      refine .inr ⟨by omega, ?_⟩
      rw [Array.getD_eq_getD_getElem?, q2 _ hlt]
      exact h3

/-- what is listed has all that binds it listed. -/
def Shut (ops : Array Oper) (listed : Array Bool) : Prop :=
  ∀ (j : Nat) (o : Oper), ops[j]? = some o → listed.getD j false = true → ∀ e ∈ o.after, Region.binds .any e = true → listed.getD e.on false = true

theorem Shut.before {ops : Array Oper} {listed : Array Bool} (hs : Shut ops listed) : ∀ (j i : Nat) (o : Oper), ops[j]? = some o →
    (∀ e ∈ o.after, Region.binds .any e = true → listed.getD e.on false = true) → ((Region.before ops).getD j 0).testBit i = true → listed.getD i false = true := by
  intro j
  induction j using Nat.strongRecOn with
  | _ j ih =>
    intro i o ho hall hb
    obtain ⟨e, he, hbd, h⟩ := before_spec ho hb
    rcases h with rfl | ⟨hlt, hb2⟩
    · exact hall e he hbd
    · have hl := hall e he hbd
      cases ho2 : ops[e.on]? with
      | none =>
        have hj : j < ops.size := (Array.getElem?_eq_some_iff.1 ho).1
        rw [Array.getElem?_eq_none_iff] at ho2
        omega
      | some o2 => exact ih e.on hlt i o2 ho2 (fun e2 h1 h2 => hs e.on o2 ho2 hl e2 h1 h2) hb2

theorem Shut.ready {ops : Array Oper} {listed : Array Bool} (hs : Shut ops listed) {j i : Nat} (hj : j ∈ Region.ready .any ops listed)
    (hb : ((Region.before ops).getD j 0).testBit i = true) : listed.getD i false = true := by
  obtain ⟨_, o, ho, hall⟩ := mem_ready.1 hj
  exact hs.before j i o ho hall hb

theorem Shut.step {ops : Array Oper} {listed : Array Bool} (hs : Shut ops listed) {j : Nat} (hj : j ∈ Region.ready .any ops listed) :
    Shut ops (listed.setIfInBounds j true) := by
  intro k o ho hk e he hb
  by_cases hkj : j = k
  · subst hkj
    obtain ⟨_, o', ho', hall⟩ := mem_ready.1 hj
    rw [ho] at ho'; cases ho'
    exact getD_set_true (hall e he hb)
  · rw [getD_set_ne false hkj] at hk
    exact getD_set_true (hs k o ho hk e he hb)

end Ev
