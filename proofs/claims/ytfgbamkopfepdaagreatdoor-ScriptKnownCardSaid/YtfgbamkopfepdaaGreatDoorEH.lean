import Derived.Test.YtfgbamkopfepdaaGreatDoorEG
import Derived.Lib.SplitLaws
import Derived.Lib.Join
import Derived.Lib.Strings
import Derived.Lib.Bytealg
import Derived.Lib.AtoiAll
import Derived.Lib.ParseIntB
import Derived.Lib.ItoaNum
import Derived.Below
namespace Ev
open Go

/-! ### plain words of the library, for the kernel -/

def splitL (c : UInt8) : List UInt8 → List (List UInt8)
  | [] => [[]]
  | b :: l => bif b == c then [] :: splitL c l else match splitL c l with
    | [] => [[b]]
    | p :: r => (b :: p) :: r

theorem splitL_ne (c : UInt8) (l : List UInt8) : splitL c l ≠ [] := by
  cases l with
  | nil => simp [splitL]
  | cons b l =>
    unfold splitL
    cases b == c
    · simp only [cond_false]
      split <;> simp
    · simp

theorem index_cons_eq (c : UInt8) (l : List UInt8) : Lib.index (c :: l) [c] = 0 := by
  unfold Lib.index
  simp [List.isPrefixOf]

theorem index_cons_ne {b c : UInt8} (l : List UInt8) (h : b ≠ c) : Lib.index (b :: l) [c] = if Lib.index l [c] == -1 then -1 else Lib.index l [c] + 1 := by
  rw [Lib.index]
  have : List.isPrefixOf [c] (b :: l) = false := by simp [List.isPrefixOf, Ne.symm h]
  rw [this]
  simp

theorem index_count (c : UInt8) : ∀ l : List UInt8, Lib.index l [c] = -1 ↔ l.count c = 0
  | [] => by simp [Lib.index]
  | b :: l => by
    by_cases h : b = c
    · subst h
      rw [index_cons_eq]; simp
    · rw [index_cons_ne l h, List.count_cons_of_ne (by simpa using h), ← index_count c l]
      have := Lib.index_ge l [c]
      split
      · rename_i h1; simpa using h1
      · rename_i h1
        have h2 : Lib.index l [c] ≠ -1 := by simpa using h1
        constructor
        · intro h3; omega
        · intro h3; exact absurd h3 h2

theorem split_one (c : UInt8) : ∀ l : List UInt8, Lib.splitK [c] 0 (l.count c) l = splitL c l
  | [] => by simp [Lib.splitK, splitL]
  | b :: l => by
    have ih := split_one c l
    by_cases h : b = c
    · subst h
      rw [List.count_cons_self, Lib.splitK, index_cons_eq]
      simp [splitL, ih]
    · rw [List.count_cons_of_ne (by simpa using h), splitL]
      have hb : (b == c) = false := by simpa using h
      rw [hb]
      simp only [cond_false]
      rw [← ih]
      cases hc : l.count c with
      | zero => simp [Lib.splitK]
      | succ k =>
        have hi : Lib.index l [c] ≠ -1 := by rw [Ne, index_count, hc]; omega
        have hge := Lib.index_ge l [c]
        have hib : (Lib.index l [c] == -1) = false := by simpa using hi
        obtain ⟨i, hi'⟩ : ∃ i : Nat, Lib.index l [c] = i := ⟨(Lib.index l [c]).toNat, by omega⟩
        rw [Lib.splitK, Lib.splitK, index_cons_ne l h, hib, hi']
        have h1 : ((i : Int) + 1 == -1) = false := by simp; omega
        have h3 : ((i : Int) + 1).toNat = i + 1 := by omega
        simp [h1, h3]

def mkS (l : List UInt8) : ByteArray := ⟨l.toArray⟩

theorem mkS_data (s : ByteArray) : mkS s.data.toList = s := by cases s; simp [mkS]

theorem splitB_one (c : UInt8) (s sep : ByteArray) (h : sep.data.toList = [c]) :
    Lib.splitB sep 0 (Lib.countB s sep) s = (splitL c s.data.toList).map mkS ∧ Lib.countB s sep + 1 = (splitL c s.data.toList).length := by
  have hc : Lib.countB s sep = s.data.toList.count c := by
    unfold Lib.countB
    rw [h, Lib.count_one]
  have hd := Lib.splitB_data sep 0 (Lib.countB s sep) s
  rw [h, hc, split_one] at hd
  have hs : 1 ≤ sep.size := by rw [Lib.size_eq, h]; simp
  have hl := Lib.splitB_all sep hs 0 (Lib.countB s sep) s rfl
  rw [hc] at hl ⊢
  refine ⟨?_, ?_⟩
  · rw [← hd, List.map_map]
    have : (mkS ∘ fun x : ByteArray => x.data.toList) = id := by
      funext x; exact mkS_data x
    rw [this, List.map_id]
  · rw [← hd, List.length_map, hl]

/-- decimal digits, with fuel. -/
def digF : Nat → Nat → List UInt8 → List UInt8
  | 0, _, acc => acc
  | f + 1, u, acc => bif Nat.blt u 10 then UInt8.ofNat (48 + u) :: acc else digF f (u / 10) (UInt8.ofNat (48 + u % 10) :: acc)

theorem digF_eq : ∀ (f u : Nat) (acc : List UInt8), u < 10 ^ f → 0 < f → digF f u acc = Lib.decDigits u ++ acc
  | 0, _, _, _, h => by omega
  | f + 1, u, acc, h, _ => by
    unfold digF
    rw [Lib.decDigits]
    by_cases hu : u < 10
    · have : Nat.blt u 10 = true := by simpa [Nat.blt_eq] using hu
      rw [this, dif_pos hu]; rfl
    · have : Nat.blt u 10 = false := by rw [Bool.eq_false_iff]; simpa [Nat.blt_eq] using hu
      rw [this, dif_neg hu]
      simp only [cond_false]
      have h2 : u / 10 < 10 ^ f := by rw [Nat.pow_succ] at h; omega
      have hf : 0 < f := by
        rcases Nat.eq_zero_or_pos f with h0 | h0
        · subst h0; simp at h2; omega
        · exact h0
      rw [digF_eq f (u / 10) _ h2 hf]
      simp

def itoaF : Int → List UInt8
  | .ofNat n => digF 20 n []
  | .negSucc n => 45 :: digF 20 (n + 1) []

theorem itoaF_eq {n : Int} (h0 : -9223372036854775808 ≤ n) (h1 : n ≤ 9223372036854775807) : itoaF n = Lib.itoa n := by
  cases n with
  | ofNat n =>
    have : Int.ofNat n = (n : Int) := rfl
    rw [this] at h1
    unfold itoaF Lib.itoa
    rw [if_neg (by rw [this]; omega)]
    show digF 20 n [] = _
    rw [digF_eq 20 n [] (by omega) (by omega)]
    simp
  | negSucc n =>
    unfold itoaF Lib.itoa
    rw [if_pos (Int.negSucc_lt_zero n)]
    show 45 :: digF 20 (n + 1) [] = _
    rw [digF_eq 20 (n + 1) [] (by omega) (by omega)]
    simp

end Ev
namespace Ev
open Go

/-! ### calls into the library, by what they come to -/

/-- of what was there nothing has turned. -/
structure Old (w w' : World) : Prop where
  heap : ∀ b, b < w.heap.size → w'.heap[b]? = w.heap[b]?
  size : w.heap.size ≤ w'.heap.size
  os : w'.os = w.os
  out : w'.output = w.output

theorem Old.refl (w : World) : Old w w := ⟨fun _ _ => rfl, Nat.le_refl _, rfl, rfl⟩
theorem Old.of_below {w w' : World} (h : RowKit.Below w.heap.size w w') : Old w w' := ⟨h.block, h.size, h.os, h.output⟩

structure LibIds where
  join : FuncId
  split : FuncId
  pre : FuncId
  idx : FuncId
  itoa : FuncId
  fmt : FuncId
  atoi : FuncId
  parse : FuncId
  tstr : TypeId

/-- no numeral at all. -/
def Syn : Lib.NumEnd Int → Prop
  | .ok _ => False
  | .range => False
  | _ => True

structure LibSpec (P : Program) (L : LibIds) : Prop where
  ent : ∀ f, f ∈ [L.join, L.split, L.pre, L.idx, L.itoa, L.fmt, L.atoi, L.parse] → ∀ (args : Array Value) (w : World), (callFunc f args).run P w = .ok (.enter f args) w
  join : ∀ (bk o c : Nat) (xs : List ByteArray) (sep : ByteArray) (w : World), (∀ (j : Nat) x, xs[j]? = some x → w.cell? ⟨bk, o + j, none⟩ = some (.string x)) → bk < w.heap.size →
    xs.length ≤ 140737488355328 → xs.length ≤ c → (Lib.join (xs.map fun x => x.data.toList) sep.data.toList).length ≤ 140737488355328 →
    Calls P L.join #[.slice (some ⟨bk, o, none⟩) xs.length c, .string sep] w fun e w' => e = .returned (.string (mkS (Lib.join (xs.map fun x => x.data.toList) sep.data.toList))) ∧ Old w w'
  join0 : ∀ (a : Option Addr) (c : Nat) (sep : ByteArray) (w : World), Calls P L.join #[.slice a 0 c, .string sep] w fun e w' => e = .returned (.string (mkS [])) ∧ Old w w'
  split : ∀ (s sep : ByteArray) (w : World), Base w → s.size < 4294967281 → 1 ≤ sep.size →
    Calls P L.split #[.string s, .string sep] w fun e w' => e = .returned (.slice (some ⟨w.heap.size, 0, none⟩) (Lib.countB s sep + 1) (Lib.countB s sep + 1)) ∧
      w' = w.alloc (.cells ((Lib.splitB sep 0 (Lib.countB s sep) s).map Value.string).toArray L.tstr)
  pre : ∀ (s p : ByteArray) (w : World), Calls P L.pre #[.string s, .string p] w fun e w' => e = .returned (.bool (Lib.hasPrefix s.data.toList p.data.toList)) ∧ Old w w'
  idx : ∀ (s : ByteArray) (c : Int) (w : World), Calls P L.idx #[.string s, .int .u8 c] w fun e w' => e = .returned (.int .i64 (Lib.indexByte s.data.toList c.toNat.toUInt8)) ∧ Old w w'
  itoa : ∀ (n : Int) (w : World), -9223372036854775808 ≤ n → n ≤ 9223372036854775807 → Base w →
    Calls P L.itoa #[.int .i64 n] w fun e w' => e = .returned (.string (mkS (Lib.itoa n))) ∧ Old w w'
  fmt : ∀ (n : Int) (w : World), -9223372036854775808 ≤ n → n ≤ 9223372036854775807 → Base w →
    Calls P L.fmt #[.int .i64 n, .int .i64 10] w fun e w' => e = .returned (.string (mkS (Lib.itoa n))) ∧ Old w w'
  atoiOk : ∀ (s : ByteArray) (v : Int) (w : World), s.size ≤ 281474976710656 → Lib.atoiAll s.data.toList = .ok v →
    Calls P L.atoi #[.string s] w fun e w' => e = .returned (.tuple #[.int .i64 v, .nilIface]) ∧ Old w w'
  atoiSyn : ∀ (s : ByteArray) (w : World), Base w → s.size ≤ 281474976710656 → Syn (Lib.atoiAll s.data.toList) →
    Calls P L.atoi #[.string s] w fun e w' => (∃ t p, e = .returned (.tuple #[.int .i64 0, .iface t p])) ∧ Old w w'
  atoiRan : ∀ (s : ByteArray) (w : World), Base w → s.size ≤ 281474976710656 → Lib.atoiAll s.data.toList = .range →
    Calls P L.atoi #[.string s] w fun e w' => (∃ t p, e = .returned (.tuple #[.int .i64 (Lib.atoiSat s.data.toList), .iface t p])) ∧ Old w w'
  parOk : ∀ (s : ByteArray) (v : Int) (w : World), s.size ≤ 281474976710656 → Lib.parseIntB 64 s.data.toList = .ok v →
    Calls P L.parse #[.string s, .int .i64 10, .int .i64 64] w fun e w' => e = .returned (.tuple #[.int .i64 v, .nilIface]) ∧ Old w w'
  parSyn : ∀ (s : ByteArray) (w : World), Base w → s.size ≤ 281474976710656 → Syn (Lib.parseIntB 64 s.data.toList) →
    Calls P L.parse #[.string s, .int .i64 10, .int .i64 64] w fun e w' => (∃ t p, e = .returned (.tuple #[.int .i64 0, .iface t p])) ∧ Old w w'
  parRan : ∀ (s : ByteArray) (w : World), Base w → s.size ≤ 281474976710656 → Lib.parseIntB 64 s.data.toList = .range →
    Calls P L.parse #[.string s, .int .i64 10, .int .i64 64] w fun e w' => (∃ t p, e = .returned (.tuple #[.int .i64 (Lib.intSat 64 s.data.toList), .iface t p])) ∧ Old w w'

noncomputable section

def strsL : List Value → Option (List ByteArray)
  | [] => some []
  | .string s :: l => (strsL l).map (s :: ·)
  | _ => none

/-- some error. -/
def errV : Value := .chan (some 1)

def lJoin (args : List Value) (h : Hp) : Option (Ret × Hp) :=
  match args with
  | [.slice none 0 _, .string _] => some (.ret (.string (mkS [])), h)
  | [.slice (some ⟨b, off, none⟩) n c, .string sep] =>
    match h.m.get b with
    | some B => match cut B.cells off n with
      | some l => match strsL l with
        | some xs =>
          let r := Lib.join (xs.map fun x => x.data.toList) sep.data.toList
          bif Nat.ble n c && (Nat.ble n 140737488355328 && Nat.ble r.length 140737488355328) then some (.ret (.string (mkS r)), h) else none
        | none => none
      | none => none
    | none => none
  | _ => none

def slK (n : Nat) : Option (Nat × Hp) → Option (Ret × Hp)
  | some (i, h') => some (.ret (.slice (some ⟨i, 0, none⟩) n n), h')
  | none => none

def lSplit (args : List Value) (h : Hp) : Option (Ret × Hp) :=
  match args with
  | [.string s, .string sep] => match sep.data.toList with
    | [c] => bif Nat.blt s.size 4294967281 then
        let r := splitL c s.data.toList
        slK r.length (newB h ⟨r.map fun l => .string (mkS l), 1, false⟩)
      else none
    | _ => none
  | _ => none

def lPre (args : List Value) (h : Hp) : Option (Ret × Hp) :=
  match args with
  | [.string s, .string p] => some (.ret (.bool (Lib.hasPrefix s.data.toList p.data.toList)), h)
  | _ => none

def lIdx (args : List Value) (h : Hp) : Option (Ret × Hp) :=
  match args with
  | [.string s, .int .u8 c] => some (.ret (.int .i64 (Lib.indexByte s.data.toList c.toNat.toUInt8)), h)
  | _ => none

def in64 (n : Int) : Bool := decide (-9223372036854775808 ≤ n) && decide (n ≤ 9223372036854775807)

def lItoa (args : List Value) (h : Hp) : Option (Ret × Hp) :=
  match args with
  | [.int .i64 n] => bif in64 n then some (.ret (.string (mkS (itoaF n))), h) else none
  | _ => none

def lFmt (args : List Value) (h : Hp) : Option (Ret × Hp) :=
  match args with
  | [.int .i64 n, .int .i64 (.ofNat 10)] => bif in64 n then some (.ret (.string (mkS (itoaF n))), h) else none
  | _ => none

def numK (h : Hp) (sat : Int) : Lib.NumEnd Int → Option (Ret × Hp)
  | .ok v => some (.ret (.tuple #[.int .i64 v, .nilIface]), h)
  | .range => some (.ret (.tuple #[.int .i64 sat, errV]), h)
  | _ => some (.ret (.tuple #[.int .i64 0, errV]), h)

def lAtoi (args : List Value) (h : Hp) : Option (Ret × Hp) :=
  match args with
  | [.string s] => bif Nat.ble s.size 281474976710656 then numK h (Lib.atoiSat s.data.toList) (Lib.atoiAll s.data.toList) else none
  | _ => none

def lParse (args : List Value) (h : Hp) : Option (Ret × Hp) :=
  match args with
  | [.string s, .int .i64 (.ofNat 10), .int .i64 (.ofNat 64)] => bif Nat.ble s.size 281474976710656 then numK h (Lib.intSat 64 s.data.toList) (Lib.parseIntB 64 s.data.toList) else none
  | _ => none

def libO (L : LibIds) (f : FuncId) (args : Array Value) (h : Hp) : Option (Ret × Hp) :=
  bif Nat.beq f L.join then lJoin args.toList h
  else bif Nat.beq f L.split then lSplit args.toList h
  else bif Nat.beq f L.pre then lPre args.toList h
  else bif Nat.beq f L.idx then lIdx args.toList h
  else bif Nat.beq f L.itoa then lItoa args.toList h
  else bif Nat.beq f L.fmt then lFmt args.toList h
  else bif Nat.beq f L.atoi then lAtoi args.toList h
  else bif Nat.beq f L.parse then lParse args.toList h
  else none

end

/-! ### it is sound -/

section
variable {P : Program} {L : LibIds}

theorem old_rel {g : Gh} {h : Hp} {w w' : World} (hw : WR g h w) (o : Old w w') : WR g h w' ∧ Ext g h w g h w' := by
  refine ⟨hw.of_blks (hw.base.keep o.size (fun i hi => o.heap i (Nat.lt_of_lt_of_le hi hw.base.size))) ?_, ⟨GExt.refl g, fun _ _ h => .inl h, fun b hb _ => o.heap b hb, fun i B x hi hx => .inl ⟨i, B, x, hi, hx, rfl⟩, o.size, Nat.le_refl _, o.os, o.out⟩⟩
  intro i B x hi hx
  obtain ⟨y, hy, hb⟩ := hw.live i B hi
  rw [hx] at hy; cases hy
  exact o.heap _ hb.lt

/-- a call that leaves the heap. -/
theorem same_call {f : FuncId} {args : Array Value} {h : Hp} {v : Value} (he : ∀ (args : Array Value) (w : World), (callFunc f args).run P w = .ok (.enter f args) w)
    (H : ∀ (g : Gh) (w : World) (args' : Array Value), VRL g args.toList args'.toList → WR g h w → Calls P f args' w fun e w' => (∃ v', VR g v v' ∧ e = .returned v') ∧ Old w w') :
    CallOk P f args h (.ret v) h := by
  intro g w args' ha hw _
  refine .inl ⟨he args' w, (H g w args' ha hw).mono ?_⟩
  rintro e w' ⟨⟨v', hv, rfl⟩, ho⟩
  obtain ⟨h1, h2⟩ := old_rel hw ho
  exact ⟨g, h1, h2, v', hv, rfl⟩

theorem vrl1 {g : Gh} {args' : Array Value} {a : Value} (h : VRL g [a] args'.toList) : ∃ a', args' = #[a'] ∧ VR g a a' := by
  generalize hl : args'.toList = l at h
  cases h with
  | cons h1 t => cases t; exact ⟨_, Array.ext' (by rw [hl]), h1⟩

theorem vrl2 {g : Gh} {args' : Array Value} {a b : Value} (h : VRL g [a, b] args'.toList) : ∃ a' b', args' = #[a', b'] ∧ VR g a a' ∧ VR g b b' := by
  generalize hl : args'.toList = l at h
  cases h with
  | cons h1 t => cases t with
    | cons h2 t => cases t; exact ⟨_, _, Array.ext' (by rw [hl]), h1, h2⟩

theorem vrl3 {g : Gh} {args' : Array Value} {a b c : Value} (h : VRL g [a, b, c] args'.toList) : ∃ a' b' c', args' = #[a', b', c'] ∧ VR g a a' ∧ VR g b b' ∧ VR g c c' := by
  generalize hl : args'.toList = l at h
  cases h with
  | cons h1 t => cases t with
    | cons h2 t => cases t with
      | cons h3 t => cases t; exact ⟨_, _, _, Array.ext' (by rw [hl]), h1, h2, h3⟩

theorem strsL_spec : ∀ {l : List Value} {xs : List ByteArray}, strsL l = some xs → l = xs.map Value.string
  | [], xs, h => by simp [strsL] at h; subst h; rfl
  | v :: l, xs, h => by
    cases v <;> simp only [strsL] at h <;> first | (cases h; done) | skip
    rw [Option.map_eq_some_iff] at h
    obtain ⟨ys, h1, rfl⟩ := h
    rw [strsL_spec h1]; rfl

end
end Ev
namespace Ev
open Go

section
variable {P : Program} {L : LibIds}

theorem in64_spec {n : Int} (h : in64 n = true) : -9223372036854775808 ≤ n ∧ n ≤ 9223372036854775807 := by
  unfold in64 at h
  simpa using h

theorem numK_ok {h h' : Hp} {sat : Int} {ne : Lib.NumEnd Int} {r : Ret} (e : numK h sat ne = some (r, h')) :
    h' = h ∧ ((∃ v, ne = .ok v ∧ r = .ret (.tuple #[.int .i64 v, .nilIface])) ∨ (Syn ne ∧ r = .ret (.tuple #[.int .i64 0, errV])) ∨
      (ne = .range ∧ r = .ret (.tuple #[.int .i64 sat, errV]))) := by
  cases ne with
  | ok v => cases e; exact ⟨rfl, .inl ⟨_, rfl, rfl⟩⟩
  | range => cases e; exact ⟨rfl, .inr (.inr ⟨rfl, rfl⟩)⟩
  | _ => cases e; exact ⟨rfl, .inr (.inl ⟨trivial, rfl⟩)⟩

theorem vr_num {g : Gh} {n : Int} : VR g (.tuple #[.int .i64 n, .nilIface]) (.tuple #[.int .i64 n, .nilIface]) := .tuple _ _ (.cons (.int _ _) (.cons .nilIface .nil))
theorem vr_err {g : Gh} {n : Int} {t : TypeId} {p : Value} : VR g (.tuple #[.int .i64 n, errV]) (.tuple #[.int .i64 n, .iface t p]) := .tuple _ _ (.cons (.int _ _) (.cons (.someErr t p) .nil))

theorem lJoin_ok (S : LibSpec P L) {args : Array Value} {h h' : Hp} {r : Ret} (e : lJoin args.toList h = some (r, h')) : h.next ≤ h'.next ∧ CallOk P L.join args h r h' := by
  have hE := S.ent L.join (by simp)
  unfold lJoin at e
  split at e
  · rename_i c sep ha
    cases e
    refine ⟨Nat.le_refl _, same_call hE ?_⟩
    intro g w args' hr hw
    rw [ha] at hr
    obtain ⟨a', b', rfl, h1, h2⟩ := vrl2 hr
    rw [h2.string_inv]
    have : ∃ a c', a' = .slice a 0 c' := by cases h1 <;> exact ⟨_, _, rfl⟩
    obtain ⟨a, c', rfl⟩ := this
    refine (S.join0 a c' sep w).mono ?_
    rintro e w' ⟨rfl, ho⟩
    exact ⟨⟨_, .string _, rfl⟩, ho⟩
  · rename_i b off n c sep ha
    split at e
    · rename_i B hB
      split at e
      · rename_i l hl
        split at e
        · rename_i xs hxs
          simp only at e
          cases hcond : (Nat.ble n c && (Nat.ble n 140737488355328 && Nat.ble (Lib.join (xs.map fun x => x.data.toList) sep.data.toList).length 140737488355328)) with
          | false => rw [hcond] at e; cases e
          | true =>
            rw [hcond] at e
            cases e
            simp only [Bool.and_eq_true, Nat.ble_eq] at hcond
            obtain ⟨c1, c2, c3⟩ := hcond
            refine ⟨Nat.le_refl _, same_call hE ?_⟩
            intro g w args' hr hw
            rw [ha] at hr
            obtain ⟨a', b', rfl, h1, h2⟩ := vrl2 hr
            rw [h2.string_inv]
            obtain ⟨x, hx, hb⟩ := hw.live b B hB
            obtain ⟨cc, el, fr, q1, _, _, q4⟩ := hb.ex
            have hlx := strsL_spec hxs
            obtain ⟨k1, k2, k3⟩ := cut_spec _ _ _ _ hl
            have hn : xs.length = n := by rw [hlx, List.length_map] at k2; exact k2
            have hcell : ∀ (j : Nat) s, xs[j]? = some s → w.cell? ⟨x.b, off + j, none⟩ = some (.string s) := by
              intro j s hj
              have hjl : j < xs.length := (List.getElem?_eq_some_iff.1 hj).1
              have : B.cells[off + j]? = some (.string s) := by
                have h5 : l[j]? = some (.string s) := by rw [hlx, List.getElem?_map, hj]; rfl
                rw [k1, List.getElem?_take_of_lt (by omega), List.getElem?_drop] at h5
                exact h5
              obtain ⟨v', h6, h7⟩ := q4 _ _ this
              rw [h7.string_inv] at h6
              rw [cell_of_heap q1]; exact h6
            generalize hv : Value.slice (some ⟨b, off, none⟩) n c = sv at h1
            cases h1 <;> cases hv
            rename_i c' y hy hcap
            rw [hx] at hy; cases hy
            have hcc : c ≤ c' := by rcases hcap with h8 | ⟨_, _, h8, _⟩ <;> omega
            rw [← hn]
            refine (S.join x.b off c' xs sep w hcell hb.lt (by omega) (by omega) c3).mono ?_
            rintro e w' ⟨rfl, ho⟩
            exact ⟨⟨_, .string _, rfl⟩, ho⟩
        · cases e
      · cases e
    · cases e
  · cases e

theorem lSplit_ok (S : LibSpec P L) {args : Array Value} {h h' : Hp} {r : Ret} (e : lSplit args.toList h = some (r, h')) : h.next ≤ h'.next ∧ CallOk P L.split args h r h' := by
  have hE := S.ent L.split (by simp)
  unfold lSplit at e
  split at e
  · rename_i s sep ha
    split at e
    · rename_i c hc
      cases hcond : Nat.blt s.size 4294967281 with
      | false => rw [hcond] at e; cases e
      | true =>
        rw [hcond] at e
        simp only [cond_true] at e
        have c1 : s.size < 4294967281 := by simpa [Nat.blt_eq] using hcond
        cases hn : newB h ⟨(splitL c s.data.toList).map fun l => .string (mkS l), 1, false⟩ with
        | none => rw [hn] at e; cases e
        | some y =>
          obtain ⟨i, h1⟩ := y
          rw [hn] at e
          cases e
          have hnx := newB_all hn
          refine ⟨by rw [hnx.2.1]; exact Nat.le_succ _, ?_⟩
          intro g w args' hr hw hf
          rw [ha] at hr
          obtain ⟨a', b', rfl, h1, h2⟩ := vrl2 hr
          rw [h1.string_inv, h2.string_inv]
          have hs1 : 1 ≤ sep.size := by rw [Lib.size_eq, hc]; simp
          obtain ⟨p1, p2⟩ := splitB_one c s sep hc
          refine .inl ⟨hE _ w, (S.split s sep w hw.base c1 hs1).mono ?_⟩
          rintro e w' ⟨rfl, rfl⟩
          have hgi : g i = none := hf i (by rw [hnx.1]; exact Nat.le_refl _) (by rw [hnx.2.1, hnx.1]; exact Nat.lt_succ_self _)
          rw [p1]
          obtain ⟨g', q1, q2, q3, q4⟩ := hw.alloc (csz := (splitL c s.data.toList).length) (fr := (0, 0)) hn hgi (w' := w.alloc (.cells (((splitL c s.data.toList).map mkS).map Value.string).toArray L.tstr)) (c := (((splitL c s.data.toList).map mkS).map Value.string).toArray) (el := L.tstr)
            rfl (by simp) rfl rfl (by simp) (by simp) (by
              intro k v hk
              rw [List.getElem?_map, Option.map_eq_some_iff] at hk
              obtain ⟨l, hl, rfl⟩ := hk
              exact ⟨.string (mkS l), by simp [hl], .string _⟩)
          refine ⟨g', q1, q2, _, ?_, rfl⟩
          rw [p2]
          exact .slice i 0 _ _ _ _ q3 (.inl rfl)
    · cases e
  · cases e

theorem lib_ok (S : LibSpec P L) : FOk P (libO L) := by
  intro f args h r h' e
  unfold libO at e
  cases f1 : Nat.beq f L.join with
  | true =>
    rw [f1] at e
    rw [Nat.eq_of_beq_eq_true f1]
    exact lJoin_ok S e
  | false =>
  rw [f1] at e
  simp only [cond_false] at e
  cases f2 : Nat.beq f L.split with
  | true =>
    rw [f2] at e
    rw [Nat.eq_of_beq_eq_true f2]
    exact lSplit_ok S e
  | false =>
  rw [f2] at e
  simp only [cond_false] at e
  cases f3 : Nat.beq f L.pre with
  | true =>
    rw [f3] at e
    rw [Nat.eq_of_beq_eq_true f3]
    simp only [cond_true] at e
    unfold lPre at e
    split at e
    · rename_i s p ha
      cases e
      refine ⟨Nat.le_refl _, same_call (S.ent L.pre (by simp)) ?_⟩
      intro g w args' hr hw
      rw [ha] at hr
      obtain ⟨a', b', rfl, h1, h2⟩ := vrl2 hr
      rw [h1.string_inv, h2.string_inv]
      refine (S.pre s p w).mono ?_
      rintro e w' ⟨rfl, ho⟩
      exact ⟨⟨_, .bool _, rfl⟩, ho⟩
    · cases e
  | false =>
  rw [f3] at e
  simp only [cond_false] at e
  cases f4 : Nat.beq f L.idx with
  | true =>
    rw [f4] at e
    rw [Nat.eq_of_beq_eq_true f4]
    simp only [cond_true] at e
    unfold lIdx at e
    split at e
    · rename_i s p ha
      cases e
      refine ⟨Nat.le_refl _, same_call (S.ent L.idx (by simp)) ?_⟩
      intro g w args' hr hw
      rw [ha] at hr
      obtain ⟨a', b', rfl, h1, h2⟩ := vrl2 hr
      rw [h1.string_inv, h2.int_inv]
      refine (S.idx s p w).mono ?_
      rintro e w' ⟨rfl, ho⟩
      exact ⟨⟨_, .int _ _, rfl⟩, ho⟩
    · cases e
  | false =>
  rw [f4] at e
  simp only [cond_false] at e
  cases f5 : Nat.beq f L.itoa with
  | true =>
    rw [f5] at e
    rw [Nat.eq_of_beq_eq_true f5]
    simp only [cond_true] at e
    unfold lItoa at e
    split at e
    · rename_i n ha
      cases hcond : in64 n with
      | false => rw [hcond] at e; cases e
      | true =>
        rw [hcond] at e
        cases e
        obtain ⟨n0, n1⟩ := in64_spec hcond
        refine ⟨Nat.le_refl _, same_call (S.ent L.itoa (by simp)) ?_⟩
        intro g w args' hr hw
        rw [ha] at hr
        obtain ⟨a', rfl, h1⟩ := vrl1 hr
        rw [h1.int_inv]
        refine (S.itoa n w n0 n1 hw.base).mono ?_
        rintro e w' ⟨rfl, ho⟩
        rw [itoaF_eq n0 n1]
        exact ⟨⟨_, .string _, rfl⟩, ho⟩
    · cases e
  | false =>
  rw [f5] at e
  simp only [cond_false] at e
  cases f6 : Nat.beq f L.fmt with
  | true =>
    rw [f6] at e
    rw [Nat.eq_of_beq_eq_true f6]
    simp only [cond_true] at e
    unfold lFmt at e
    split at e
    · rename_i n ha
      cases hcond : in64 n with
      | false => rw [hcond] at e; cases e
      | true =>
        rw [hcond] at e
        cases e
        obtain ⟨n0, n1⟩ := in64_spec hcond
        refine ⟨Nat.le_refl _, same_call (S.ent L.fmt (by simp)) ?_⟩
        intro g w args' hr hw
        rw [ha] at hr
        obtain ⟨a', b', rfl, h1, h2⟩ := vrl2 hr
        rw [h1.int_inv, h2.int_inv]
        refine (S.fmt n w n0 n1 hw.base).mono ?_
        rintro e w' ⟨rfl, ho⟩
        rw [itoaF_eq n0 n1]
        exact ⟨⟨_, .string _, rfl⟩, ho⟩
    · cases e
  | false =>
  rw [f6] at e
  simp only [cond_false] at e
  cases f7 : Nat.beq f L.atoi with
  | true =>
    rw [f7] at e
    rw [Nat.eq_of_beq_eq_true f7]
    simp only [cond_true] at e
    unfold lAtoi at e
    split at e
    · rename_i s ha
      cases hsz : Nat.ble s.size 281474976710656 with
      | false => rw [hsz] at e; cases e
      | true =>
        rw [hsz] at e
        simp only [cond_true] at e
        have hsz' : s.size ≤ 281474976710656 := by simpa [Nat.ble_eq] using hsz
        obtain ⟨rfl, hcase⟩ := numK_ok e
        refine ⟨Nat.le_refl _, ?_⟩
        rcases hcase with ⟨v, hv, rfl⟩ | ⟨hv, rfl⟩ | ⟨hv, rfl⟩
        · refine same_call (S.ent L.atoi (by simp)) ?_
          intro g w args' hr hw
          rw [ha] at hr
          obtain ⟨a', rfl, h1⟩ := vrl1 hr
          rw [h1.string_inv]
          refine (S.atoiOk s v w hsz' hv).mono ?_
          rintro e w' ⟨rfl, ho⟩
          exact ⟨⟨_, vr_num, rfl⟩, ho⟩
        · refine same_call (S.ent L.atoi (by simp)) ?_
          intro g w args' hr hw
          rw [ha] at hr
          obtain ⟨a', rfl, h1⟩ := vrl1 hr
          rw [h1.string_inv]
          refine (S.atoiSyn s w hw.base hsz' hv).mono ?_
          rintro e w' ⟨⟨t, p, rfl⟩, ho⟩
          exact ⟨⟨_, vr_err, rfl⟩, ho⟩
        · refine same_call (S.ent L.atoi (by simp)) ?_
          intro g w args' hr hw
          rw [ha] at hr
          obtain ⟨a', rfl, h1⟩ := vrl1 hr
          rw [h1.string_inv]
          refine (S.atoiRan s w hw.base hsz' hv).mono ?_
          rintro e w' ⟨⟨t, p, rfl⟩, ho⟩
          exact ⟨⟨_, vr_err, rfl⟩, ho⟩
    · cases e
  | false =>
  rw [f7] at e
  simp only [cond_false] at e
  cases f8 : Nat.beq f L.parse with
  | true =>
    rw [f8] at e
    rw [Nat.eq_of_beq_eq_true f8]
    simp only [cond_true] at e
    unfold lParse at e
    split at e
    · rename_i s ha
      cases hsz : Nat.ble s.size 281474976710656 with
      | false => rw [hsz] at e; cases e
      | true =>
        rw [hsz] at e
        simp only [cond_true] at e
        have hsz' : s.size ≤ 281474976710656 := by simpa [Nat.ble_eq] using hsz
        obtain ⟨rfl, hcase⟩ := numK_ok e
        refine ⟨Nat.le_refl _, ?_⟩
        rcases hcase with ⟨v, hv, rfl⟩ | ⟨hv, rfl⟩ | ⟨hv, rfl⟩
        · refine same_call (S.ent L.parse (by simp)) ?_
          intro g w args' hr hw
          rw [ha] at hr
          obtain ⟨a', b', c', rfl, h1, h2, h3⟩ := vrl3 hr
          rw [h1.string_inv, h2.int_inv, h3.int_inv]
          refine (S.parOk s v w hsz' hv).mono ?_
          rintro e w' ⟨rfl, ho⟩
          exact ⟨⟨_, vr_num, rfl⟩, ho⟩
        · refine same_call (S.ent L.parse (by simp)) ?_
          intro g w args' hr hw
          rw [ha] at hr
          obtain ⟨a', b', c', rfl, h1, h2, h3⟩ := vrl3 hr
          rw [h1.string_inv, h2.int_inv, h3.int_inv]
          refine (S.parSyn s w hw.base hsz' hv).mono ?_
          rintro e w' ⟨⟨t, p, rfl⟩, ho⟩
          exact ⟨⟨_, vr_err, rfl⟩, ho⟩
        · refine same_call (S.ent L.parse (by simp)) ?_
          intro g w args' hr hw
          rw [ha] at hr
          obtain ⟨a', b', c', rfl, h1, h2, h3⟩ := vrl3 hr
          rw [h1.string_inv, h2.int_inv, h3.int_inv]
          refine (S.parRan s w hw.base hsz' hv).mono ?_
          rintro e w' ⟨⟨t, p, rfl⟩, ho⟩
          exact ⟨⟨_, vr_err, rfl⟩, ho⟩
    · cases e
  | false =>
  rw [f8] at e
  cases e

end
end Ev
namespace Ev
open Go

noncomputable section

/-- the library first, then the calls whose outcome is known. -/
def orcB (L : LibIds) (t : Tr (List Ent)) (f : FuncId) (args : Array Value) (h : Hp) : Option (Ret × Hp) := orK (orcT t f args h) (libO L f args h)

/-- a context with both. -/
def Ctx.wit (C : Ctx) (L : LibIds) (l : List Ent) : Ctx := { C with orc := orcB L (tabOf l) }

end

section
variable {C : Ctx} {P : Program} {L : LibIds}

theorem orcB_ok (S : LibSpec P L) {t : Tr (List Ent)} (ht : TabOk P t) : FOk P (orcB L t) := by
  intro f args h r h' e
  unfold orcB at e
  cases hl : libO L f args h with
  | none => rw [hl] at e; exact orc_ok ht f args h r h' e
  | some x =>
    rw [hl] at e
    simp only [orK] at e
    cases e
    exact lib_ok S f args h r h' hl

theorem evFn_wit (hC : CtxOk C P) (hFn : FnsOk C P) (hT : TrapSpec C P) (S : LibSpec P L) {l : List Ent} (hl : ∀ e ∈ l, EntOk P e) (n : Nat) : FOk P (evFn (C.wit L l) n) :=
  evFn_sound (hC.with _) (hFn.with _) (hT.with _) (orcB_ok S (tabOf_ok hl)) (drawnSound _ _) n

theorem entCons_wit (hC : CtxOk C P) (hFn : FnsOk C P) (hT : TrapSpec C P) (S : LibSpec P L) {l : List Ent} (hl : ∀ e ∈ l, EntOk P e) {n : Nat} {e : Ent}
    (hf : Nat.blt e.f 4000 = true) (hok : okE (C.wit L l) n e = true) : ∀ x ∈ e :: l, EntOk P x := by
  intro x hx
  rcases List.mem_cons.1 hx with h | h
  · subst h
    refine ⟨by simpa [Nat.blt_eq] using hf, ?_⟩
    intro args h r h' ht
    exact ent_ok (hC.with _) (evFn_wit hC hFn hT S hl n) hok ht
  · exact hl x h

end
end Ev
