import GoSem.Dispatch
import Derived.Lib.ItoaNum
import Derived.Laws.World
import GoSem.Machine.Return
import GoSem.Claims
import Derived.Laws.Sem
import Derived.Laws.Cells
import Derived.Calls
import Derived.Laws.StructEq
import Derived.Laws.Tables
namespace Ev
open Go

/-- how many package-level variables there are: block n is that of variable n. -/
def nGlob : Nat := 9

noncomputable def powCells : List Value := Lib.pow10Tab.map (.int .u64)

/-- what they hold. -/
structure Base (w : World) : Prop where
  size : nGlob ≤ w.heap.size
  pow : ∃ el fr, w.heap[1]? = some (.cells powCells.toArray el fr)
  mx : ∃ m, w.cell? ⟨2, 0, none⟩ = some (.int .i64 m)
  syn : ∃ ev, (ev = .nilIface ∨ ∃ te pe, ev = .iface te pe) ∧ w.cell? ⟨5, 0, none⟩ = some ev
  ran : ∃ ev, (ev = .nilIface ∨ ∃ te pe, ev = .iface te pe) ∧ w.cell? ⟨6, 0, none⟩ = some ev

theorem Base.keep {w w' : World} (b : Base w) (hs : w.heap.size ≤ w'.heap.size) (h : ∀ i, i < nGlob → w'.heap[i]? = w.heap[i]?) : Base w' := by
  have hc : ∀ i, i < nGlob → w'.cell? ⟨i, 0, none⟩ = w.cell? ⟨i, 0, none⟩ := by
    intro i hi
    simp only [World.cell?]
    rw [h i hi]
  refine ⟨Nat.le_trans b.size hs, ?_, ?_, ?_, ?_⟩
  · rw [h 1 (by decide)]; exact b.pow
  · rw [hc 2 (by decide)]; exact b.mx
  · rw [hc 5 (by decide)]; exact b.syn
  · rw [hc 6 (by decide)]; exact b.ran

end Ev
namespace Ev
noncomputable section
open Go

inductive Tr (α : Type) where
  | nil
  | node (v : Option α) (l r : Tr α)

def Tr.get {α : Type} (t : Tr α) : Nat → Option α :=
  Tr.rec (fun _ => none) (fun v _ _ gl gr n => cond (Nat.beq n 0) v (cond (Nat.beq (Nat.mod n 2) 1) (gl (Nat.div n 2)) (gr (Nat.sub (Nat.div n 2) 1)))) t

def Tr.set {α : Type} (x : Option α) (f : Nat) : Tr α → Nat → Tr α :=
  Nat.rec (fun t _ => t) (fun _ rec t n =>
    Tr.casesOn (motive := fun _ => Tr α) t
      (cond (Nat.beq n 0) (.node x .nil .nil) (cond (Nat.beq (Nat.mod n 2) 1) (.node none (rec .nil (Nat.div n 2)) .nil) (.node none .nil (rec .nil (Nat.sub (Nat.div n 2) 1)))))
      (fun v l r => cond (Nat.beq n 0) (.node x l r) (cond (Nat.beq (Nat.mod n 2) 1) (.node v (rec l (Nat.div n 2)) r) (.node v l (rec r (Nat.sub (Nat.div n 2) 1)))))) f

structure Blk where
  cells : List Value
  sz : Nat
  grown : Bool

structure Hp where
  m : Tr Blk
  next : Nat

inductive Ret where
  | ret (v : Value)
  | panic (v : Value)

structure Ctx where
  ty : Tr TypeInfo
  fn : Tr Func
  eqs : List TypeId
  run : FuncId
  ern : TypeId
  fbits : FuncId
  ffrom : FuncId
  ftrunc : FuncId
  /-- calls whose outcome is known: what it says is asked first. -/
  orc : FuncId → Array Value → Hp → Option (Ret × Hp)

inductive Out where
  | norm
  | exit (id : Nat)
  | ret
  | panic (v : Value)

structure St where
  t : Tr Value
  h : Hp

inductive AR where
  | val (v : Value)
  | skip
  | call (f : FuncId) (args : Array Value)
  | panic (v : Value)

def pureOf {α : Type} : Sem α → Option α
  | .pure a => some a
  | _ => none

def und (C : Ctx) (t : TypeId) : Option TypeDesc :=
  match C.ty.get t with
  | some i => match i.desc with
    | .named _ u => (C.ty.get u).map (·.desc)
    | d => some d
  | none => none

def sizeT (C : Ctx) (t : TypeId) : Option Nat := (C.ty.get t).map (·.size)
def bytesT (C : Ctx) (t : TypeId) : Option Nat := (C.ty.get t).map (·.bytes)
def noTuple : Option Value → Option Value
  | some (.tuple _) => none
  | v => v
def zeroT (C : Ctx) (t : TypeId) : Option Value := (C.ty.get t).bind fun i => noTuple i.zero

def isAggD : TypeDesc → Bool
  | .struct _ | .array _ _ => true
  | _ => false

def getT (t : Tr Value) (x : Nat) : Value := (t.get x).getD undef

/-- scalars that hold no address. -/
def closedV : Value → Bool
  | .bool _ | .int _ _ | .float _ _ | .string _ | .pointer none | .nilFunc | .nilIface | .slice none 0 0 | .map none => true
  | _ => false

def opd (t : Tr Value) : Operand → Option Value
  | .tmp x => some (getT t x)
  | .const v => bif closedV v then some v else none
  | .func f => some (.func (.func f) #[] #[])
  | .global _ => none

def depthT : Nat := 12
def depthH : Nat := 44
def limH : Nat := 2 ^ 40

def putT (t : Tr Value) (d : Option Nat) (v : Value) : Tr Value :=
  match d with
  | some d => t.set (some v) depthT d
  | none => t

/-- n cells from off on. -/
def cut : List Value → Nat → Nat → Option (List Value)
  | _, 0, 0 => some []
  | [], _, _ => none
  | x :: l, 0, n + 1 => (cut l 0 n).map (x :: ·)
  | _ :: l, o + 1, n => cut l o n

def isCell : Value → Bool
  | .agg _ | .tuple _ => false
  | _ => true

/-- the cells vs written at off. -/
def paste : List Value → Nat → List Value → Option (List Value)
  | l, _, [] => some l
  | [], _, _ :: _ => none
  | _ :: l, 0, v :: vs => bif isCell v then (paste l 0 vs).map (v :: ·) else none
  | x :: l, o + 1, vs => (paste l o vs).map (x :: ·)

def newB (h : Hp) (b : Blk) : Option (Nat × Hp) :=
  bif Nat.blt h.next limH then some (h.next, ⟨h.m.set (some b) depthH h.next, h.next + 1⟩) else none

def partV (C : Ctx) (t : TypeId) (cs : Array Value) (off : Nat) : Option Value :=
  match und C t with
  | some d => bif isAggD d then (sizeT C t).map fun n => .agg (cs.extract off (off + n)) else cs[off]?
  | none => none

def loadV (C : Ctx) (h : Hp) (t : TypeId) (p : Value) : Option Value :=
  match p with
  | .pointer (some ⟨b, off, none⟩) => match h.m.get b, und C t with
    | some B, some d => bif isAggD d then (match sizeT C t with
        | some n => (cut B.cells off n).map fun l => .agg l.toArray
        | none => none)
      else B.cells[off]?
    | _, _ => none
  | _ => none

def storeV (C : Ctx) (h : Hp) (t : TypeId) (p v : Value) : Option Hp :=
  match p with
  | .pointer (some ⟨b, off, none⟩) => match h.m.get b, sizeT C t with
    | some B, some n => bif Nat.beq v.cells.size n && Nat.blt 0 n then (match paste B.cells off v.cells.toList with
        | some l => some ⟨h.m.set (some { B with cells := l }) depthH b, h.next⟩
        | none => none) else none
    | _, _ => none
  | _ => none

def wrapF (k : IntKind) (n : Int) : Int :=
  match k, n with
  | .i64, .ofNat m => bif Nat.ble m 9223372036854775807 then n else k.wrap n
  | .i64, .negSucc m => bif Nat.ble m 9223372036854775807 then n else k.wrap n
  | .u8, .ofNat m => .ofNat (m % 256)
  | .u64, .ofNat m => bif Nat.ble m 18446744073709551615 then n else k.wrap n
  | _, _ => k.wrap n

def eqFields (eq : TypeId → Value → Value → Option Bool) (C : Ctx) (xs ys : Array Value) : List Field → Option Bool
  | [] => some true
  | f :: fs => bif f.name == "_" then none else match partV C f.type xs f.offset, partV C f.type ys f.offset with
    | some a, some b => match eq f.type a b with
      | some true => eqFields eq C xs ys fs
      | some false => some false
      | none => none
    | _, _ => none

def eqV (C : Ctx) : Nat → TypeId → Value → Value → Option Bool
  | 0, _, _, _ => none
  | d + 1, t, x, y =>
    match und C t, x, y with
    | some .bool, .bool a, .bool b => some (a == b)
    | some (.int _), .int k a, .int k' b => if k = k' then some (a == b) else none
    | some (.float _), .float k a, .float k' b => if k = k' then some (Op.floatEq k a b) else none
    | some .string, .string a, .string b => some (a == b)
    | some (.pointer _), .pointer none, .pointer b => some b.isNone
    | some (.pointer _), .pointer (some _), .pointer none => some false
    | some (.slice _), .slice none _ 0, .slice none _ 0 => some true
    | some (.slice _), .slice none _ 0, .slice (some _) _ _ => some false
    | some (.slice _), .slice (some _) _ _, .slice none _ 0 => some false
    | some (.func _ _ _), .nilFunc, .nilFunc => some true
    | some (.func _ _ _), .nilFunc, .func _ _ _ => some false
    | some (.func _ _ _), .func _ _ _, .nilFunc => some false
    | some (.struct fs), .agg xs, .agg ys => bif C.eqs.contains t then eqFields (eqV C d) C xs ys fs.toList else none
    | _, _, _ => none

/-- equality of two values that are no scalars, or whose operator is no operator of scalars. -/
def eqTop (C : Ctx) (t : TypeId) (x y : Value) : Option Bool :=
  match x, y with
  | .nilIface, .iface _ _ => match und C t with
    | some (.interface _) => some false
    | _ => none
  | .iface _ _, .nilIface => match und C t with
    | some (.interface _) => some false
    | _ => none
  | .chan (some 1), .nilIface => match und C t with
    | some (.interface _) => some false
    | _ => none
  | .agg xs, .agg ys => bif C.eqs.contains t then eqV C 20 t (.agg xs) (.agg ys) else none
  | .nilIface, _ => none
  | x, y => eqV C 20 t x y

def binV (C : Ctx) (op : BinOp) (t : TypeId) (x y : Value) : Option Value :=
  match x, y with
  | .int k a, .int k' b =>
    match op with
    | .shl => pureOf (Op.shift .shl k a k' b)
    | .shr => pureOf (Op.shift .shr k a k' b)
    | _ => if k = k' then (match op with
      | .add => some (.int k (wrapF k (a + b)))
      | .sub => some (.int k (wrapF k (a - b)))
      | .mul => some (.int k (wrapF k (a * b)))
      | .quo => pureOf (Op.intDiv .quo k a b)
      | .rem => pureOf (Op.intDiv .rem k a b)
      | .and => pureOf (Op.intBits .and k a b)
      | .or => pureOf (Op.intBits .or k a b)
      | .xor => pureOf (Op.intBits .xor k a b)
      | .andNot => pureOf (Op.intBits .andNot k a b)
      | op => pureOf (Op.intCmp op a b)) else none
  | .float k a, .float k' b => if k = k' then (match op with
      | .add | .sub | .mul | .quo => none
      | .eql | .neq | .lss | .leq | .gtr | .geq => pureOf (Op.floatCmp op k a b)
      | _ => none) else none
  | .string a, .string b => pureOf (Op.stringOp op a b)
  | x, y => match op with
    | .eql => (eqTop C t x y).map .bool
    | .neq => (eqTop C t x y).map fun b => .bool !b
    | _ => none

def bytesL : List Value → Option (List UInt8)
  | [] => some []
  | .int .u8 x :: l => (bytesL l).map (UInt8.ofNat x.toNat :: ·)
  | _ => none

def convV (C : Ctx) (src dst : TypeId) (x : Value) (h : Hp) : Option (Value × Hp) :=
  match und C src, und C dst, x with
  | some (.int _), some (.int k), .int _ n => some (.int k (wrapF k n), h)
  | some (.int _), some (.float k), .int _ n => (pureOf (Conv.intToFloat k n)).map (·, h)
  | some (.float _), some (.int k), .float s b => (pureOf (Conv.floatToInt s b k)).map (·, h)
  | some .string, some .string, .string s => some (.string s, h)
  | some .string, some (.slice e), .string s => match und C e with
    | some (.int .u8) => match newB h ⟨s.data.toList.map fun b => .int .u8 b.toNat, 1, true⟩ with
      | some (i, h') => some (.slice (some ⟨i, 0, none⟩) s.size s.size, h')
      | none => none
    | _ => none
  | some (.slice e), some .string, .slice none 0 _ => match und C e with
    | some (.int .u8) => some (.string .empty, h)
    | _ => none
  | some (.slice e), some .string, .slice (some ⟨b, off, none⟩) n _ => match und C e, h.m.get b with
    | some (.int .u8), some B => match cut B.cells off n with
      | some l => (bytesL l).map fun bs => (.string ⟨bs.toArray⟩, h)
      | none => none
    | _, _ => none
  | _, _, _ => none

def bound (v : Option Value) (d : Nat) : Option Nat :=
  match v with
  | none => some d
  | some (.int _ (.ofNat n)) => some n
  | _ => none

/-- the elements of a grown block are of this many cells. -/
def szOk (h : Hp) (i sz : Nat) : Bool :=
  match h.m.get i with
  | some B => !B.grown || Nat.beq B.sz sz
  | none => false

def sliceV (C : Ctx) (hp : Hp) (t : TypeId) (x : Value) (lo hi mx : Option Value) : Option Value :=
  match und C t, x with
  | some .string, .string s => match mx, bound lo 0, bound hi s.size with
    | none, some l, some h => bif Nat.ble l h && Nat.ble h s.size then some (.string (s.extract l h)) else none
    | _, _, _ => none
  | some (.slice e), .slice (some a) len cap => match bound lo 0, bound hi len, sizeT C e with
    | some l, some h, some sz => match mx with
      | some _ => match bound mx 0 with
        | some m => bif Nat.ble l h && Nat.ble h m && Nat.ble m cap && hi.isSome then
            some (.slice (some (bif Nat.beq m l then a else a.add (l * sz))) (h - l) (m - l))
          else none
        | none => none
      | none => bif Nat.ble l h && Nat.ble h cap && szOk hp a.block sz then
          (bif Nat.beq cap l && Nat.blt 0 l then some (.slice none 0 1) else some (.slice (some (a.add (l * sz))) (h - l) (cap - l)))
        else none
    | _, _, _ => none
  | some (.slice e), .slice none 0 c => match bound lo 0, bound hi 0, mx, sizeT C e with
    | some 0, some 0, none, some _ => some (.slice none 0 c)
    | _, _, _, _ => none
  | _, _ => none

def srcCells (h : Hp) (sz : Nat) (x : Value) : Option (List Value × Nat) :=
  match x with
  | .string s => bif Nat.beq sz 1 then some (s.data.toList.map fun b => .int .u8 b.toNat, s.size) else none
  | .slice none 0 _ => some ([], 0)
  | .slice (some ⟨b, off, none⟩) n _ => match h.m.get b with
    | some B => (cut B.cells off (n * sz)).map (·, n)
    | none => none
  | _ => none

def srcDesc : TypeDesc → Bool
  | .slice _ | .string => true
  | _ => false

def appendV (C : Ctx) (argTypes : Array TypeId) (args : Array Value) (h : Hp) : Option (Value × Hp) :=
  match argTypes.toList, args.toList with
  | [st, xt], [.slice base n cap, x] => match und C st, und C xt with
    | some (.slice e), some xd => match sizeT C e, bytesT C e, zeroT C e, srcCells h (sizeT C e |>.getD 0) x with
      | some sz, some by_, some _, some (src, m) =>
        let need := n + m
        bif !(srcDesc xd) || Nat.beq sz 0 || Nat.beq by_ 0 || !(Nat.ble (need * by_) 1099511627776 && Nat.ble by_ 1048576 && Nat.ble need 4294967296) || !src.all isCell then none else
        match base with
        | none => bif Nat.beq n 0 && Nat.beq cap 0 then
            (bif Nat.beq m 0 then some (.slice none 0 0, h) else
              match newB h ⟨src, sz, true⟩ with
              | some (i, h') => some (.slice (some ⟨i, 0, none⟩) m m, h')
              | none => none)
            else none
        | some ⟨b, off, none⟩ => match h.m.get b with
          | none => none
          | some B =>
            bif Nat.ble need cap then
              match paste B.cells (off + n * sz) src with
              | some l => some (.slice base need cap, ⟨h.m.set (some { B with cells := l }) depthH b, h.next⟩)
              | none => none
            else match cut B.cells off (n * sz) with
              | none => none
              | some old =>
                bif B.grown && !(Nat.beq B.sz sz) then none else
                match newB h ⟨old ++ src, sz, true⟩ with
                | none => none
                | some (i, h') =>
                  bif B.grown && Nat.beq (off + cap * sz) B.cells.length then
                    (bif Nat.beq off 0 then some (.slice (some ⟨i, 0, none⟩) need need, ⟨h'.m.set none depthH b, h'.next⟩) else none)
                  else some (.slice (some ⟨i, 0, none⟩) need need, h')
        | _ => none
      | _, _, _, _ => none
    | _, _ => none
  | _, _ => none

def copyV (C : Ctx) (argTypes : Array TypeId) (args : Array Value) (h : Hp) : Option (Value × Hp) :=
  match argTypes.toList, args.toList with
  | dt :: _, [.slice base n _, x] => match und C dt with
    | some (.slice e) => match sizeT C e, (match x with | .slice _ m _ => some m | .string s => some s.size | _ => none) with
      | some sz, some m =>
        let k := Nat.min m n
        match (match x with
          | .slice none 0 _ => some []
          | .slice (some ⟨b, off, none⟩) _ _ => (h.m.get b).bind fun B => cut B.cells off (k * sz)
          | _ => none), base with
        | some src, some ⟨b, off, none⟩ => match h.m.get b with
          | some B => match paste B.cells off src with
            | some l => some (.int .i64 k, ⟨h.m.set (some { B with cells := l }) depthH b, h.next⟩)
            | none => none
          | none => none
        | _, _ => none
      | _, _ => none
    | _ => none
  | _, _ => none

def lenV (C : Ctx) (argTypes : Array TypeId) (args : Array Value) : Option Value :=
  match argTypes.toList, args.toList with
  | [t], [x] => match und C t, x with
    | some .string, .string s => some (.int .i64 s.size)
    | some (.array n _), _ => some (.int .i64 n)
    | some (.slice _), .slice _ n _ => some (.int .i64 n)
    | _, _ => none
  | _, _ => none

def maxV (args : Array Value) : Option Value :=
  match args.toList with
  | [.int k x, .int _ y] => some (.int k (if y > x then y else x))
  | _ => none

def minV (args : Array Value) : Option Value :=
  match args.toList with
  | [.int k x, .int _ y] => some (.int k (if y < x then y else x))
  | _ => none

def builtinV (C : Ctx) (b : Builtin) (argTypes : Array TypeId) (args : Array Value) (h : Hp) : Option (Value × Hp) :=
  match b with
  | .len => (lenV C argTypes args).map (·, h)
  | .append => appendV C argTypes args h
  | .copy => copyV C argTypes args h
  | .max => (maxV args).map (·, h)
  | .min => (minV args).map (·, h)
  | _ => none

def opds (t : Tr Value) : List Operand → Option (List Value)
  | [] => some []
  | x :: l => match opd t x, opds t l with
    | some v, some vs => some (v :: vs)
    | _, _ => none

def parts (t : Tr Value) : List (Nat × Operand) → Option (List (Nat × Value))
  | [] => some []
  | (i, x) :: l => match opd t x, parts t l with
    | some v, some vs => some ((i, v) :: vs)
    | _, _ => none

def places (C : Ctx) : List Field → Option (List (Nat × Nat))
  | [] => some []
  | f :: l => match sizeT C f.type, places C l with
    | some n, some r => some ((f.offset, n) :: r)
    | _, _ => none

def buildV (C : Ctx) (t : TypeId) (ps : List (Nat × Value)) : Option Value :=
  match zeroT C t, und C t with
  | some z, some (.struct fields) => match places C fields.toList with
    | some pl => (Instr.fill (fun i => pl[i]?) z.cells ps).map .agg
    | none => none
  | some z, some (.array _ e) => match sizeT C e with
    | some sz => (Instr.fill (fun i => some (i * sz, sz)) z.cells ps).map .agg
    | none => none
  | _, _ => none

def rowOf (zero : Array Value) (n : Nat) : Array Value := (Array.range n).map (zero[· % zero.size]!)

def callV (f : Value) (args : List Value) : Option AR :=
  match f with
  | .func (.func f) first cap =>
    some (.call f (first ++ args.toArray ++ cap))
  | _ => none

def vres (h : Hp) : Option Value → Option (AR × Hp)
  | some v => some (.val v, h)
  | none => none

def pres : Option (Nat × Hp) → Option (AR × Hp)
  | some (i, h') => some (.val (.pointer (some ⟨i, 0, none⟩)), h')
  | none => none

def sres (n : Nat) : Option (Nat × Hp) → Option (AR × Hp)
  | some (i, h') => some (.val (.slice (some ⟨i, 0, none⟩) n n), h')
  | none => none

def vhres : Option (Value × Hp) → Option (AR × Hp)
  | some (v, h') => some (.val v, h')
  | none => none

def pickV : Option Value → Option Value → Option Value → Option Value
  | some (.bool c), some a, some b => some (bif c then a else b)
  | _, _, _ => none

def opAlloc (h : Hp) : Option Value → Option (AR × Hp)
  | some z => pres (newB h ⟨z.cells.toList, 0, false⟩)
  | none => none

def opBuild (C : Ctx) (h : Hp) (ty : TypeId) : Option (List (Nat × Value)) → Option (AR × Hp)
  | some vs => vres h (buildV C ty vs)
  | none => none

def bslice (h : Hp) (len sz : Nat) : Option (Array Value) → Option (AR × Hp)
  | some cs => sres len (newB h ⟨cs.toList, sz, false⟩)
  | none => none

def opBuildSlice2 (h : Hp) (len : Nat) (vs : List (Nat × Value)) : Option Nat → Option Value → Option (AR × Hp)
  | some sz, some z => bif Nat.beq sz 0 || Nat.blt 16777216 (Nat.mul len sz) || Nat.beq z.cells.size 0 then none else
      bslice h len sz (Instr.fill (fun i => some (i * sz, sz)) (rowOf (bif Nat.beq (Nat.mul len sz) 0 then #[] else z.cells) (Nat.mul len sz)) vs)
  | _, _ => none

def opBuildSlice (C : Ctx) (h : Hp) (len : Nat) : Option TypeDesc → Option (List (Nat × Value)) → Option (AR × Hp)
  | some (.slice e), some vs => opBuildSlice2 h len vs (sizeT C e) (zeroT C e)
  | _, _ => none

def opLoad (C : Ctx) (h : Hp) (ty : TypeId) : Option Value → Option (AR × Hp)
  | some p => vres h (loadV C h ty p)
  | none => none

def skres : Option Hp → Option (AR × Hp)
  | some h' => some (.skip, h')
  | none => none

def opStore (C : Ctx) (h : Hp) (ty : TypeId) : Option Value → Option Value → Option (AR × Hp)
  | some p, some v => skres (storeV C h ty p v)
  | _, _ => none

def nilV : Option Value → Option Value
  | some (.pointer (some a)) => some (.pointer (some a))
  | some (.func (.func f) a b) => some (.func (.func f) a b)
  | _ => none

def opBin (C : Ctx) (op : BinOp) (ty : TypeId) : Option Value → Option Value → Option Value
  | some a, some b => binV C op ty a b
  | _, _ => none

def isConst : Operand → Bool
  | .const _ => true
  | _ => false

def nilEq (C : Ctx) (op : BinOp) (ty : TypeId) : Option Value :=
  match und C ty with
  | some (.interface _) => match op with
    | .eql => some (.bool true)
    | .neq => some (.bool false)
    | _ => none
  | _ => none

/-- two nil interface values may be compared where one of them is the literal nil. -/
def opBin2 (C : Ctx) (op : BinOp) (ty : TypeId) (x y : Operand) (a b : Option Value) : Option Value :=
  match a, b with
  | some .nilIface, some .nilIface => bif isConst x || isConst y then nilEq C op ty else none
  | a, b => opBin C op ty a b

def unV (op : UnOp) : Option Value → Option Value
  | some (.bool b) => match op with
    | .not => some (.bool !b)
    | _ => none
  | some (.int k n) => match op with
    | .neg => some (.int k (wrapF k (0 - n)))
    | _ => none
  | some (.float k b) => match op with
    | .neg => some (.float k (Op.negFloat k b))
    | _ => none
  | _ => none

def opConv (C : Ctx) (src dst : TypeId) (h : Hp) : Option Value → Option (AR × Hp)
  | some v => vhres (convV C src dst v h)
  | none => none

def ifaceV (ty : TypeId) : Option TypeDesc → Option Value → Option Value
  | some (.interface _), _ => none
  | some _, some v => some (.iface ty v)
  | _, _ => none

def funV (fn : Fn) : Option (List Value) → Option (List Value) → Option Value
  | some a, some b => some (.func fn a.toArray b.toArray)
  | _, _ => none

def mkSlice2 (h : Hp) (l c : Nat) : Option Nat → Option Nat → Option Value → Option (AR × Hp)
  | some sz, some by_, some z =>
    bif Nat.ble l c && Nat.ble (Nat.mul by_ c) 1099511627776 && Nat.ble c 4294967296 && Nat.blt 0 sz && Nat.blt 0 z.cells.size then
      (match newB h ⟨(rowOf (bif Nat.beq (Nat.mul c sz) 0 then #[] else z.cells) (Nat.mul c sz)).toList, sz, false⟩ with
      | some (i, h') => some (.val (.slice (some ⟨i, 0, none⟩) l c), h')
      | none => none)
    else none
  | _, _, _ => none

def mkSlice (C : Ctx) (h : Hp) : Option TypeDesc → Option Value → Option Value → Option (AR × Hp)
  | some (.slice e), some (.int _ (.ofNat l)), some (.int _ (.ofNat c)) => mkSlice2 h l c (sizeT C e) (bytesT C e) (zeroT C e)
  | _, _, _ => none

def optV (t : Tr Value → Operand → Option Value) (tm : Tr Value) : Option Operand → Option (Option Value)
  | none => some none
  | some x => (t tm x).map some

def opSlice (C : Ctx) (hp : Hp) (ty : TypeId) : Option Value → Option (Option Value) → Option (Option Value) → Option (Option Value) → Option Value
  | some v, some lo, some hi, some mx => sliceV C hp ty v lo hi mx
  | _, _, _, _ => none

def fldP (a : Addr) (off : Nat) : Option Nat → Option Value
  | some (_ + 1) => some (.pointer (some (a.add off)))
  | _ => none

def fldA (C : Ctx) (a : Addr) : Option Field → Option Value
  | some f => fldP a f.offset (sizeT C f.type)
  | none => none

def opFieldAddr (C : Ctx) (k : Nat) : Option TypeDesc → Option Value → Option Value
  | some (.struct fields), some (.pointer (some a)) => fldA C a fields[k]?
  | _, _ => none

def opField (C : Ctx) (k : Nat) : Option TypeDesc → Option Value → Option Value
  | some (.struct fields), some (.agg cs) => match fields[k]? with
    | some f => partV C f.type cs f.offset
    | none => none
  | _, _ => none

def elemA (a : Addr) (i n : Nat) : Option Nat → Option Value
  | some sz => bif Nat.blt i n then some (.pointer (some (a.add (Nat.mul i sz)))) else none
  | none => none

def opIndexAddr (C : Ctx) : Option TypeDesc → Option Value → Option Value → Option Value
  | some (.array n e), some (.pointer (some a)), some (.int _ (.ofNat i)) => elemA a i n (sizeT C e)
  | some (.slice e), some (.slice (some a) n _), some (.int _ (.ofNat i)) => elemA a i n (sizeT C e)
  | _, _, _ => none

def opIndex (C : Ctx) : Option TypeDesc → Option Value → Option Value → Option Value
  | some (.array n e), some (.agg cs), some (.int _ (.ofNat i)) => match sizeT C e with
      | some sz => bif Nat.blt i n then partV C e cs (Nat.mul i sz) else none
      | none => none
  | some .string, some (.string s), some (.int _ (.ofNat i)) => match s[i]? with
      | some b => some (.int .u8 b.toNat)
      | none => none
  | _, _, _ => none

def opAssert (asserted : TypeId) (ok : Bool) : Option TypeDesc → Option Value → Option Value
  | some (.interface _), _ => none
  | some _, some (.iface ty v) => bif ok && Nat.beq ty asserted then some (.tuple #[v, .bool true]) else none
  | _, _ => none

def opExtract (k : Nat) : Option Value → Option Value
  | some (.tuple vs) => vs[k]?
  | _ => none

def opPanic (h : Hp) : Option Value → Option (AR × Hp)
  | some (.iface ty v) => some (.panic (.iface ty v), h)
  | _ => none

def callO (h : Hp) (f : Option Value) (args : List Value) : Option (AR × Hp) :=
  match f with
  | some f => (callV f args).map (·, h)
  | none => none

def opCall (C : Ctx) (t : Tr Value) (h : Hp) (callee : Callee) (argTypes : Array TypeId) : Option (List Value) → Option (AR × Hp)
  | some args => match callee with
      | .builtin b => vhres (builtinV C b argTypes args.toArray h)
      | .value f => callO h (opd t f) args
      | _ => none
  | none => none

abbrev OpF := Ctx → Tr Value → Hp → Option (AR × Hp)
def x_move (x : Operand) : OpF := fun _C t h => vres h (opd t x)
def x_assign (x : Operand) : OpF := fun _C t h => vres h (opd t x)
def x_pick (c : Operand) (a : Operand) (b : Operand) : OpF := fun _C t h => vres h (pickV (opd t c) (opd t a) (opd t b))
def x_alloc (e : TypeId) : OpF := fun C _t h => opAlloc h (zeroT C e)
def x_box (_e : TypeId) (x : Operand) : OpF := fun _C t h => opAlloc h (opd t x)
def x_build (ty : TypeId) (ps : Array (Nat × Operand)) : OpF := fun C t h => opBuild C h ty (parts t ps.toList)
def x_buildSlice (ty : TypeId) (len : Nat) (ps : Array (Nat × Operand)) : OpF := fun C t h => opBuildSlice C h len (und C ty) (parts t ps.toList)
def x_load (ty : TypeId) (a : Operand) : OpF := fun C t h => opLoad C h ty (opd t a)
def x_store (ty : TypeId) (a : Operand) (x : Operand) : OpF := fun C t h => opStore C h ty (opd t a) (opd t x)
def x_nilCheck (x : Operand) : OpF := fun _C t h => vres h (nilV (opd t x))
def x_binOp (op : BinOp) (ty : TypeId) (x : Operand) (y : Operand) (_z : TypeId) : OpF := fun C t h => vres h (opBin2 C op ty x y (opd t x) (opd t y))
def x_unOp (op : UnOp) (_ty : TypeId) (x : Operand) : OpF := fun _C t h => vres h (unV op (opd t x))
def x_convert (src : TypeId) (dst : TypeId) (x : Operand) : OpF := fun C t h => opConv C src dst h (opd t x)
def x_makeInterface (ty : TypeId) (x : Operand) : OpF := fun C t h => vres h (ifaceV ty (und C ty) (opd t x))
def x_makeFunc (fn : Fn) (first : Array Operand) (cap : Array Operand) : OpF := fun _C t h => vres h (funV fn (opds t first.toList) (opds t cap.toList))
def x_makeSlice (ty : TypeId) (l : Operand) (c : Operand) : OpF := fun C t h => mkSlice C h (und C ty) (opd t l) (opd t c)
def x_slice (ty : TypeId) (x : Operand) (lo : Option Operand) (hi : Option Operand) (mx : Option Operand) : OpF := fun C t h => vres h (opSlice C h ty (opd t x) (optV opd t lo) (optV opd t hi) (optV opd t mx))
def x_fieldAddr (s : TypeId) (x : Operand) (k : Nat) : OpF := fun C t h => vres h (opFieldAddr C k (und C s) (opd t x))
def x_field (ty : TypeId) (x : Operand) (k : Nat) : OpF := fun C t h => vres h (opField C k (und C ty) (opd t x))
def x_indexAddr (ty : TypeId) (x : Operand) (i : Operand) : OpF := fun C t h => vres h (opIndexAddr C (und C ty) (opd t x) (opd t i))
def x_index (ty : TypeId) (x : Operand) (i : Operand) : OpF := fun C t h => vres h (opIndex C (und C ty) (opd t x) (opd t i))
def x_typeAssert (x : Operand) (_ty : TypeId) (asserted : TypeId) (ok : Bool) : OpF := fun C t h => vres h (opAssert asserted ok (und C asserted) (opd t x))
def x_extract (x : Operand) (k : Nat) : OpF := fun _C t h => vres h (opExtract k (opd t x))
def x_panic (x : Operand) : OpF := fun _C t h => opPanic h (opd t x)
def x_call (c : Call) : OpF := fun C t h => opCall C t h c.callee c.argTypes (opds t c.args.toList)
def x_none : OpF := fun _ _ _ => none
def aopSel (op : Op) : OpF :=
  match op with
  | .move x => x_move x
  | .assign x => x_assign x
  | .pick c a b => x_pick c a b
  | .alloc e => x_alloc e
  | .box _e x => x_box _e x
  | .build ty ps => x_build ty ps
  | .buildSlice ty len ps => x_buildSlice ty len ps
  | .load ty a => x_load ty a
  | .store ty a x => x_store ty a x
  | .nilCheck x => x_nilCheck x
  | .binOp op ty x y _z => x_binOp op ty x y _z
  | .unOp op _ty x => x_unOp op _ty x
  | .convert src dst x => x_convert src dst x
  | .makeInterface ty x => x_makeInterface ty x
  | .makeFunc fn first cap => x_makeFunc fn first cap
  | .makeSlice ty l c => x_makeSlice ty l c
  | .slice ty x lo hi mx => x_slice ty x lo hi mx
  | .fieldAddr s x k => x_fieldAddr s x k
  | .field ty x k => x_field ty x k
  | .indexAddr ty x i => x_indexAddr ty x i
  | .index ty x i => x_index ty x i
  | .typeAssert x _ty asserted ok => x_typeAssert x _ty asserted ok
  | .extract x k => x_extract x k
  | .panic x => x_panic x
  | .call c => x_call c
  | _ => x_none

def aop (C : Ctx) (o : Oper) (t : Tr Value) (h : Hp) : Option (AR × Hp) := aopSel o.op C t h

def dstOf (ops : List Oper) (j : Nat) : Option Nat :=
  match ops[j]? with
  | some o => o.dst
  | none => none

def wantedA (ops : List Oper) (t : Tr Value) (o : Oper) : Bool :=
  match o.guard with
  | none => true
  | some (j, want) => match dstOf ops j with
    | some d => match getT t d with
      | .bool b => b == want
      | _ => false
    | none => false

/-- what a drawn region met: stages (heap behind each writer), loads. -/
structure Met where
  stages : List (Nat × Hp)
  loads : List (Nat × (Hp → Option (AR × Hp)) × Value)
  /-- the call that panicked. -/
  stop : Option Nat

abbrev CallF := FuncId → Array Value → Hp → Option (Ret × Hp)

def isWriter (o : Oper) : Bool :=
  match o.op with
  | .store .. => true
  | .call c => match c.callee with
    | .builtin .append | .builtin .copy => true
    | .builtin _ => false
    | _ => true
  | _ => false

/-- what looks at the heap and leaves it. -/
def isReader (o : Oper) : Bool :=
  match o.op with
  | .load .. | .slice .. | .convert .. => true
  | _ => false

def note (C : Ctx) (o : Oper) (i : Nat) (t : Tr Value) (r : AR) (h' : Hp) (m : Met) : Met :=
  bif isReader o then
    match r with
    | .val v => { m with loads := (i, aop C o t, v) :: m.loads }
    | _ => m
  else bif isWriter o then { m with stages := (i, h') :: m.stages } else m

/-- the operations of a region, one behind the other. -/
def retK (C : Ctx) (draw : Bool) (o : Oper) (i : Nat) (s : St) (m : Met) (k : Nat → St → Met → Option (Out × St × Met)) : Option (Ret × Hp) → Option (Out × St × Met)
  | some (.ret v, h') => k (Nat.succ i) ⟨putT s.t o.dst v, h'⟩ (bif draw then note C o i s.t (.val v) h' m else m)
  | some (.panic v, h') => some (.panic v, ⟨s.t, h'⟩, bif draw then { m with stop := some i } else m)
  | none => none

def opK (C : Ctx) (F : CallF) (draw : Bool) (o : Oper) (i : Nat) (s : St) (m : Met) (k : Nat → St → Met → Option (Out × St × Met)) : Option (AR × Hp) → Option (Out × St × Met)
  | some (.val v, h) => bif draw && isReader o && !(Nat.beq h.next s.h.next) then none else k (Nat.succ i) ⟨putT s.t o.dst v, h⟩ (bif draw then note C o i s.t (.val v) h m else m)
  | some (.skip, h) => k (Nat.succ i) ⟨putT s.t o.dst undef, h⟩ (bif draw then note C o i s.t .skip h m else m)
  | some (.panic v, h) => bif draw then none else some (.panic v, ⟨s.t, h⟩, m)
  | some (.call f args, h) => retK C draw o i s m k (F f args h)
  | none => none

def evOps (C : Ctx) (F : CallF) (all : List Oper) (draw : Bool) : List Oper → Nat → St → Met → Option (Out × St × Met)
  | [], _, s, m => some (.norm, s, m)
  | o :: l, i, s, m =>
    bif wantedA all s.t o then opK C F draw o i s m (evOps C F all draw l) (aop C o s.t s.h)
    else evOps C F all draw l (Nat.succ i) ⟨putT s.t o.dst undef, s.h⟩ m

def sameV : Value → Value → Bool
  | .bool a, .bool b => a == b
  | .int k a, .int k' b => decide (k = k') && a == b
  | .float k a, .float k' b => decide (k = k') && a == b
  | .string a, .string b => a.data.toList == b.data.toList
  | .pointer a, .pointer b => a == b
  | .slice a n c, .slice b m d => a == b && n == m && c == d
  | .nilFunc, .nilFunc => true
  | .nilIface, .nilIface => true
  | _, _ => false

def sameL : List Value → List Value → Bool
  | [], [] => true
  | x :: l, y :: r => sameV x y && sameL l r
  | _, _ => false

def sameW (x y : Value) : Bool :=
  match x, y with
  | .agg a, .agg b => sameL a.toList b.toList
  | x, y => sameV x y

def sameO (h : Hp) (x : Option (AR × Hp)) (y : Value) : Bool :=
  match x with
  | some (.val x, h') => sameW x y && Nat.beq h'.next h.next
  | _ => false

/-- can reader i be carried out at the stage behind writers `past`, ahead of writers `rest`? (bef: what stands ahead of each) -/
def staged (bef : Array Nat) (i : Nat) (past rest : List Nat) : Bool :=
  (past.all fun w => !((bef.getD w 0).testBit i)) && (rest.all fun w => !((bef.getD i 0).testBit w))

/-- stages: the writers, rising, with the heap behind each. -/
def loadOk (bef : Array Nat) (i : Nat) (f : Hp → Option (AR × Hp)) (v : Value) : List Nat → Hp → List (Nat × Hp) → Bool
  | past, h, [] => sameO h (f h) v || !(staged bef i past [])
  | past, h, (w, h') :: r => (sameO h (f h) v || !(staged bef i past (w :: r.map (·.1)))) && loadOk bef i f v (w :: past) h' r

def drawnOk (ops : Array Oper) (h : Hp) (m : Met) : Bool :=
  match m.stages with
  | [] => m.loads.all fun (_, f, v) => sameO h (f h) v
  | _ =>
    let bef := Region.before ops
    m.loads.all fun (i, f, v) => loadOk bef i f v [] h m.stages.reverse

/-- a call may panic where all that stands behind it waits for it. -/
def stopOk (ops : Array Oper) : Option Nat → Bool
  | none => true
  | some k =>
    let bef := Region.before ops
    ((List.range ops.size).all fun j => Nat.ble j k || (bef.getD j 0).testBit k) && Nat.blt k ops.size

def initT : List Value → Nat → Tr Value → Tr Value
  | [], _, t => t
  | v :: l, i, t => initT l (Nat.succ i) (t.set (some v) depthT i)

def resOf (C : Ctx) (s : St) : List ResultVar → Option (List Value)
  | [] => some []
  | .tmp x :: l => (resOf C s l).map (getT s.t x :: ·)
  | .cell a ty :: l => match loadV C s.h ty (getT s.t a), resOf C s l with
    | some v, some r => some (v :: r)
    | _, _ => none

def resV (C : Ctx) (s : St) (rs : List ResultVar) : Option Value :=
  match resOf C s rs with
  | some [v] => some v
  | some l => some (.tuple l.toArray)
  | none => none

def extV (C : Ctx) (f : FuncId) (args : Array Value) : Option Value :=
  match args.toList with
  | [.float .f64 b] => bif Nat.beq f C.fbits then some (.int .u64 b) else none
  | [.int .u64 (.ofNat b)] => bif Nat.beq f C.ffrom then some (.float .f64 b) else none
  | _ => none

def callBody (C : Ctx) (rec : Code → St → Option (Out × St)) (f : FuncId) (args : Array Value) (h : Hp) : Option (Ret × Hp) :=
  match C.fn.get f with
  | none => none
  | some fn => match fn.body with
    | none => (extV C f args).map fun v => (.ret v, h)
    | some c => bif Nat.ble args.size fn.ntmps then
      match rec c ⟨initT args.toList 0 .nil, h⟩ with
      | some (.norm, s) => (resV C s fn.results.toList).map fun v => (.ret v, s.h)
      | some (.ret, s) => (resV C s fn.results.toList).map fun v => (.ret v, s.h)
      | some (.panic v, s) => some (.panic v, s.h)
      | _ => none
      else none

def hasBody (C : Ctx) (g : FuncId) : Bool :=
  match C.fn.get g with
  | some fn => fn.body.isSome
  | none => false

def trapK (C : Ctx) : Option (Ret × Hp) → Option (Ret × Hp)
  | some (.ret _, h') => some (.ret (.int .i64 0), h')
  | some (.panic (.iface ty (.int k n)), h') => bif Nat.beq ty C.ern then some (.ret (.int k n), h') else none
  | _ => none

def callG (C : Ctx) (rec : Code → St → Option (Out × St)) : CallF := fun f args h =>
  bif Nat.beq f C.run then
    match args.toList with
    | [.func (.func g) first cap] => bif hasBody C g then trapK C (callBody C rec g (first ++ cap) h) else none
    | _ => none
  else callBody C rec f args h

def orK (x : Option (Ret × Hp)) : Option (Ret × Hp) → Option (Ret × Hp)
  | some r => some r
  | none => x

def callF (C : Ctx) (rec : Code → St → Option (Out × St)) : CallF := fun f args h => orK (callG C rec f args h) (C.orc f args h)

abbrev EvF := Code → St → Option (Out × St)
abbrev StF := Ctx → EvF → St → Option (Out × St)

def seqK (ev : EvF) (b : Code) : Option (Out × St) → Option (Out × St)
  | some (.norm, s') => ev b s'
  | r => r
def condK (ev : EvF) (a b : Code) (s : St) : Option Value → Option (Out × St)
  | some (.bool c) => bif c then ev a s else ev b s
  | _ => none
def blockK (id : Nat) : Option (Out × St) → Option (Out × St)
  | some (.exit i, s') => bif Nat.beq i id then some (.norm, s') else some (.exit i, s')
  | r => r
def regK (ops : Array Oper) (draw : Bool) (h : Hp) : Option (Out × St × Met) → Option (Out × St)
  | some (o, s', m) => bif draw then (bif drawnOk ops h m && stopOk ops m.stop then some (o, s') else none) else some (o, s')
  | none => none
def c_skip : StF := fun _ _ s => some (.norm, s)
def c_seq (a b : Code) : StF := fun _ ev s => seqK ev b (ev a s)
def c_cond (x : Operand) (a b : Code) : StF := fun _ ev s => condK ev a b s (opd s.t x)
def c_block (id : Nat) (b : Code) : StF := fun _ ev s => blockK id (ev b s)
def c_loop (b : Code) : StF := fun _ ev s => seqK ev (.loop b) (ev b s)
def c_exit (id : Nat) : StF := fun _ _ s => some (.exit id, s)
def c_ret : StF := fun _ _ s => some (.ret, s)
def c_region (ops : Array Oper) (draw : Bool) : StF := fun C ev s => regK ops draw s.h (evOps C (callF C ev) ops.toList draw ops.toList 0 s ⟨[], [], none⟩)
def c_none : StF := fun _ _ _ => none

def evSel (c : Code) : StF :=
    match c with
    | .skip => c_skip
    | .seq a b => c_seq a b
    | .cond x a b => c_cond x a b
    | .block id b => c_block id b
    | .loop b => c_loop b
    | .exit id => c_exit id
    | .ret => c_ret
    | .region _ ops draw => c_region ops draw
    | _ => c_none

def evStep (C : Ctx) (ev : EvF) (c : Code) (s : St) : Option (Out × St) := evSel c C ev s

def evCode (C : Ctx) (n : Nat) : Code → St → Option (Out × St) :=
  Nat.rec (fun _ _ => none) (fun _ ev => evStep C ev) n

def evFn (C : Ctx) (n : Nat) (f : FuncId) (args : Array Value) (h : Hp) : Option (Ret × Hp) := callF C (evCode C n) f args h

def saysTrue (r : Option (Ret × Hp)) : Bool :=
  match r with
  | some (.ret (.bool true), _) => true
  | _ => false

end
end Ev
namespace Ev
open Go

theorem Tr.get_nil {α : Type} (n : Nat) : (Tr.nil : Tr α).get n = none := rfl
theorem Tr.get_node {α : Type} (v : Option α) (l r : Tr α) (n : Nat) :
    (Tr.node v l r).get n = cond (Nat.beq n 0) v (cond (Nat.beq (Nat.mod n 2) 1) (l.get (Nat.div n 2)) (r.get (Nat.sub (Nat.div n 2) 1))) := rfl
theorem Tr.set_zero {α : Type} (x : Option α) (t : Tr α) (n : Nat) : Tr.set x 0 t n = t := rfl
theorem Tr.set_nil {α : Type} (x : Option α) (f n : Nat) : Tr.set x (f + 1) .nil n =
    cond (Nat.beq n 0) (.node x .nil .nil) (cond (Nat.beq (Nat.mod n 2) 1) (.node none (Tr.set x f .nil (Nat.div n 2)) .nil) (.node none .nil (Tr.set x f .nil (Nat.sub (Nat.div n 2) 1)))) := rfl
theorem Tr.set_node {α : Type} (x v : Option α) (l r : Tr α) (f n : Nat) : Tr.set x (f + 1) (.node v l r) n =
    cond (Nat.beq n 0) (.node x l r) (cond (Nat.beq (Nat.mod n 2) 1) (.node v (Tr.set x f l (Nat.div n 2)) r) (.node v l (Tr.set x f r (Nat.sub (Nat.div n 2) 1)))) := rfl

theorem beq_false_of {a b : Nat} (h : a ≠ b) : Nat.beq a b = false := by
  rw [Bool.eq_false_iff]; intro e; exact h (Nat.eq_of_beq_eq_true e)
theorem beq_true_of {a b : Nat} (h : a = b) : Nat.beq a b = true := by subst h; exact Nat.beq_refl _

theorem Tr.get_set {α : Type} (x : Option α) : ∀ (f : Nat) (t : Tr α) (n m : Nat), n + 1 < 2 ^ f →
    (Tr.set x f t n).get m = if m = n then x else t.get m := by
  intro f
  induction f with
  | zero => intro t n m h; simp at h
  | succ f ih =>
    intro t n m h
    have hd : Nat.div n 2 = n / 2 := rfl
    have hm : Nat.mod n 2 = n % 2 := rfl
    have hd' : Nat.div m 2 = m / 2 := rfl
    have hm' : Nat.mod m 2 = m % 2 := rfl
    have hs : ∀ a b, Nat.sub a b = a - b := fun _ _ => rfl
    have hp : 2 ^ (f + 1) = 2 * 2 ^ f := by rw [Nat.pow_succ]; omega
    have key : ∀ (v : Option α) (l r : Tr α), (cond (Nat.beq n 0) (Tr.node x l r) (cond (Nat.beq (Nat.mod n 2) 1) (.node v (Tr.set x f l (Nat.div n 2)) r) (.node v l (Tr.set x f r (Nat.sub (Nat.div n 2) 1))))).get m
        = if m = n then x else (Tr.node v l r).get m := by
      intro v l r
      by_cases h0 : n = 0
      · subst h0
        rw [beq_true_of rfl]; simp only [cond_true]
        rw [Tr.get_node, Tr.get_node]
        by_cases hm0 : m = 0
        · rw [if_pos hm0, beq_true_of hm0]; rfl
        · rw [if_neg hm0, beq_false_of hm0]; rfl
      · rw [beq_false_of h0]; simp only [cond_false]
        by_cases h1 : n % 2 = 1
        · rw [hm, beq_true_of h1]; simp only [cond_true]
          rw [Tr.get_node, Tr.get_node, ih _ _ _ (by omega)]
          by_cases hm0 : m = 0
          · rw [beq_true_of hm0, if_neg (show ¬ m = n by omega)]; rfl
          · rw [beq_false_of hm0]; simp only [cond_false]
            by_cases h2 : m % 2 = 1
            · rw [hm', beq_true_of h2]; simp only [cond_true, hd, hd']
              by_cases e : m = n
              · rw [if_pos e, if_pos (by omega)]
              · rw [if_neg e, if_neg (show ¬ (_ : Nat) = _ by omega)]
            · rw [hm', beq_false_of h2, if_neg (show ¬ m = n by omega)]; rfl
        · rw [hm, beq_false_of h1]; simp only [cond_false]
          rw [Tr.get_node, Tr.get_node, ih _ _ _ (by rw [hs, hd]; omega)]
          by_cases hm0 : m = 0
          · rw [beq_true_of hm0, if_neg (show ¬ m = n by omega)]; rfl
          · rw [beq_false_of hm0]; simp only [cond_false]
            by_cases h2 : m % 2 = 1
            · rw [hm', beq_true_of h2, if_neg (show ¬ m = n by omega)]; rfl
            · rw [hm', beq_false_of h2]; simp only [cond_false, hs, hd, hd']
              by_cases e : m = n
              · rw [if_pos e, if_pos (by omega)]
              · rw [if_neg e, if_neg (show ¬ (_ : Nat) = _ by omega)]
    cases t with
    | nil =>
      rw [Tr.set_nil]
      have := key none .nil .nil
      by_cases h0 : n = 0
      · subst h0
        rw [beq_true_of rfl] at this ⊢; simp only [cond_true] at this ⊢
        rw [this]
        by_cases e : m = 0
        · rw [if_pos e, if_pos e]
        · rw [if_neg e, if_neg e, Tr.get_node, beq_false_of e]
          cases Nat.beq (Nat.mod m 2) 1 <;> rfl
      · rw [beq_false_of h0] at this ⊢; simp only [cond_false] at this ⊢
        rw [this]
        by_cases e : m = n
        · rw [if_pos e, if_pos e]
        · rw [if_neg e, if_neg e, Tr.get_node, Tr.get_nil]
          cases Nat.beq m 0 <;> cases Nat.beq (Nat.mod m 2) 1 <;> rfl
    | node v l r => rw [Tr.set_node]; exact key v l r

/-! the ghost: where an abstract block lies -/
structure GB where
  b : Nat
  csz : Nat
  fin : Nat
  sz : Nat
  grown : Bool

abbrev Gh := Nat → Option GB

def capR (x : GB) (off c c' : Nat) : Prop :=
  c' = c ∨ (x.grown = true ∧ off + c * x.sz = x.fin ∧ c ≤ c' ∧ off + c' * x.sz ≤ x.csz)

mutual
inductive VR (g : Gh) : Value → Value → Prop where
  | bool (b : Bool) : VR g (.bool b) (.bool b)
  | int (k : IntKind) (n : Int) : VR g (.int k n) (.int k n)
  | float (k : FloatKind) (b : Nat) : VR g (.float k b) (.float k b)
  | string (s : ByteArray) : VR g (.string s) (.string s)
  | nilPtr : VR g (.pointer none) (.pointer none)
  | nilFunc : VR g .nilFunc .nilFunc
  | nilIface : VR g .nilIface .nilIface
  | nilMap : VR g (.map none) (.map none)
  | ptr (i off : Nat) (x : GB) (h : g i = some x) : VR g (.pointer (some ⟨i, off, none⟩)) (.pointer (some ⟨x.b, off, none⟩))
  | nilSlice : VR g (.slice none 0 0) (.slice none 0 0)
  | emptySlice (a' : Option Addr) (c' : Nat) : VR g (.slice none 0 1) (.slice a' 0 c')
  | slice (i off n c c' : Nat) (x : GB) (h : g i = some x) (hc : capR x off c c') : VR g (.slice (some ⟨i, off, none⟩) n c) (.slice (some ⟨x.b, off, none⟩) n c')
  | func (fn : Fn) (a a' b b' : Array Value) (ha : VRL g a.toList a'.toList) (hb : VRL g b.toList b'.toList) : VR g (.func fn a b) (.func fn a' b')
  | iface (t : TypeId) (v v' : Value) (h : VR g v v') : VR g (.iface t v) (.iface t v')
  | agg (a a' : Array Value) (h : VRL g a.toList a'.toList) : VR g (.agg a) (.agg a')
  | tuple (a a' : Array Value) (h : VRL g a.toList a'.toList) : VR g (.tuple a) (.tuple a')
  /- values that nobody looks into: some int, some pointer, some error -/
  | someInt (n : Int) : VR g (.chan none) (.int .i64 n)
  | somePtr (a : Option Addr) : VR g (.chan (some 0)) (.pointer a)
  | someErr (t : TypeId) (v : Value) : VR g (.chan (some 1)) (.iface t v)
inductive VRL (g : Gh) : List Value → List Value → Prop where
  | nil : VRL g [] []
  | cons {v v' : Value} {l l' : List Value} (h : VR g v v') (t : VRL g l l') : VRL g (v :: l) (v' :: l')
end

def GExt (g g' : Gh) : Prop := ∀ i x, g i = some x → g' i = some x

theorem GExt.refl (g : Gh) : GExt g g := fun _ _ h => h
theorem GExt.trans {a b c : Gh} (h : GExt a b) (h' : GExt b c) : GExt a c := fun i x hx => h' i x (h i x hx)

mutual
theorem VR.mono {g g' : Gh} (hg : GExt g g') : ∀ {v v' : Value}, VR g v v' → VR g' v v'
  | _, _, .bool b => .bool b
  | _, _, .int k n => .int k n
  | _, _, .float k b => .float k b
  | _, _, .string s => .string s
  | _, _, .nilPtr => .nilPtr
  | _, _, .nilFunc => .nilFunc
  | _, _, .nilIface => .nilIface
  | _, _, .nilMap => .nilMap
  | _, _, .ptr i off x h => .ptr i off x (hg _ _ h)
  | _, _, .nilSlice => .nilSlice
  | _, _, .emptySlice a c => .emptySlice a c
  | _, _, .slice i off n c c' x h hc => .slice i off n c c' x (hg _ _ h) hc
  | _, _, .func fn a a' b b' ha hb => .func fn a a' b b' (VRL.mono hg ha) (VRL.mono hg hb)
  | _, _, .iface t v v' h => .iface t v v' (VR.mono hg h)
  | _, _, .agg a a' h => .agg a a' (VRL.mono hg h)
  | _, _, .tuple a a' h => .tuple a a' (VRL.mono hg h)
  | _, _, .someInt n => .someInt n
  | _, _, .somePtr a => .somePtr a
  | _, _, .someErr t v => .someErr t v
theorem VRL.mono {g g' : Gh} (hg : GExt g g') : ∀ {l l' : List Value}, VRL g l l' → VRL g' l l'
  | _, _, .nil => .nil
  | _, _, .cons h t => .cons (VR.mono hg h) (VRL.mono hg t)
end

theorem VRL.length {g : Gh} : ∀ {l l' : List Value}, VRL g l l' → l.length = l'.length
  | _, _, .nil => rfl
  | _, _, .cons _ t => by simp [VRL.length t]

theorem VRL.get {g : Gh} : ∀ {l l' : List Value}, VRL g l l' → ∀ {k : Nat} {v : Value}, l[k]? = some v → ∃ v', l'[k]? = some v' ∧ VR g v v'
  | _, _, .nil, k, v, h => by simp at h
  | _, _, .cons hv t, 0, v, h => by simp at h; subst h; exact ⟨_, rfl, hv⟩
  | _, _, .cons hv t, k + 1, v, h => by simp at h ⊢; exact VRL.get t h

theorem VRL.of_get {g : Gh} : ∀ {l l' : List Value}, l.length = l'.length → (∀ (k : Nat) v v', l[k]? = some v → l'[k]? = some v' → VR g v v') → VRL g l l'
  | [], [], _, _ => .nil
  | [], _ :: _, h, _ => by simp at h
  | _ :: _, [], h, _ => by simp at h
  | x :: l, y :: l', h, hk => .cons (hk 0 x y rfl rfl) (VRL.of_get (by simpa using h) fun k v v' a b => hk (k + 1) v v' (by simpa using a) (by simpa using b))

theorem VRL.append {g : Gh} : ∀ {a a' b b' : List Value}, VRL g a a' → VRL g b b' → VRL g (a ++ b) (a' ++ b')
  | _, _, _, _, .nil, h => h
  | _, _, _, _, .cons hv t, h => .cons hv (VRL.append t h)

theorem VRL.drop {g : Gh} : ∀ {l l' : List Value}, VRL g l l' → ∀ n, VRL g (l.drop n) (l'.drop n)
  | _, _, h, 0 => by simpa using h
  | _, _, .nil, n + 1 => by simp; exact .nil
  | _, _, .cons _ t, n + 1 => by simpa using VRL.drop t n

theorem VRL.take {g : Gh} : ∀ {l l' : List Value}, VRL g l l' → ∀ n, VRL g (l.take n) (l'.take n)
  | _, _, _, 0 => by simp; exact .nil
  | _, _, .nil, n + 1 => by simp; exact .nil
  | _, _, .cons hv t, n + 1 => by simpa using .cons hv (VRL.take t n)

theorem VR.of_closed {g : Gh} {v : Value} (h : closedV v = true) : VR g v v := by
  unfold closedV at h
  split at h <;> first
    | constructor
    | (simp at h)

end Ev
namespace Ev
open Go

/-- an abstract block, and the concrete one. -/
structure BR (g : Gh) (B : Blk) (x : GB) (w : World) : Prop where
  ex : ∃ c el fr, w.heap[x.b]? = some (.cells c el fr) ∧ c.size = x.csz ∧ (∀ k, k < x.csz → ¬ (fr.1 ≤ k ∧ k < fr.2)) ∧
    (∀ (k : Nat) v, B.cells[k]? = some v → ∃ v', c[k]? = some v' ∧ VR g v v')
  len : B.cells.length = x.fin
  sz : B.sz = x.sz
  gr : B.grown = x.grown
  le : x.fin ≤ x.csz

structure WR (g : Gh) (h : Hp) (w : World) : Prop where
  live : ∀ i B, h.m.get i = some B → ∃ x, g i = some x ∧ BR g B x w
  inj : ∀ i j B B' x y, h.m.get i = some B → h.m.get j = some B' → g i = some x → g j = some y → x.b = y.b → i = j
  fresh : ∀ i, h.next ≤ i → h.m.get i = none
  lim : h.next ≤ limH
  base : Base w
  low : ∀ i B x, h.m.get i = some B → g i = some x → nGlob ≤ x.b

/-- what a piece of the run may have done to the concrete world. -/
structure Ext (g : Gh) (h : Hp) (w : World) (g' : Gh) (h' : Hp) (w' : World) : Prop where
  ge : GExt g g'
  new : ∀ i x, g' i = some x → g i = some x ∨ (h.next ≤ i ∧ i < h'.next)
  keep : ∀ b, b < w.heap.size → (∀ i B x, h.m.get i = some B → g i = some x → x.b ≠ b) → w'.heap[b]? = w.heap[b]?
  img : ∀ i B x, h'.m.get i = some B → g' i = some x → (∃ j B' y, h.m.get j = some B' ∧ g j = some y ∧ y.b = x.b) ∨ w.heap.size ≤ x.b
  size : w.heap.size ≤ w'.heap.size
  next : h.next ≤ h'.next
  os : w'.os = w.os
  out : w'.output = w.output

theorem Ext.refl (g : Gh) (h : Hp) (w : World) : Ext g h w g h w where
  ge := GExt.refl g
  new := fun _ _ h => .inl h
  keep := fun _ _ _ => rfl
  img := fun i B x hi hx => .inl ⟨i, B, x, hi, hx, rfl⟩
  size := Nat.le_refl _
  next := Nat.le_refl _
  os := rfl
  out := rfl

theorem Ext.trans {g g1 g2 : Gh} {h h1 h2 : Hp} {w w1 w2 : World} (a : Ext g h w g1 h1 w1) (b : Ext g1 h1 w1 g2 h2 w2) : Ext g h w g2 h2 w2 where
  ge := a.ge.trans b.ge
  new := fun i x hx => by
    rcases b.new i x hx with h' | h'
    · rcases a.new i x h' with h'' | h''
      · exact .inl h''
      · exact .inr ⟨h''.1, Nat.lt_of_lt_of_le h''.2 b.next⟩
    · exact .inr ⟨Nat.le_trans a.next h'.1, h'.2⟩
  keep := fun k hk hn => by
    rw [b.keep k (Nat.lt_of_lt_of_le hk a.size) ?_, a.keep k hk hn]
    intro i B x hi hx
    rcases a.img i B x hi hx with ⟨j, B', y, hj, hy, e⟩ | h'
    · rw [← e]; exact hn j B' y hj hy
    · omega
  img := fun i B x hi hx => by
    rcases b.img i B x hi hx with ⟨j, B', y, hj, hy, e⟩ | h'
    · rcases a.img j B' y hj hy with ⟨j', B'', y', hj', hy', e'⟩ | h''
      · exact .inl ⟨j', B'', y', hj', hy', e'.trans e⟩
      · exact .inr (e ▸ h'')
    · exact .inr (Nat.le_trans a.size h')
  size := Nat.le_trans a.size b.size
  next := Nat.le_trans a.next b.next
  os := b.os.trans a.os
  out := b.out.trans a.out

/-- a draw, an output that nobody asks for: worlds with the same memory. -/
structure SameMem (w w' : World) : Prop where
  heap : w'.heap = w.heap
  os : w'.os = w.os
  out : w'.output = w.output

theorem BR.of_heap {g : Gh} {B : Blk} {x : GB} {w w' : World} (h : w'.heap = w.heap) (b : BR g B x w) : BR g B x w' where
  ex := by rw [h]; exact b.ex
  len := b.len
  sz := b.sz
  gr := b.gr
  le := b.le

theorem WR.of_same {g : Gh} {h : Hp} {w w' : World} (e : w'.heap = w.heap) (r : WR g h w) : WR g h w' where
  live := fun i B hi => let ⟨x, hx, hb⟩ := r.live i B hi; ⟨x, hx, hb.of_heap e⟩
  inj := r.inj
  fresh := r.fresh
  lim := r.lim
  base := r.base.keep (by rw [e]; exact Nat.le_refl _) (fun i _ => by rw [e])
  low := r.low

theorem BR.mono {g g' : Gh} (hg : GExt g g') {B : Blk} {x : GB} {w : World} (b : BR g B x w) : BR g' B x w where
  ex := by
    obtain ⟨c, el, fr, h1, h2, h3, h4⟩ := b.ex
    exact ⟨c, el, fr, h1, h2, h3, fun k v hk => let ⟨v', a, r⟩ := h4 k v hk; ⟨v', a, r.mono hg⟩⟩
  len := b.len
  sz := b.sz
  gr := b.gr
  le := b.le

/-- live blocks lie in the heap. -/
theorem BR.lt {g : Gh} {B : Blk} {x : GB} {w : World} (b : BR g B x w) : x.b < w.heap.size := by
  obtain ⟨c, el, fr, h1, _⟩ := b.ex
  rcases Nat.lt_or_ge x.b w.heap.size with h | h
  · exact h
  · rw [Array.getElem?_eq_none h] at h1; cases h1

/-! ### cells -/

theorem cut_spec : ∀ (l : List Value) (off n : Nat) (r : List Value), cut l off n = some r → r = (l.drop off).take n ∧ r.length = n ∧ (0 < n → off + n ≤ l.length)
  | _, 0, 0, r, h => by simp [cut] at h; subst h; simp
  | [], 0, n + 1, r, h => by simp [cut] at h
  | [], o + 1, 0, r, h => by simp [cut] at h
  | [], o + 1, n + 1, r, h => by simp [cut] at h
  | x :: l, 0, n + 1, r, h => by
    simp only [cut, Option.map_eq_some_iff] at h
    obtain ⟨r', h', rfl⟩ := h
    have := cut_spec l 0 n r' h'
    simp at this ⊢
    refine ⟨this.1, this.2.1, ?_⟩
    by_cases hn : 0 < n
    · have := this.2.2 hn; omega
    · omega
  | x :: l, o + 1, n, r, h => by
    have h' : cut l o n = some r := by cases n <;> simpa [cut] using h
    have := cut_spec l o n r h'
    simp at this ⊢
    exact ⟨this.1, this.2.1, fun hn => by have := this.2.2 hn; omega⟩

theorem cell_of_heap {w : World} {b off : Nat} {c : Array Value} {el : TypeId} {fr : Nat × Nat} (h : w.heap[b]? = some (.cells c el fr)) :
    w.cell? ⟨b, off, none⟩ = c[off]? := by simp [World.cell?, h]

theorem frozen_of_heap {w : World} {b off : Nat} {c : Array Value} {el : TypeId} {fr : Nat × Nat} (h : w.heap[b]? = some (.cells c el fr))
    (hf : ¬ (fr.1 ≤ off ∧ off < fr.2)) : w.frozen? ⟨b, off, none⟩ = false := by
  obtain ⟨lo, hi⟩ := fr
  simp only [World.frozen?, h]
  simp at hf ⊢
  exact hf

theorem add_off (b off j : Nat) : (⟨b, off, none⟩ : Addr).add j = ⟨b, off + j, none⟩ := by
  unfold Addr.add
  split
  · rename_i h; subst h; rfl
  · rfl

/-- related cells can be loaded, in whatever world with this memory. -/
theorem run_loadCells_all {P : Program} {g : Gh} {B : Blk} {x : GB} {w : World} (b : BR g B x w) {off n : Nat} {l : List Value} (h : cut B.cells off n = some l) :
    ∃ l' : List Value, (∀ w1 : World, w1.heap = w.heap → (loadCells ⟨x.b, off, none⟩ n).run P w1 = .ok l'.toArray w1) ∧ VRL g l l' := by
  obtain ⟨c, el, fr, h1, h2, h3, h4⟩ := b.ex
  obtain ⟨hl, hn, hle⟩ := cut_spec _ _ _ _ h
  have hget : ∀ j, j < n → ∃ v v', B.cells[off + j]? = some v ∧ c[off + j]? = some v' ∧ VR g v v' := by
    intro j hj
    have hlt : off + j < B.cells.length := by have := hle (by omega); omega
    obtain ⟨v', hv', r⟩ := h4 (off + j) B.cells[off + j] (by simp [hlt])
    exact ⟨_, v', by simp [hlt], hv', r⟩
  let f : Nat → Value := fun j => (c[off + j]?).getD undef
  refine ⟨(List.range n).map f, ?_, ?_⟩
  · intro w1 hw1
    have h1' : w1.heap[x.b]? = some (.cells c el fr) := by rw [hw1]; exact h1
    rw [run_loadCells w1 ⟨x.b, off, none⟩ n f]
    · intro j hj
      rw [add_off, cell_of_heap h1']
      obtain ⟨v, v', _, e, _⟩ := hget j hj
      simp [f, e]
  · subst hl
    refine VRL.of_get (by simp; simp at hn; omega) ?_
    intro k v v' hk hk'
    have hkn : k < n := by
      rcases Nat.lt_or_ge k n with h' | h'
      · exact h'
      · rw [List.getElem?_eq_none (by simpa using h')] at hk'; cases hk'
    obtain ⟨u, u', e1, e2, r⟩ := hget k hkn
    rw [List.getElem?_take_of_lt hkn, List.getElem?_drop] at hk
    simp [hkn, f, e2] at hk'
    rw [e1] at hk
    cases hk; subst hk'; exact r

theorem run_loadCells_rel {P : Program} {g : Gh} {B : Blk} {x : GB} {w : World} (b : BR g B x w) {off n : Nat} {l : List Value} (h : cut B.cells off n = some l) :
    ∃ l' : List Value, (loadCells ⟨x.b, off, none⟩ n).run P w = .ok l'.toArray w ∧ VRL g l l' :=
  let ⟨l', h1, h2⟩ := run_loadCells_all (P := P) b h
  ⟨l', h1 w rfl, h2⟩

theorem run_load_rel {P : Program} {g : Gh} {B : Blk} {x : GB} {w : World} (b : BR g B x w) {off : Nat} {v : Value} (h : B.cells[off]? = some v) :
    ∃ v', (load ⟨x.b, off, none⟩).run P w = .ok v' w ∧ VR g v v' := by
  obtain ⟨c, el, fr, h1, h2, h3, h4⟩ := b.ex
  obtain ⟨v', hv', r⟩ := h4 off v h
  refine ⟨v', ?_, r⟩
  rw [run_load, cell_of_heap h1, hv']

end Ev
namespace Ev
open Go

theorem isCell_one {v : Value} (h : isCell v = true) : v.oneCell' = true := by cases v <;> first | rfl | (simp [isCell] at h)

theorem VR.isCell_iff {g : Gh} {v v' : Value} (r : VR g v v') : isCell v' = isCell v := by cases r <;> rfl

structure Wrote (w w' : World) (b off : Nat) (vs : List Value) (c c' : Array Value) (el : TypeId) (fr : Nat × Nat) : Prop where
  blk : w'.heap[b]? = some (.cells c' el fr)
  csz : c'.size = c.size
  get : ∀ k, c'[k]? = if off ≤ k ∧ k < off + vs.length then vs[k - off]? else c[k]?
  other : ∀ k, k ≠ b → w'.heap[k]? = w.heap[k]?
  size : w'.heap.size = w.heap.size
  os : w'.os = w.os
  out : w'.output = w.output

theorem heap_setCell {w : World} {b off : Nat} {c : Array Value} {el : TypeId} {fr : Nat × Nat} (v : Value) (h : w.heap[b]? = some (.cells c el fr)) :
    (w.setCell ⟨b, off, none⟩ v).heap[b]? = some (.cells (c.setIfInBounds off v) el fr) := by
  obtain ⟨lo, hi⟩ := fr
  simp [World.setCell, Array.getElem?_modify, h]

theorem heap_setCell_ne {w : World} {b off : Nat} (v : Value) (k : Nat) (hk : k ≠ b) :
    (w.setCell ⟨b, off, none⟩ v).heap[k]? = w.heap[k]? := by
  simp [World.setCell, Array.getElem?_modify, Ne.symm hk]

theorem run_storeCells_block {P : Program} {b off : Nat} {el : TypeId} {fr : Nat × Nat} : ∀ (vs : List Value) (i : Nat) (w : World) (c : Array Value),
    w.heap[b]? = some (.cells c el fr) → (vs ≠ [] → off + i + vs.length ≤ c.size) → (∀ k, k < c.size → ¬ (fr.1 ≤ k ∧ k < fr.2)) → (∀ v ∈ vs, v.oneCell' = true) →
    ∃ w' c', (storeCells ⟨b, off, none⟩ vs i).run P w = .ok () w' ∧ Wrote w w' b (off + i) vs c c' el fr
  | [], i, w, c, h, _, _, _ => ⟨w, c, by simp [storeCells], ⟨h, rfl, fun k => by rw [if_neg (by simp only [List.length_nil]; omega)], fun _ _ => rfl, rfl, rfl, rfl⟩⟩
  | v :: vs, i, w, c, h, hle, hfr, hone => by
    have hle := hle (by simp)
    simp at hle
    have hlt : off + i < c.size := by omega
    have hc : w.cell? ⟨b, off + i, none⟩ = some c[off + i] := by rw [cell_of_heap h]; simp [hlt]
    have hf := frozen_of_heap h (hfr _ hlt)
    obtain ⟨w', c', hrun, hw⟩ := run_storeCells_block (P := P) (off := off) vs (i + 1) (w.setCell ⟨b, off + i, none⟩ v) (c.setIfInBounds (off + i) v) (heap_setCell v h)
      (by intro _; simp; omega) (by simpa using hfr) (fun u hu => hone u (by simp [hu]))
    refine ⟨w', c', ?_, ?_⟩
    · simp only [storeCells, Sem.run_bind, add_off, run_store P w _ v .plain (hone v (by simp)), hc, hf]
      simpa using hrun
    · refine ⟨hw.blk, by rw [hw.csz]; simp, ?_, ?_, ?_, ?_, ?_⟩
      · intro k
        rw [hw.get]
        by_cases h1 : off + (i + 1) ≤ k ∧ k < off + (i + 1) + vs.length
        · rw [if_pos h1, if_pos (by simp; omega)]
          rw [show k - (off + i) = (k - (off + (i + 1))) + 1 by omega]
          simp
        · rw [if_neg h1]
          by_cases h2 : k = off + i
          · subst h2
            rw [if_pos (by simp)]
            simp [hlt]
          · rw [if_neg (by simp; omega)]
            simp [Array.getElem?_setIfInBounds_ne (Ne.symm h2)]
      · intro k hk
        rw [hw.other k hk, heap_setCell_ne v k hk]
      · rw [hw.size]; simp
      · rw [hw.os]; rfl
      · rw [hw.out]; rfl

theorem paste_spec : ∀ (l : List Value) (off : Nat) (vs r : List Value), paste l off vs = some r →
    r.length = l.length ∧ (vs ≠ [] → off + vs.length ≤ l.length) ∧ (∀ v ∈ vs, isCell v = true) ∧
    ∀ k, r[k]? = if off ≤ k ∧ k < off + vs.length then vs[k - off]? else l[k]?
  | l, off, [], r, h => by
    simp [paste] at h; subst h
    exact ⟨rfl, by simp, by simp, fun k => by rw [if_neg (by simp only [List.length_nil]; omega)]⟩
  | [], off, v :: vs, r, h => by simp [paste] at h
  | x :: l, 0, v :: vs, r, h => by
    simp only [paste] at h
    cases hv : isCell v with
    | false => rw [hv] at h; simp at h
    | true =>
      rw [hv] at h
      simp only [cond_true, Option.map_eq_some_iff] at h
      obtain ⟨r', h', rfl⟩ := h
      obtain ⟨e1, e2, e3, e4⟩ := paste_spec l 0 vs r' h'
      refine ⟨by simp [e1], ?_, ?_, ?_⟩
      · intro _
        by_cases hvs : vs = []
        · subst hvs; simp
        · have := e2 hvs; simp at this ⊢; omega
      · intro u hu; rcases List.mem_cons.1 hu with rfl | hu
        · exact hv
        · exact e3 u hu
      · intro k
        cases k with
        | zero => simp
        | succ k =>
          have := e4 k
          simp at this ⊢
          exact this
  | x :: l, off + 1, v :: vs, r, h => by
    simp only [paste, Option.map_eq_some_iff] at h
    obtain ⟨r', h', rfl⟩ := h
    obtain ⟨e1, e2, e3, e4⟩ := paste_spec l off (v :: vs) r' h'
    refine ⟨by simp [e1], ?_, e3, ?_⟩
    · intro hvs; have := e2 hvs; simp at this ⊢; omega
    · intro k
      cases k with
      | zero => simp
      | succ k =>
        have := e4 k
        simp only [List.getElem?_cons_succ]
        rw [this]
        by_cases hk : off ≤ k ∧ k < off + (v :: vs).length
        · rw [if_pos hk, if_pos (by omega), show k + 1 - (off + 1) = k - off by omega]
        · rw [if_neg hk, if_neg (by omega)]

theorem getH_set {h : Hp} {i : Nat} (x : Option Blk) (hi : i < limH) (j : Nat) :
    (Tr.set x depthH h.m i).get j = if j = i then x else h.m.get j := by
  refine Tr.get_set x depthH h.m i j ?_
  have : (2 : Nat) ^ depthH = 17592186044416 := by decide
  have h2 : limH = 1099511627776 := by decide
  omega

/-- the abstract heap with block i anew, the concrete one with its block anew. -/
theorem WR.wrote {g : Gh} {h : Hp} {w w' : World} {i off : Nat} {B : Blk} {x : GB} {c c' : Array Value} {el : TypeId} {fr : Nat × Nat} {vs vs' l : List Value}
    (r : WR g h w) (hi : h.m.get i = some B) (hx : g i = some x) (hc : w.heap[x.b]? = some (.cells c el fr))
    (hp : paste B.cells off vs = some l) (hv : VRL g vs vs') (hw : Wrote w w' x.b off vs' c c' el fr) :
    WR g ⟨Tr.set (some { B with cells := l }) depthH h.m i, h.next⟩ w' ∧ Ext g h w g ⟨Tr.set (some { B with cells := l }) depthH h.m i, h.next⟩ w' := by
  have hil : i < limH := by
    rcases Nat.lt_or_ge i h.next with h' | h'
    · exact Nat.lt_of_lt_of_le h' r.lim
    · rw [r.fresh i h'] at hi; cases hi
  obtain ⟨e1, e2, e3, e4⟩ := paste_spec _ _ _ _ hp
  have hlen := hv.length
  obtain ⟨x0, hx0, bx⟩ := r.live i B hi
  rw [hx] at hx0; cases hx0
  obtain ⟨c0, el0, fr0, f1, f2, f3, f4⟩ := bx.ex
  rw [hc] at f1; cases f1
  have getS : ∀ j B', (Tr.set (some { B with cells := l }) depthH h.m i).get j = some B' → (j = i ∧ B' = { B with cells := l }) ∨ (j ≠ i ∧ h.m.get j = some B') := by
    intro j B' hj
    rw [getH_set _ hil] at hj
    by_cases e : j = i
    · rw [if_pos e] at hj; cases hj; exact .inl ⟨e, rfl⟩
    · rw [if_neg e] at hj; exact .inr ⟨e, hj⟩
  refine ⟨⟨?_, ?_, ?_, r.lim, r.base.keep (by rw [hw.size]; exact Nat.le_refl _) (fun k hk => hw.other k (by have := r.low i B x hi hx; omega)), ?_⟩, ⟨GExt.refl g, fun _ _ h => .inl h, ?_, ?_, by rw [hw.size]; exact Nat.le_refl _, Nat.le_refl _, hw.os, hw.out⟩⟩
  · intro j B' hj
    rcases getS j B' hj with ⟨rfl, rfl⟩ | ⟨hne, hj'⟩
    · refine ⟨x, hx, ⟨⟨c', el, fr, hw.blk, by rw [hw.csz, f2], f3, ?_⟩, by simp [e1, bx.len], bx.sz, bx.gr, bx.le⟩⟩
      intro k v hk
      simp only at hk
      rw [e4] at hk
      rw [hw.get]
      by_cases hin : off ≤ k ∧ k < off + vs.length
      · rw [if_pos hin] at hk
        rw [if_pos (by omega)]
        exact hv.get hk
      · rw [if_neg hin] at hk
        rw [if_neg (by omega)]
        exact f4 k v hk
    · obtain ⟨y, hy, by'⟩ := r.live j B' hj'
      refine ⟨y, hy, ⟨?_, by'.len, by'.sz, by'.gr, by'.le⟩⟩
      have hne' : y.b ≠ x.b := fun e => hne (r.inj j i B' B y x hj' hi hy hx e)
      rw [hw.other y.b hne']
      exact by'.ex
  · intro j k B' B'' y z hj hk hy hz e
    rcases getS j B' hj with ⟨rfl, rfl⟩ | ⟨hne, hj'⟩ <;> rcases getS k B'' hk with ⟨rfl, rfl⟩ | ⟨hne', hk'⟩
    · rfl
    · exact r.inj _ _ _ _ _ _ hi hk' hy hz e
    · exact r.inj _ _ _ _ _ _ hj' hi hy hz e
    · exact r.inj _ _ _ _ _ _ hj' hk' hy hz e
  · intro j hj
    simp only at hj ⊢
    rw [getH_set _ hil, if_neg (by rintro rfl; rw [r.fresh _ hj] at hi; cases hi)]
    exact r.fresh j hj
  · intro j B' y hj hy
    rcases getS j B' hj with ⟨rfl, rfl⟩ | ⟨hne, hj'⟩
    · exact r.low _ B y hi hy
    · exact r.low j B' y hj' hy
  · intro b hb hn
    exact hw.other b (fun e => hn i B x hi hx e.symm)
  · intro j B' y hj hy
    rcases getS j B' hj with ⟨rfl, rfl⟩ | ⟨hne, hj'⟩
    · exact .inl ⟨_, B, x, hi, hx, by rw [hx] at hy; cases hy; rfl⟩
    · exact .inl ⟨j, B', y, hj', hy, rfl⟩

/-- a new block. -/
theorem WR.alloc {g : Gh} {h h' : Hp} {w w' : World} {i : Nat} {l : List Value} {sz csz : Nat} {gr : Bool} {c : Array Value} {el : TypeId} {fr : Nat × Nat}
    (r : WR g h w) (hn : newB h ⟨l, sz, gr⟩ = some (i, h')) (hg : g i = none)
    (hw : w'.heap = w.heap.push (.cells c el fr)) (hfr : ∀ k, k < csz → ¬ (fr.1 ≤ k ∧ k < fr.2)) (hos : w'.os = w.os) (hout : w'.output = w.output) (hcs : c.size = csz) (hle : l.length ≤ csz)
    (hv : ∀ (k : Nat) v, l[k]? = some v → ∃ v', c[k]? = some v' ∧ VR g v v') :
    ∃ g', WR g' h' w' ∧ Ext g h w g' h' w' ∧ g' i = some ⟨w.heap.size, csz, l.length, sz, gr⟩ ∧ (∀ j, j ≠ i → g' j = g j) := by
  unfold newB at hn
  cases hb : Nat.blt h.next limH with
  | false => rw [hb] at hn; simp at hn
  | true =>
  rw [hb] at hn
  simp only [cond_true, Option.some.injEq, Prod.mk.injEq] at hn
  obtain ⟨rfl, rfl⟩ := hn
  have hlim : h.next < limH := by simpa [Nat.blt_eq] using hb
  let X : GB := ⟨w.heap.size, csz, l.length, sz, gr⟩
  let g' : Gh := fun j => if j = h.next then some X else g j
  have hge : GExt g g' := fun j y hj => by
    have : j ≠ h.next := by rintro rfl; rw [hg] at hj; cases hj
    simp [g', this, hj]
  have getS : ∀ j B', (Tr.set (some ⟨l, sz, gr⟩) depthH h.m h.next).get j = some B' → (j = h.next ∧ B' = ⟨l, sz, gr⟩) ∨ (j ≠ h.next ∧ h.m.get j = some B') := by
    intro j B' hj
    rw [getH_set _ hlim] at hj
    by_cases e : j = h.next
    · rw [if_pos e] at hj; cases hj; exact .inl ⟨e, rfl⟩
    · rw [if_neg e] at hj; exact .inr ⟨e, hj⟩
  have hold : ∀ k, k < w.heap.size → w'.heap[k]? = w.heap[k]? := fun k hk => by
    rw [hw, Array.getElem?_push, if_neg (by omega)]
  have hnew : w'.heap[w.heap.size]? = some (.cells c el fr) := by rw [hw]; simp
  refine ⟨g', ⟨?_, ?_, ?_, ?_, r.base.keep (by rw [hw]; simp) (fun k hk => hold k (Nat.lt_of_lt_of_le hk r.base.size)), ?_⟩, ⟨hge, ?_, ?_, ?_, ?_, ?_, hos, hout⟩, by simp [g', X], fun j hj => by simp [g', hj]⟩
  · intro j B' hj
    rcases getS j B' hj with ⟨rfl, rfl⟩ | ⟨hne, hj'⟩
    · refine ⟨X, by simp [g'], ⟨⟨c, el, fr, hnew, hcs, hfr, ?_⟩, rfl, rfl, rfl, hle⟩⟩
      intro k v hk
      obtain ⟨v', e, rr⟩ := hv k v hk
      exact ⟨v', e, rr.mono hge⟩
    · obtain ⟨y, hy, by'⟩ := r.live j B' hj'
      refine ⟨y, hge _ _ hy, ⟨?_, by'.len, by'.sz, by'.gr, by'.le⟩⟩
      rw [hold y.b by'.lt]
      exact (by'.mono hge).ex
  · intro j k B' B'' y z hj hk hy hz e
    have old : ∀ j B' y, h.m.get j = some B' → g j = some y → y.b < w.heap.size := fun j B' y hj hy => by
      obtain ⟨y0, hy0, by'⟩ := r.live j B' hj
      rw [hy] at hy0; cases hy0; exact by'.lt
    rcases getS j B' hj with ⟨rfl, rfl⟩ | ⟨hne, hj'⟩ <;> rcases getS k B'' hk with ⟨rfl, rfl⟩ | ⟨hne', hk'⟩
    · rfl
    · simp [g'] at hy; subst hy
      have hz' : g k = some z := by simpa [g', hne'] using hz
      have := old k B'' z hk' hz'
      simp [X] at e; omega
    · simp [g'] at hz; subst hz
      have hy' : g j = some y := by simpa [g', hne] using hy
      have := old j B' y hj' hy'
      simp [X] at e; omega
    · exact r.inj _ _ _ _ _ _ hj' hk' (by simpa [g', hne] using hy) (by simpa [g', hne'] using hz) e
  · intro j hj
    simp only at hj ⊢
    rw [getH_set _ hlim, if_neg (by omega)]
    exact r.fresh j (by omega)
  · exact hlim
  · intro j B' y hj hy
    rcases getS j B' hj with ⟨rfl, rfl⟩ | ⟨hne, hj'⟩
    · simp [g'] at hy; subst hy
      exact r.base.size
    · exact r.low j B' y hj' (by simpa [g', hne] using hy)
  · intro j y hy
    by_cases e : j = h.next
    · subst e; exact .inr ⟨Nat.le_refl _, Nat.lt_succ_self _⟩
    · exact .inl (by simpa [g', e] using hy)
  · intro b hb' _
    exact hold b hb'
  · intro j B' y hj hy
    rcases getS j B' hj with ⟨rfl, rfl⟩ | ⟨hne, hj'⟩
    · simp [g'] at hy; subst hy; exact .inr (Nat.le_refl _)
    · exact .inl ⟨j, B', y, hj', by simpa [g', hne] using hy, rfl⟩
  · rw [hw]; simp
  · exact Nat.le_succ _

end Ev
namespace Ev
open Go

/-- the same operations in another order, with the same order drawn among them. -/
structure PermOk (ops' ops : Array Oper) : Prop where
  ex : ∃ p : Nat → Nat, ops'.size = ops.size ∧ (∀ i, i < ops.size → p i < ops.size) ∧ (∀ k, k < ops.size → ∃ i, i < ops.size ∧ p i = k) ∧ (∀ i j, i < ops.size → j < ops.size → p i = p j → i = j) ∧
    ∀ (i : Nat) (o : Oper), ops[i]? = some o → ∃ o', ops'[p i]? = some o' ∧ o'.op = o.op ∧ o'.dst = o.dst ∧ o'.type = o.type ∧ o'.pos = o.pos ∧
      (∀ e ∈ o.after, Region.binds .any e = true → e.on < ops.size ∧ ∃ e' ∈ o'.after, Region.binds .any e' = true ∧ e'.on = p e.on) ∧
      (∀ e' ∈ o'.after, Region.binds .any e' = true → ∃ e ∈ o.after, Region.binds .any e = true ∧ e.on < ops.size ∧ e'.on = p e.on) ∧
      ((o.guard = none ∧ o'.guard = none) ∨ ∃ j b, j < ops.size ∧ o.guard = some (j, b) ∧ o'.guard = some (p j, b))

/-- code that may be run in the other's place. -/
inductive CLike : Code → Code → Prop where
  | refl (c : Code) : CLike c c
  | seq {x y x' y' : Code} (h : CLike x' x) (k : CLike y' y) : CLike (.seq x' y') (.seq x y)
  | cond {x y x' y' : Code} (t : Operand) (h : CLike x' x) (k : CLike y' y) : CLike (.cond t x' y') (.cond t x y)
  | block {x x' : Code} (id : Nat) (h : CLike x' x) : CLike (.block id x') (.block id x)
  | loop {x x' : Code} (h : CLike x' x) : CLike (.loop x') (.loop x)
  | region (id : Nat) (ops' ops : Array Oper) (h : PermOk ops' ops) : CLike (.region id ops' true) (.region id ops true)

structure FnLike (fn' fn : Func) : Prop where
  name : fn'.name = fn.name
  ntmps : fn'.ntmps = fn.ntmps
  results : fn'.results = fn.results
  none : fn'.body = none → fn.body = none
  some : ∀ c', fn'.body = some c' → ∃ c, fn.body = some c ∧ CLike c' c

theorem FnLike.refl (fn : Func) : FnLike fn fn := ⟨rfl, rfl, rfl, fun h => h, fun c h => ⟨c, h, .refl c⟩⟩

structure CtxOk (C : Ctx) (P : Program) : Prop where
  ty : ∀ t i, C.ty.get t = some i → P.info? t = some i
  fn : ∀ f fn, C.fn.get f = some fn → ∃ fn0, P.funcs[f]? = some fn0 ∧ FnLike fn fn0
  name : ∀ f fn, C.fn.get f = some fn → (fn.name == "runtime.NumGoroutine") = false
  eqg : ∀ t, t ∈ C.eqs → P.eqGuardType P.depth t = false
  eqs : ∀ t, t ∈ C.eqs → P.stoodInHeld t = false
  zc : ∀ t z, zeroT C t = some z → z.cells.toList.all closedV = true
  zs : ∀ t z n, zeroT C t = some z → sizeT C t = some n → z.cells.size = n
  mixed : P.follows .mixedOrders = true

section
variable {C : Ctx} {P : Program}

theorem und_ok (hC : CtxOk C P) {t : TypeId} {d : TypeDesc} (h : und C t = some d) : P.underlying t = some d := by
  unfold und at h
  cases hi : C.ty.get t with
  | none => rw [hi] at h; cases h
  | some i =>
    rw [hi] at h
    have := hC.ty t i hi
    unfold Program.underlying
    rw [this]
    obtain ⟨desc, str, size, bytes, hp, al, fa, zero, comp, ms⟩ := i
    cases desc <;> first
      | (simpa using h; done)
      | (simp only [Option.map_eq_some_iff] at h
         obtain ⟨j, hj, rfl⟩ := h
         have hu := hC.ty _ j hj
         simp only [hu, Option.map_some])

theorem size_ok (hC : CtxOk C P) {t n : Nat} (h : sizeT C t = some n) : ∃ i, P.info? t = some i ∧ i.size = n := by
  unfold sizeT at h
  simp only [Option.map_eq_some_iff] at h
  obtain ⟨i, hi, rfl⟩ := h
  exact ⟨i, hC.ty t i hi, rfl⟩

theorem bytes_ok (hC : CtxOk C P) {t n : Nat} (h : bytesT C t = some n) : ∃ i, P.info? t = some i ∧ i.bytes = n := by
  unfold bytesT at h
  simp only [Option.map_eq_some_iff] at h
  obtain ⟨i, hi, rfl⟩ := h
  exact ⟨i, hC.ty t i hi, rfl⟩

theorem zero_ok (hC : CtxOk C P) {t : Nat} {z : Value} (h : zeroT C t = some z) : ∃ i, P.info? t = some i ∧ i.zero = some z := by
  unfold zeroT at h
  simp only [Option.bind_eq_some_iff] at h
  obtain ⟨i, hi, hz⟩ := h
  refine ⟨i, hC.ty t i hi, ?_⟩
  unfold noTuple at hz
  split at hz
  · cases hz
  · exact hz

theorem run_underlying (hC : CtxOk C P) {t : TypeId} {d : TypeDesc} (h : und C t = some d) (w : World) : (underlying t).run P w = .ok d w := by
  simp [underlying, und_ok hC h]

theorem run_sizeOf (hC : CtxOk C P) {t n : Nat} (h : sizeT C t = some n) (w : World) : (Go.sizeOf t).run P w = .ok n w := by
  obtain ⟨i, hi, rfl⟩ := size_ok hC h
  simp [Go.sizeOf, typeInfo, hi]

theorem run_typeInfo_bytes (hC : CtxOk C P) {t n : Nat} (h : bytesT C t = some n) (w : World) : ∃ i, (typeInfo t).run P w = .ok i w ∧ i.bytes = n := by
  obtain ⟨i, hi, rfl⟩ := bytes_ok hC h
  exact ⟨i, by simp [typeInfo, hi], rfl⟩

theorem run_zeroValue (hC : CtxOk C P) {t : Nat} {z : Value} (h : zeroT C t = some z) (w : World) : (zeroValue t).run P w = .ok z w := by
  obtain ⟨i, hi, hz⟩ := zero_ok hC h
  simp [zeroValue, typeInfo, hi, hz]

theorem run_isAgg (hC : CtxOk C P) {t : TypeId} {d : TypeDesc} (h : und C t = some d) (w : World) : (isAgg t).run P w = .ok (isAggD d) w := by
  simp only [isAgg, Sem.run_bind, run_underlying hC h, Result.andThen_ok]
  cases d <;> rfl

end

/-! ### the frame -/

def TR (g : Gh) (t : Tr Value) (tm : Array Value) : Prop := ∀ x, VR g (getT t x) (tm.getD x undef)

theorem TR.mono {g g' : Gh} (hg : GExt g g') {t : Tr Value} {tm : Array Value} (h : TR g t tm) : TR g' t tm := fun x => (h x).mono hg

theorem VR.undef (g : Gh) : VR g Go.undef Go.undef := .tuple _ _ .nil

theorem opd_rel {g : Gh} {t : Tr Value} {a : Act} (h : TR g t a.tmps) {x : Operand} {v : Value} (hv : opd t x = some v) : VR g v (a.eval x) := by
  cases x with
  | tmp n => simp [opd] at hv; subst hv; exact h n
  | const c =>
    simp only [opd] at hv
    cases hc : closedV c with
    | false => rw [hc] at hv; cases hv
    | true => rw [hc] at hv; cases hv; exact VR.of_closed hc
  | global n => simp [opd] at hv
  | func f => simp [opd] at hv; subst hv; exact .func _ _ _ _ _ .nil .nil

theorem opds_rel {g : Gh} {t : Tr Value} {a : Act} (h : TR g t a.tmps) : ∀ {l : List Operand} {vs : List Value}, opds t l = some vs → VRL g vs (l.map a.eval)
  | [], vs, hv => by simp [opds] at hv; subst hv; exact .nil
  | x :: l, vs, hv => by
    simp only [opds] at hv
    split at hv
    · rename_i v vs' h1 h2
      cases hv
      exact .cons (opd_rel h h1) (opds_rel h h2)
    · cases hv

inductive VRP (g : Gh) : List (Nat × Value) → List (Nat × Value) → Prop where
  | nil : VRP g [] []
  | cons {i : Nat} {v v' : Value} {l l' : List (Nat × Value)} (h : VR g v v') (t : VRP g l l') : VRP g ((i, v) :: l) ((i, v') :: l')

theorem parts_rel {g : Gh} {t : Tr Value} {a : Act} (h : TR g t a.tmps) : ∀ {l : List (Nat × Operand)} {vs : List (Nat × Value)}, parts t l = some vs →
    VRP g vs (l.map fun p => (p.1, a.eval p.2))
  | [], vs, hv => by simp [parts] at hv; subst hv; exact .nil
  | (i, x) :: l, vs, hv => by
    simp only [parts] at hv
    split at hv
    · rename_i v vs' h1 h2
      cases hv
      exact .cons (opd_rel h h1) (parts_rel h h2)
    · cases hv

theorem VR.cells {g : Gh} {v v' : Value} (r : VR g v v') : VRL g v.cells.toList v'.cells.toList := by
  cases r <;> first
    | (rename_i h; exact h; done)
    | skip
  all_goals (simp only [Value.cells])
  all_goals first
    | assumption
    | (refine .cons ?_ .nil; constructor <;> assumption)
    | (refine .cons ?_ .nil; constructor)

theorem VR.cells_size {g : Gh} {v v' : Value} (r : VR g v v') : v'.cells.size = v.cells.size := by
  have := r.cells.length
  simpa using this.symm

end Ev
