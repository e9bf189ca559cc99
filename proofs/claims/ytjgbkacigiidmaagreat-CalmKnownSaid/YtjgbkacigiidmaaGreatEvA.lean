import GoSem.Dispatch
import GoSem.Machine.Return
import GoSem.Claims
namespace Ev
noncomputable section
open Go

inductive Tr (α : Type) where
  | nil
  | node (v : Option α) (l r : Tr α)

def Tr.get {α : Type} (t : Tr α) : Nat → Option α :=
  Tr.rec (fun _ => none) (fun v _ _ gl gr n => cond (Nat.beq n 0) v (cond (Nat.beq (Nat.mod n 2) 1) (gl (Nat.div n 2)) (gr (Nat.sub (Nat.div n 2) 1)))) t

def Tr.set {α : Type} (x : Option α) (f : Nat) : Tr α → Nat → Tr α :=
  Nat.rec (fun t _ => t) (fun _ rec t n =>
    Tr.casesOn (motive := fun _ => Tr α) t
      (cond (Nat.beq n 0) (.node x .nil .nil) (cond (Nat.beq (Nat.mod n 2) 1) (.node none (rec .nil (Nat.div n 2)) .nil) (.node none .nil (rec .nil (Nat.sub (Nat.div n 2) 1)))))
      (fun v l r => cond (Nat.beq n 0) (.node x l r) (cond (Nat.beq (Nat.mod n 2) 1) (.node v (rec l (Nat.div n 2)) r) (.node v l (rec r (Nat.sub (Nat.div n 2) 1)))))) f

structure Blk where
  cells : List Value
  sz : Nat
  grown : Bool

structure Hp where
  m : Tr Blk
  next : Nat

inductive Ret where
  | ret (v : Value)
  | panic (v : Value)

structure Ctx where
  ty : Tr TypeInfo
  fn : Tr Func
  eqs : List TypeId
  run : FuncId
  ern : TypeId
  fbits : FuncId
  ffrom : FuncId
  ftrunc : FuncId
  /-- calls whose outcome is known: what it says is asked first. -/
  orc : FuncId → Array Value → Hp → Option (Ret × Hp)

inductive Out where
  | norm
  | exit (id : Nat)
  | ret
  | panic (v : Value)

structure St where
  t : Tr Value
  h : Hp

inductive AR where
  | val (v : Value)
  | skip
  | call (f : FuncId) (args : Array Value)
  | panic (v : Value)

def pureOf {α : Type} : Sem α → Option α
  | .pure a => some a
  | _ => none

def und (C : Ctx) (t : TypeId) : Option TypeDesc :=
  match C.ty.get t with
  | some i => match i.desc with
    | .named _ u => (C.ty.get u).map (·.desc)
    | d => some d
  | none => none

def sizeT (C : Ctx) (t : TypeId) : Option Nat := (C.ty.get t).map (·.size)
def bytesT (C : Ctx) (t : TypeId) : Option Nat := (C.ty.get t).map (·.bytes)
def noTuple : Option Value → Option Value
  | some (.tuple _) => none
  | v => v
def zeroT (C : Ctx) (t : TypeId) : Option Value := (C.ty.get t).bind fun i => noTuple i.zero

def isAggD : TypeDesc → Bool
  | .struct _ | .array _ _ => true
  | _ => false

def getT (t : Tr Value) (x : Nat) : Value := (t.get x).getD undef

/-- scalars that hold no address. -/
def closedV : Value → Bool
  | .bool _ | .int _ _ | .float _ _ | .string _ | .pointer none | .nilFunc | .nilIface | .slice none 0 0 | .map none => true
  | _ => false

def opd (t : Tr Value) : Operand → Option Value
  | .tmp x => some (getT t x)
  | .const v => bif closedV v then some v else none
  | .func f => some (.func (.func f) #[] #[])
  | .global _ => none

def depthT : Nat := 12
def depthH : Nat := 44
def limH : Nat := 2 ^ 40

def putT (t : Tr Value) (d : Option Nat) (v : Value) : Tr Value :=
  match d with
  | some d => t.set (some v) depthT d
  | none => t

/-- n cells from off on. -/
def cut : List Value → Nat → Nat → Option (List Value)
  | _, 0, 0 => some []
  | [], _, _ => none
  | x :: l, 0, n + 1 => (cut l 0 n).map (x :: ·)
  | _ :: l, o + 1, n => cut l o n

def isCell : Value → Bool
  | .agg _ | .tuple _ => false
  | _ => true

/-- the cells vs written at off. -/
def paste : List Value → Nat → List Value → Option (List Value)
  | l, _, [] => some l
  | [], _, _ :: _ => none
  | _ :: l, 0, v :: vs => bif isCell v then (paste l 0 vs).map (v :: ·) else none
  | x :: l, o + 1, vs => (paste l o vs).map (x :: ·)

def newB (h : Hp) (b : Blk) : Option (Nat × Hp) :=
  bif Nat.blt h.next limH then some (h.next, ⟨h.m.set (some b) depthH h.next, h.next + 1⟩) else none

def partV (C : Ctx) (t : TypeId) (cs : Array Value) (off : Nat) : Option Value :=
  match und C t with
  | some d => bif isAggD d then (sizeT C t).map fun n => .agg (cs.extract off (off + n)) else cs[off]?
  | none => none

def loadV (C : Ctx) (h : Hp) (t : TypeId) (p : Value) : Option Value :=
  match p with
  | .pointer (some ⟨b, off, none⟩) => match h.m.get b, und C t with
    | some B, some d => bif isAggD d then (match sizeT C t with
        | some n => (cut B.cells off n).map fun l => .agg l.toArray
        | none => none)
      else B.cells[off]?
    | _, _ => none
  | _ => none

def storeV (C : Ctx) (h : Hp) (t : TypeId) (p v : Value) : Option Hp :=
  match p with
  | .pointer (some ⟨b, off, none⟩) => match h.m.get b, sizeT C t with
    | some B, some n => bif Nat.beq v.cells.size n && Nat.blt 0 n then (match paste B.cells off v.cells.toList with
        | some l => some ⟨h.m.set (some { B with cells := l }) depthH b, h.next⟩
        | none => none) else none
    | _, _ => none
  | _ => none

def wrapF (k : IntKind) (n : Int) : Int :=
  match k, n with
  | .i64, .ofNat m => bif Nat.ble m 9223372036854775807 then n else k.wrap n
  | .i64, .negSucc m => bif Nat.ble m 9223372036854775807 then n else k.wrap n
  | .u8, .ofNat m => .ofNat (m % 256)
  | .u64, .ofNat m => bif Nat.ble m 18446744073709551615 then n else k.wrap n
  | _, _ => k.wrap n

def eqFields (eq : TypeId → Value → Value → Option Bool) (C : Ctx) (xs ys : Array Value) : List Field → Option Bool
  | [] => some true
  | f :: fs => bif f.name == "_" then none else match partV C f.type xs f.offset, partV C f.type ys f.offset with
    | some a, some b => match eq f.type a b with
      | some true => eqFields eq C xs ys fs
      | some false => some false
      | none => none
    | _, _ => none

def eqV (C : Ctx) : Nat → TypeId → Value → Value → Option Bool
  | 0, _, _, _ => none
  | d + 1, t, x, y =>
    match und C t, x, y with
    | some .bool, .bool a, .bool b => some (a == b)
    | some (.int _), .int k a, .int k' b => if k = k' then some (a == b) else none
    | some (.float _), .float k a, .float k' b => if k = k' then some (Op.floatEq k a b) else none
    | some .string, .string a, .string b => some (a == b)
    | some (.pointer _), .pointer none, .pointer b => some b.isNone
    | some (.pointer _), .pointer (some _), .pointer none => some false
    | some (.slice _), .slice none _ 0, .slice none _ 0 => some true
    | some (.slice _), .slice none _ 0, .slice (some _) _ _ => some false
    | some (.slice _), .slice (some _) _ _, .slice none _ 0 => some false
    | some (.func _ _ _), .nilFunc, .nilFunc => some true
    | some (.func _ _ _), .nilFunc, .func _ _ _ => some false
    | some (.func _ _ _), .func _ _ _, .nilFunc => some false
    | some (.struct fs), .agg xs, .agg ys => bif C.eqs.contains t then eqFields (eqV C d) C xs ys fs.toList else none
    | _, _, _ => none

/-- equality of two values that are no scalars, or whose operator is no operator of scalars. -/
def eqTop (C : Ctx) (t : TypeId) (x y : Value) : Option Bool :=
  match x, y with
  | .nilIface, .iface _ _ => match und C t with
    | some (.interface _) => some false
    | _ => none
  | .iface _ _, .nilIface => match und C t with
    | some (.interface _) => some false
    | _ => none
  | .agg xs, .agg ys => bif C.eqs.contains t then eqV C 20 t (.agg xs) (.agg ys) else none
  | .nilIface, _ => none
  | x, y => eqV C 20 t x y

def binV (C : Ctx) (op : BinOp) (t : TypeId) (x y : Value) : Option Value :=
  match x, y with
  | .int k a, .int k' b =>
    match op with
    | .shl => pureOf (Op.shift .shl k a k' b)
    | .shr => pureOf (Op.shift .shr k a k' b)
    | _ => if k = k' then (match op with
      | .add => some (.int k (wrapF k (a + b)))
      | .sub => some (.int k (wrapF k (a - b)))
      | .mul => some (.int k (wrapF k (a * b)))
      | .quo => pureOf (Op.intDiv .quo k a b)
      | .rem => pureOf (Op.intDiv .rem k a b)
      | .and => pureOf (Op.intBits .and k a b)
      | .or => pureOf (Op.intBits .or k a b)
      | .xor => pureOf (Op.intBits .xor k a b)
      | .andNot => pureOf (Op.intBits .andNot k a b)
      | op => pureOf (Op.intCmp op a b)) else none
  | .float k a, .float k' b => if k = k' then (match op with
      | .add | .sub | .mul | .quo => none
      | .eql | .neq | .lss | .leq | .gtr | .geq => pureOf (Op.floatCmp op k a b)
      | _ => none) else none
  | .string a, .string b => pureOf (Op.stringOp op a b)
  | x, y => match op with
    | .eql => (eqTop C t x y).map .bool
    | .neq => (eqTop C t x y).map fun b => .bool !b
    | _ => none

def bytesL : List Value → Option (List UInt8)
  | [] => some []
  | .int .u8 x :: l => (bytesL l).map (UInt8.ofNat x.toNat :: ·)
  | _ => none

def convV (C : Ctx) (src dst : TypeId) (x : Value) (h : Hp) : Option (Value × Hp) :=
  match und C src, und C dst, x with
  | some (.int _), some (.int k), .int _ n => some (.int k (wrapF k n), h)
  | some (.int _), some (.float k), .int _ n => (pureOf (Conv.intToFloat k n)).map (·, h)
  | some (.float _), some (.int k), .float s b => (pureOf (Conv.floatToInt s b k)).map (·, h)
  | some .string, some .string, .string s => some (.string s, h)
  | some .string, some (.slice e), .string s => match und C e with
    | some (.int .u8) => match newB h ⟨s.data.toList.map fun b => .int .u8 b.toNat, 1, true⟩ with
      | some (i, h') => some (.slice (some ⟨i, 0, none⟩) s.size s.size, h')
      | none => none
    | _ => none
  | some (.slice e), some .string, .slice none 0 _ => match und C e with
    | some (.int .u8) => some (.string .empty, h)
    | _ => none
  | some (.slice e), some .string, .slice (some ⟨b, off, none⟩) n _ => match und C e, h.m.get b with
    | some (.int .u8), some B => match cut B.cells off n with
      | some l => (bytesL l).map fun bs => (.string ⟨bs.toArray⟩, h)
      | none => none
    | _, _ => none
  | _, _, _ => none

def bound (v : Option Value) (d : Nat) : Option Nat :=
  match v with
  | none => some d
  | some (.int _ (.ofNat n)) => some n
  | _ => none

/-- the elements of a grown block are of this many cells. -/
def szOk (h : Hp) (i sz : Nat) : Bool :=
  match h.m.get i with
  | some B => !B.grown || Nat.beq B.sz sz
  | none => false

def sliceV (C : Ctx) (hp : Hp) (t : TypeId) (x : Value) (lo hi mx : Option Value) : Option Value :=
  match und C t, x with
  | some .string, .string s => match mx, bound lo 0, bound hi s.size with
    | none, some l, some h => bif Nat.ble l h && Nat.ble h s.size then some (.string (s.extract l h)) else none
    | _, _, _ => none
  | some (.slice e), .slice (some a) len cap => match bound lo 0, bound hi len, sizeT C e with
    | some l, some h, some sz => match mx with
      | some _ => match bound mx 0 with
        | some m => bif Nat.ble l h && Nat.ble h m && Nat.ble m cap && hi.isSome then
            some (.slice (some (bif Nat.beq m l then a else a.add (l * sz))) (h - l) (m - l))
          else none
        | none => none
      | none => bif Nat.ble l h && Nat.ble h cap && szOk hp a.block sz then
          (bif Nat.beq cap l && Nat.blt 0 l then some (.slice none 0 1) else some (.slice (some (a.add (l * sz))) (h - l) (cap - l)))
        else none
    | _, _, _ => none
  | some (.slice e), .slice none 0 c => match bound lo 0, bound hi 0, mx, sizeT C e with
    | some 0, some 0, none, some _ => some (.slice none 0 c)
    | _, _, _, _ => none
  | _, _ => none

def srcCells (h : Hp) (sz : Nat) (x : Value) : Option (List Value × Nat) :=
  match x with
  | .string s => bif Nat.beq sz 1 then some (s.data.toList.map fun b => .int .u8 b.toNat, s.size) else none
  | .slice none 0 _ => some ([], 0)
  | .slice (some ⟨b, off, none⟩) n _ => match h.m.get b with
    | some B => (cut B.cells off (n * sz)).map (·, n)
    | none => none
  | _ => none

def srcDesc : TypeDesc → Bool
  | .slice _ | .string => true
  | _ => false

def appendV (C : Ctx) (argTypes : Array TypeId) (args : Array Value) (h : Hp) : Option (Value × Hp) :=
  match argTypes.toList, args.toList with
  | [st, xt], [.slice base n cap, x] => match und C st, und C xt with
    | some (.slice e), some xd => match sizeT C e, bytesT C e, zeroT C e, srcCells h (sizeT C e |>.getD 0) x with
      | some sz, some by_, some _, some (src, m) =>
        let need := n + m
        bif !(srcDesc xd) || Nat.beq sz 0 || Nat.beq by_ 0 || !(Nat.ble (need * by_) 1099511627776 && Nat.ble by_ 1048576 && Nat.ble need 4294967296) || !src.all isCell then none else
        match base with
        | none => bif Nat.beq n 0 && Nat.beq cap 0 then
            (bif Nat.beq m 0 then some (.slice none 0 0, h) else
              match newB h ⟨src, sz, true⟩ with
              | some (i, h') => some (.slice (some ⟨i, 0, none⟩) m m, h')
              | none => none)
            else none
        | some ⟨b, off, none⟩ => match h.m.get b with
          | none => none
          | some B =>
            bif Nat.ble need cap then
              match paste B.cells (off + n * sz) src with
              | some l => some (.slice base need cap, ⟨h.m.set (some { B with cells := l }) depthH b, h.next⟩)
              | none => none
            else match cut B.cells off (n * sz) with
              | none => none
              | some old =>
                bif B.grown && !(Nat.beq B.sz sz) then none else
                match newB h ⟨old ++ src, sz, true⟩ with
                | none => none
                | some (i, h') =>
                  bif B.grown && Nat.beq (off + cap * sz) B.cells.length then
                    (bif Nat.beq off 0 then some (.slice (some ⟨i, 0, none⟩) need need, ⟨h'.m.set none depthH b, h'.next⟩) else none)
                  else some (.slice (some ⟨i, 0, none⟩) need need, h')
        | _ => none
      | _, _, _, _ => none
    | _, _ => none
  | _, _ => none

def copyV (C : Ctx) (argTypes : Array TypeId) (args : Array Value) (h : Hp) : Option (Value × Hp) :=
  match argTypes.toList, args.toList with
  | dt :: _, [.slice base n _, x] => match und C dt with
    | some (.slice e) => match sizeT C e, (match x with | .slice _ m _ => some m | .string s => some s.size | _ => none) with
      | some sz, some m =>
        let k := Nat.min m n
        match (match x with
          | .slice none 0 _ => some []
          | .slice (some ⟨b, off, none⟩) _ _ => (h.m.get b).bind fun B => cut B.cells off (k * sz)
          | _ => none), base with
        | some src, some ⟨b, off, none⟩ => match h.m.get b with
          | some B => match paste B.cells off src with
            | some l => some (.int .i64 k, ⟨h.m.set (some { B with cells := l }) depthH b, h.next⟩)
            | none => none
          | none => none
        | _, _ => none
      | _, _ => none
    | _ => none
  | _, _ => none

def lenV (C : Ctx) (argTypes : Array TypeId) (args : Array Value) : Option Value :=
  match argTypes.toList, args.toList with
  | [t], [x] => match und C t, x with
    | some .string, .string s => some (.int .i64 s.size)
    | some (.array n _), _ => some (.int .i64 n)
    | some (.slice _), .slice _ n _ => some (.int .i64 n)
    | _, _ => none
  | _, _ => none

def maxV (args : Array Value) : Option Value :=
  match args.toList with
  | [.int k x, .int _ y] => some (.int k (if y > x then y else x))
  | _ => none

def minV (args : Array Value) : Option Value :=
  match args.toList with
  | [.int k x, .int _ y] => some (.int k (if y < x then y else x))
  | _ => none

def builtinV (C : Ctx) (b : Builtin) (argTypes : Array TypeId) (args : Array Value) (h : Hp) : Option (Value × Hp) :=
  match b with
  | .len => (lenV C argTypes args).map (·, h)
  | .append => appendV C argTypes args h
  | .copy => copyV C argTypes args h
  | .max => (maxV args).map (·, h)
  | .min => (minV args).map (·, h)
  | _ => none

def opds (t : Tr Value) : List Operand → Option (List Value)
  | [] => some []
  | x :: l => match opd t x, opds t l with
    | some v, some vs => some (v :: vs)
    | _, _ => none

def parts (t : Tr Value) : List (Nat × Operand) → Option (List (Nat × Value))
  | [] => some []
  | (i, x) :: l => match opd t x, parts t l with
    | some v, some vs => some ((i, v) :: vs)
    | _, _ => none

def places (C : Ctx) : List Field → Option (List (Nat × Nat))
  | [] => some []
  | f :: l => match sizeT C f.type, places C l with
    | some n, some r => some ((f.offset, n) :: r)
    | _, _ => none

def buildV (C : Ctx) (t : TypeId) (ps : List (Nat × Value)) : Option Value :=
  match zeroT C t, und C t with
  | some z, some (.struct fields) => match places C fields.toList with
    | some pl => (Instr.fill (fun i => pl[i]?) z.cells ps).map .agg
    | none => none
  | some z, some (.array _ e) => match sizeT C e with
    | some sz => (Instr.fill (fun i => some (i * sz, sz)) z.cells ps).map .agg
    | none => none
  | _, _ => none

def rowOf (zero : Array Value) (n : Nat) : Array Value := (Array.range n).map (zero[· % zero.size]!)

def callV (f : Value) (args : List Value) : Option AR :=
  match f with
  | .func (.func f) first cap =>
    some (.call f (first ++ args.toArray ++ cap))
  | _ => none

def vres (h : Hp) : Option Value → Option (AR × Hp)
  | some v => some (.val v, h)
  | none => none

def pres : Option (Nat × Hp) → Option (AR × Hp)
  | some (i, h') => some (.val (.pointer (some ⟨i, 0, none⟩)), h')
  | none => none

def sres (n : Nat) : Option (Nat × Hp) → Option (AR × Hp)
  | some (i, h') => some (.val (.slice (some ⟨i, 0, none⟩) n n), h')
  | none => none

def vhres : Option (Value × Hp) → Option (AR × Hp)
  | some (v, h') => some (.val v, h')
  | none => none

def pickV : Option Value → Option Value → Option Value → Option Value
  | some (.bool c), some a, some b => some (bif c then a else b)
  | _, _, _ => none

def opAlloc (h : Hp) : Option Value → Option (AR × Hp)
  | some z => pres (newB h ⟨z.cells.toList, 0, false⟩)
  | none => none

def opBuild (C : Ctx) (h : Hp) (ty : TypeId) : Option (List (Nat × Value)) → Option (AR × Hp)
  | some vs => vres h (buildV C ty vs)
  | none => none

def bslice (h : Hp) (len sz : Nat) : Option (Array Value) → Option (AR × Hp)
  | some cs => sres len (newB h ⟨cs.toList, sz, false⟩)
  | none => none

def opBuildSlice2 (h : Hp) (len : Nat) (vs : List (Nat × Value)) : Option Nat → Option Value → Option (AR × Hp)
  | some sz, some z => bif Nat.beq sz 0 || Nat.blt 16777216 (Nat.mul len sz) || Nat.beq z.cells.size 0 then none else
      bslice h len sz (Instr.fill (fun i => some (i * sz, sz)) (rowOf (bif Nat.beq (Nat.mul len sz) 0 then #[] else z.cells) (Nat.mul len sz)) vs)
  | _, _ => none

def opBuildSlice (C : Ctx) (h : Hp) (len : Nat) : Option TypeDesc → Option (List (Nat × Value)) → Option (AR × Hp)
  | some (.slice e), some vs => opBuildSlice2 h len vs (sizeT C e) (zeroT C e)
  | _, _ => none

def opLoad (C : Ctx) (h : Hp) (ty : TypeId) : Option Value → Option (AR × Hp)
  | some p => vres h (loadV C h ty p)
  | none => none

def skres : Option Hp → Option (AR × Hp)
  | some h' => some (.skip, h')
  | none => none

def opStore (C : Ctx) (h : Hp) (ty : TypeId) : Option Value → Option Value → Option (AR × Hp)
  | some p, some v => skres (storeV C h ty p v)
  | _, _ => none

def nilV : Option Value → Option Value
  | some (.pointer (some a)) => some (.pointer (some a))
  | some (.func (.func f) a b) => some (.func (.func f) a b)
  | _ => none

def opBin (C : Ctx) (op : BinOp) (ty : TypeId) : Option Value → Option Value → Option Value
  | some a, some b => binV C op ty a b
  | _, _ => none

def unV (op : UnOp) : Option Value → Option Value
  | some (.bool b) => match op with
    | .not => some (.bool !b)
    | _ => none
  | some (.int k n) => match op with
    | .neg => some (.int k (wrapF k (0 - n)))
    | _ => none
  | some (.float k b) => match op with
    | .neg => some (.float k (Op.negFloat k b))
    | _ => none
  | _ => none

def opConv (C : Ctx) (src dst : TypeId) (h : Hp) : Option Value → Option (AR × Hp)
  | some v => vhres (convV C src dst v h)
  | none => none

def ifaceV (ty : TypeId) : Option TypeDesc → Option Value → Option Value
  | some (.interface _), _ => none
  | some _, some v => some (.iface ty v)
  | _, _ => none

def funV (fn : Fn) : Option (List Value) → Option (List Value) → Option Value
  | some a, some b => some (.func fn a.toArray b.toArray)
  | _, _ => none

def mkSlice2 (h : Hp) (l c : Nat) : Option Nat → Option Nat → Option Value → Option (AR × Hp)
  | some sz, some by_, some z =>
    bif Nat.ble l c && Nat.ble (Nat.mul by_ c) 1099511627776 && Nat.ble c 4294967296 && Nat.blt 0 sz && Nat.blt 0 z.cells.size then
      (match newB h ⟨(rowOf (bif Nat.beq (Nat.mul c sz) 0 then #[] else z.cells) (Nat.mul c sz)).toList, sz, false⟩ with
      | some (i, h') => some (.val (.slice (some ⟨i, 0, none⟩) l c), h')
      | none => none)
    else none
  | _, _, _ => none

def mkSlice (C : Ctx) (h : Hp) : Option TypeDesc → Option Value → Option Value → Option (AR × Hp)
  | some (.slice e), some (.int _ (.ofNat l)), some (.int _ (.ofNat c)) => mkSlice2 h l c (sizeT C e) (bytesT C e) (zeroT C e)
  | _, _, _ => none

def optV (t : Tr Value → Operand → Option Value) (tm : Tr Value) : Option Operand → Option (Option Value)
  | none => some none
  | some x => (t tm x).map some

def opSlice (C : Ctx) (hp : Hp) (ty : TypeId) : Option Value → Option (Option Value) → Option (Option Value) → Option (Option Value) → Option Value
  | some v, some lo, some hi, some mx => sliceV C hp ty v lo hi mx
  | _, _, _, _ => none

def fldP (a : Addr) (off : Nat) : Option Nat → Option Value
  | some (_ + 1) => some (.pointer (some (a.add off)))
  | _ => none

def fldA (C : Ctx) (a : Addr) : Option Field → Option Value
  | some f => fldP a f.offset (sizeT C f.type)
  | none => none

def opFieldAddr (C : Ctx) (k : Nat) : Option TypeDesc → Option Value → Option Value
  | some (.struct fields), some (.pointer (some a)) => fldA C a fields[k]?
  | _, _ => none

def opField (C : Ctx) (k : Nat) : Option TypeDesc → Option Value → Option Value
  | some (.struct fields), some (.agg cs) => match fields[k]? with
    | some f => partV C f.type cs f.offset
    | none => none
  | _, _ => none

def elemA (a : Addr) (i n : Nat) : Option Nat → Option Value
  | some sz => bif Nat.blt i n then some (.pointer (some (a.add (Nat.mul i sz)))) else none
  | none => none

def opIndexAddr (C : Ctx) : Option TypeDesc → Option Value → Option Value → Option Value
  | some (.array n e), some (.pointer (some a)), some (.int _ (.ofNat i)) => elemA a i n (sizeT C e)
  | some (.slice e), some (.slice (some a) n _), some (.int _ (.ofNat i)) => elemA a i n (sizeT C e)
  | _, _, _ => none

def opIndex (C : Ctx) : Option TypeDesc → Option Value → Option Value → Option Value
  | some (.array n e), some (.agg cs), some (.int _ (.ofNat i)) => match sizeT C e with
      | some sz => bif Nat.blt i n then partV C e cs (Nat.mul i sz) else none
      | none => none
  | some .string, some (.string s), some (.int _ (.ofNat i)) => match s[i]? with
      | some b => some (.int .u8 b.toNat)
      | none => none
  | _, _, _ => none

def opAssert (asserted : TypeId) (ok : Bool) : Option TypeDesc → Option Value → Option Value
  | some (.interface _), _ => none
  | some _, some (.iface ty v) => bif ok && Nat.beq ty asserted then some (.tuple #[v, .bool true]) else none
  | _, _ => none

def opExtract (k : Nat) : Option Value → Option Value
  | some (.tuple vs) => vs[k]?
  | _ => none

def opPanic (h : Hp) : Option Value → Option (AR × Hp)
  | some (.iface ty v) => some (.panic (.iface ty v), h)
  | _ => none

def callO (h : Hp) (f : Option Value) (args : List Value) : Option (AR × Hp) :=
  match f with
  | some f => (callV f args).map (·, h)
  | none => none

def opCall (C : Ctx) (t : Tr Value) (h : Hp) (callee : Callee) (argTypes : Array TypeId) : Option (List Value) → Option (AR × Hp)
  | some args => match callee with
      | .builtin b => vhres (builtinV C b argTypes args.toArray h)
      | .value f => callO h (opd t f) args
      | _ => none
  | none => none

abbrev OpF := Ctx → Tr Value → Hp → Option (AR × Hp)
def x_move (x : Operand) : OpF := fun _C t h => vres h (opd t x)
def x_assign (x : Operand) : OpF := fun _C t h => vres h (opd t x)
def x_pick (c : Operand) (a : Operand) (b : Operand) : OpF := fun _C t h => vres h (pickV (opd t c) (opd t a) (opd t b))
def x_alloc (e : TypeId) : OpF := fun C _t h => opAlloc h (zeroT C e)
def x_box (_e : TypeId) (x : Operand) : OpF := fun _C t h => opAlloc h (opd t x)
def x_build (ty : TypeId) (ps : Array (Nat × Operand)) : OpF := fun C t h => opBuild C h ty (parts t ps.toList)
def x_buildSlice (ty : TypeId) (len : Nat) (ps : Array (Nat × Operand)) : OpF := fun C t h => opBuildSlice C h len (und C ty) (parts t ps.toList)
def x_load (ty : TypeId) (a : Operand) : OpF := fun C t h => opLoad C h ty (opd t a)
def x_store (ty : TypeId) (a : Operand) (x : Operand) : OpF := fun C t h => opStore C h ty (opd t a) (opd t x)
def x_nilCheck (x : Operand) : OpF := fun _C t h => vres h (nilV (opd t x))
def x_binOp (op : BinOp) (ty : TypeId) (x : Operand) (y : Operand) (_z : TypeId) : OpF := fun C t h => vres h (opBin C op ty (opd t x) (opd t y))
def x_unOp (op : UnOp) (_ty : TypeId) (x : Operand) : OpF := fun _C t h => vres h (unV op (opd t x))
def x_convert (src : TypeId) (dst : TypeId) (x : Operand) : OpF := fun C t h => opConv C src dst h (opd t x)
def x_makeInterface (ty : TypeId) (x : Operand) : OpF := fun C t h => vres h (ifaceV ty (und C ty) (opd t x))
def x_makeFunc (fn : Fn) (first : Array Operand) (cap : Array Operand) : OpF := fun _C t h => vres h (funV fn (opds t first.toList) (opds t cap.toList))
def x_makeSlice (ty : TypeId) (l : Operand) (c : Operand) : OpF := fun C t h => mkSlice C h (und C ty) (opd t l) (opd t c)
def x_slice (ty : TypeId) (x : Operand) (lo : Option Operand) (hi : Option Operand) (mx : Option Operand) : OpF := fun C t h => vres h (opSlice C h ty (opd t x) (optV opd t lo) (optV opd t hi) (optV opd t mx))
def x_fieldAddr (s : TypeId) (x : Operand) (k : Nat) : OpF := fun C t h => vres h (opFieldAddr C k (und C s) (opd t x))
def x_field (ty : TypeId) (x : Operand) (k : Nat) : OpF := fun C t h => vres h (opField C k (und C ty) (opd t x))
def x_indexAddr (ty : TypeId) (x : Operand) (i : Operand) : OpF := fun C t h => vres h (opIndexAddr C (und C ty) (opd t x) (opd t i))
def x_index (ty : TypeId) (x : Operand) (i : Operand) : OpF := fun C t h => vres h (opIndex C (und C ty) (opd t x) (opd t i))
def x_typeAssert (x : Operand) (_ty : TypeId) (asserted : TypeId) (ok : Bool) : OpF := fun C t h => vres h (opAssert asserted ok (und C asserted) (opd t x))
def x_extract (x : Operand) (k : Nat) : OpF := fun _C t h => vres h (opExtract k (opd t x))
def x_panic (x : Operand) : OpF := fun _C t h => opPanic h (opd t x)
def x_call (c : Call) : OpF := fun C t h => opCall C t h c.callee c.argTypes (opds t c.args.toList)
def x_none : OpF := fun _ _ _ => none
def aopSel (op : Op) : OpF :=
  match op with
  | .move x => x_move x
  | .assign x => x_assign x
  | .pick c a b => x_pick c a b
  | .alloc e => x_alloc e
  | .box _e x => x_box _e x
  | .build ty ps => x_build ty ps
  | .buildSlice ty len ps => x_buildSlice ty len ps
  | .load ty a => x_load ty a
  | .store ty a x => x_store ty a x
  | .nilCheck x => x_nilCheck x
  | .binOp op ty x y _z => x_binOp op ty x y _z
  | .unOp op _ty x => x_unOp op _ty x
  | .convert src dst x => x_convert src dst x
  | .makeInterface ty x => x_makeInterface ty x
  | .makeFunc fn first cap => x_makeFunc fn first cap
  | .makeSlice ty l c => x_makeSlice ty l c
  | .slice ty x lo hi mx => x_slice ty x lo hi mx
  | .fieldAddr s x k => x_fieldAddr s x k
  | .field ty x k => x_field ty x k
  | .indexAddr ty x i => x_indexAddr ty x i
  | .index ty x i => x_index ty x i
  | .typeAssert x _ty asserted ok => x_typeAssert x _ty asserted ok
  | .extract x k => x_extract x k
  | .panic x => x_panic x
  | .call c => x_call c
  | _ => x_none

def aop (C : Ctx) (o : Oper) (t : Tr Value) (h : Hp) : Option (AR × Hp) := aopSel o.op C t h

def dstOf (ops : List Oper) (j : Nat) : Option Nat :=
  match ops[j]? with
  | some o => o.dst
  | none => none

def wantedA (ops : List Oper) (t : Tr Value) (o : Oper) : Bool :=
  match o.guard with
  | none => true
  | some (j, want) => match dstOf ops j with
    | some d => match getT t d with
      | .bool b => b == want
      | _ => false
    | none => false

/-- what a drawn region met: stages (heap behind each writer), loads. -/
structure Met where
  stages : List (Nat × Hp)
  loads : List (Nat × (Hp → Option (AR × Hp)) × Value)

abbrev CallF := FuncId → Array Value → Hp → Option (Ret × Hp)

def isWriter (o : Oper) : Bool :=
  match o.op with
  | .store .. => true
  | .call c => match c.callee with
    | .builtin .append | .builtin .copy => true
    | .builtin _ => false
    | _ => true
  | _ => false

/-- what looks at the heap and leaves it. -/
def isReader (o : Oper) : Bool :=
  match o.op with
  | .load .. | .slice .. | .convert .. => true
  | _ => false

def note (C : Ctx) (o : Oper) (i : Nat) (t : Tr Value) (r : AR) (h' : Hp) (m : Met) : Met :=
  bif isReader o then
    match r with
    | .val v => { m with loads := (i, aop C o t, v) :: m.loads }
    | _ => m
  else bif isWriter o then { m with stages := (i, h') :: m.stages } else m

/-- the operations of a region, one behind the other. -/
def retK (C : Ctx) (draw : Bool) (o : Oper) (i : Nat) (s : St) (m : Met) (k : Nat → St → Met → Option (Out × St × Met)) : Option (Ret × Hp) → Option (Out × St × Met)
  | some (.ret v, h') => k (Nat.succ i) ⟨putT s.t o.dst v, h'⟩ (bif draw then note C o i s.t (.val v) h' m else m)
  | some (.panic v, h') => bif draw then none else some (.panic v, ⟨s.t, h'⟩, m)
  | none => none

def opK (C : Ctx) (F : CallF) (draw : Bool) (o : Oper) (i : Nat) (s : St) (m : Met) (k : Nat → St → Met → Option (Out × St × Met)) : Option (AR × Hp) → Option (Out × St × Met)
  | some (.val v, h) => bif draw && isReader o && !(Nat.beq h.next s.h.next) then none else k (Nat.succ i) ⟨putT s.t o.dst v, h⟩ (bif draw then note C o i s.t (.val v) h m else m)
  | some (.skip, h) => k (Nat.succ i) ⟨putT s.t o.dst undef, h⟩ (bif draw then note C o i s.t .skip h m else m)
  | some (.panic v, h) => bif draw then none else some (.panic v, ⟨s.t, h⟩, m)
  | some (.call f args, h) => retK C draw o i s m k (F f args h)
  | none => none

def evOps (C : Ctx) (F : CallF) (all : List Oper) (draw : Bool) : List Oper → Nat → St → Met → Option (Out × St × Met)
  | [], _, s, m => some (.norm, s, m)
  | o :: l, i, s, m =>
    bif wantedA all s.t o then opK C F draw o i s m (evOps C F all draw l) (aop C o s.t s.h)
    else evOps C F all draw l (Nat.succ i) ⟨putT s.t o.dst undef, s.h⟩ m

def sameV : Value → Value → Bool
  | .bool a, .bool b => a == b
  | .int k a, .int k' b => decide (k = k') && a == b
  | .float k a, .float k' b => decide (k = k') && a == b
  | .string a, .string b => a.data.toList == b.data.toList
  | .pointer a, .pointer b => a == b
  | .slice a n c, .slice b m d => a == b && n == m && c == d
  | .nilFunc, .nilFunc => true
  | .nilIface, .nilIface => true
  | _, _ => false

def sameL : List Value → List Value → Bool
  | [], [] => true
  | x :: l, y :: r => sameV x y && sameL l r
  | _, _ => false

def sameW (x y : Value) : Bool :=
  match x, y with
  | .agg a, .agg b => sameL a.toList b.toList
  | x, y => sameV x y

def sameO (h : Hp) (x : Option (AR × Hp)) (y : Value) : Bool :=
  match x with
  | some (.val x, h') => sameW x y && Nat.beq h'.next h.next
  | _ => false

/-- can reader i be carried out at the stage behind writers `past`, ahead of writers `rest`? (bef: what stands ahead of each) -/
def staged (bef : Array Nat) (i : Nat) (past rest : List Nat) : Bool :=
  (past.all fun w => !((bef.getD w 0).testBit i)) && (rest.all fun w => !((bef.getD i 0).testBit w))

/-- stages: the writers, rising, with the heap behind each. -/
def loadOk (bef : Array Nat) (i : Nat) (f : Hp → Option (AR × Hp)) (v : Value) : List Nat → Hp → List (Nat × Hp) → Bool
  | past, h, [] => sameO h (f h) v || !(staged bef i past [])
  | past, h, (w, h') :: r => (sameO h (f h) v || !(staged bef i past (w :: r.map (·.1)))) && loadOk bef i f v (w :: past) h' r

def drawnOk (ops : Array Oper) (h : Hp) (m : Met) : Bool :=
  match m.stages with
  | [] => m.loads.all fun (_, f, v) => sameO h (f h) v
  | _ =>
    let bef := Region.before ops
    m.loads.all fun (i, f, v) => loadOk bef i f v [] h m.stages.reverse

def initT : List Value → Nat → Tr Value → Tr Value
  | [], _, t => t
  | v :: l, i, t => initT l (Nat.succ i) (t.set (some v) depthT i)

def resOf (C : Ctx) (s : St) : List ResultVar → Option (List Value)
  | [] => some []
  | .tmp x :: l => (resOf C s l).map (getT s.t x :: ·)
  | .cell a ty :: l => match loadV C s.h ty (getT s.t a), resOf C s l with
    | some v, some r => some (v :: r)
    | _, _ => none

def resV (C : Ctx) (s : St) (rs : List ResultVar) : Option Value :=
  match resOf C s rs with
  | some [v] => some v
  | some l => some (.tuple l.toArray)
  | none => none

def extV (C : Ctx) (f : FuncId) (args : Array Value) : Option Value :=
  match args.toList with
  | [.float .f64 b] => bif Nat.beq f C.fbits then some (.int .u64 b) else none
  | [.int .u64 (.ofNat b)] => bif Nat.beq f C.ffrom then some (.float .f64 b) else none
  | _ => none

def callBody (C : Ctx) (rec : Code → St → Option (Out × St)) (f : FuncId) (args : Array Value) (h : Hp) : Option (Ret × Hp) :=
  match C.fn.get f with
  | none => none
  | some fn => match fn.body with
    | none => (extV C f args).map fun v => (.ret v, h)
    | some c => bif Nat.ble args.size fn.ntmps then
      match rec c ⟨initT args.toList 0 .nil, h⟩ with
      | some (.norm, s) => (resV C s fn.results.toList).map fun v => (.ret v, s.h)
      | some (.ret, s) => (resV C s fn.results.toList).map fun v => (.ret v, s.h)
      | some (.panic v, s) => some (.panic v, s.h)
      | _ => none
      else none

def hasBody (C : Ctx) (g : FuncId) : Bool :=
  match C.fn.get g with
  | some fn => fn.body.isSome
  | none => false

def trapK (C : Ctx) : Option (Ret × Hp) → Option (Ret × Hp)
  | some (.ret _, h') => some (.ret (.int .i64 0), h')
  | some (.panic (.iface ty (.int k n)), h') => bif Nat.beq ty C.ern then some (.ret (.int k n), h') else none
  | _ => none

def callG (C : Ctx) (rec : Code → St → Option (Out × St)) : CallF := fun f args h =>
  bif Nat.beq f C.run then
    match args.toList with
    | [.func (.func g) first cap] => bif hasBody C g then trapK C (callBody C rec g (first ++ cap) h) else none
    | _ => none
  else callBody C rec f args h

def orK (x : Option (Ret × Hp)) : Option (Ret × Hp) → Option (Ret × Hp)
  | some r => some r
  | none => x

def callF (C : Ctx) (rec : Code → St → Option (Out × St)) : CallF := fun f args h => orK (callG C rec f args h) (C.orc f args h)

abbrev EvF := Code → St → Option (Out × St)
abbrev StF := Ctx → EvF → St → Option (Out × St)

def seqK (ev : EvF) (b : Code) : Option (Out × St) → Option (Out × St)
  | some (.norm, s') => ev b s'
  | r => r
def condK (ev : EvF) (a b : Code) (s : St) : Option Value → Option (Out × St)
  | some (.bool c) => bif c then ev a s else ev b s
  | _ => none
def blockK (id : Nat) : Option (Out × St) → Option (Out × St)
  | some (.exit i, s') => bif Nat.beq i id then some (.norm, s') else some (.exit i, s')
  | r => r
def regK (ops : Array Oper) (draw : Bool) (h : Hp) : Option (Out × St × Met) → Option (Out × St)
  | some (o, s', m) => bif draw then (bif drawnOk ops h m then some (o, s') else none) else some (o, s')
  | none => none
def c_skip : StF := fun _ _ s => some (.norm, s)
def c_seq (a b : Code) : StF := fun _ ev s => seqK ev b (ev a s)
def c_cond (x : Operand) (a b : Code) : StF := fun _ ev s => condK ev a b s (opd s.t x)
def c_block (id : Nat) (b : Code) : StF := fun _ ev s => blockK id (ev b s)
def c_loop (b : Code) : StF := fun _ ev s => seqK ev (.loop b) (ev b s)
def c_exit (id : Nat) : StF := fun _ _ s => some (.exit id, s)
def c_ret : StF := fun _ _ s => some (.ret, s)
def c_region (ops : Array Oper) (draw : Bool) : StF := fun C ev s => regK ops draw s.h (evOps C (callF C ev) ops.toList draw ops.toList 0 s ⟨[], []⟩)
def c_none : StF := fun _ _ _ => none

def evSel (c : Code) : StF :=
    match c with
    | .skip => c_skip
    | .seq a b => c_seq a b
    | .cond x a b => c_cond x a b
    | .block id b => c_block id b
    | .loop b => c_loop b
    | .exit id => c_exit id
    | .ret => c_ret
    | .region _ ops draw => c_region ops draw
    | _ => c_none

def evStep (C : Ctx) (ev : EvF) (c : Code) (s : St) : Option (Out × St) := evSel c C ev s

def evCode (C : Ctx) (n : Nat) : Code → St → Option (Out × St) :=
  Nat.rec (fun _ _ => none) (fun _ ev => evStep C ev) n

def evFn (C : Ctx) (n : Nat) (f : FuncId) (args : Array Value) (h : Hp) : Option (Ret × Hp) := callF C (evCode C n) f args h

def saysTrue (r : Option (Ret × Hp)) : Bool :=
  match r with
  | some (.ret (.bool true), _) => true
  | _ => false

end
end Ev
