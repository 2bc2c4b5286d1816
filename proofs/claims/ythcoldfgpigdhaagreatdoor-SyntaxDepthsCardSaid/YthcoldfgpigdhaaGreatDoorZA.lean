/- The abstract run: a small form of the program, its compiler, its specs. -/
import Derived.WalkKit
namespace Go.Zd

inductive Fl where | sh | ti | own

inductive DV where
  | undef
  | bool (b : Bool)
  | int (k : IntKind) (n : Int)
  | str (s : List UInt8)
  | nilptr | nilfunc | niliface | nilslice
  | ptr (b off : Nat)
  | snap (cells : List DV) (off : Nat)
  | slice (fl : Fl) (wd : Nat) (es : List DV)
  | func (f : Nat) (first caps : List DV)
  | iface (t : Nat) (v : DV)
  | agg (cells : List DV)
  | tuple (vs : List DV)

instance : Inhabited DV := ⟨.undef⟩

def DV.cells : DV → List DV
  | .agg cs => cs
  | v => [v]

def DV.isU : DV → Bool
  | .undef => true
  | _ => false

/-- without the right to append -/
def DV.clean1 : DV → DV
  | .slice .own w es => .slice .sh w es
  | v => v
abbrev DV.clean : DV → DV := DV.clean1

/-- what may lie in an array: no pointers, nothing that owns -/
def DV.plain1 : DV → Bool
  | .bool _ | .int _ _ | .str _ | .nilptr | .nilfunc | .niliface | .nilslice => true
  | .slice .own _ _ => false
  | .slice _ _ _ => true
  | _ => false
def DV.elemOk (wd : Nat) (v : DV) : Bool := Nat.beq v.cells.length wd && v.cells.all DV.plain1

mutual
def DV.ptrsLt (n : Nat) : DV → Bool
  | .ptr b _ => Nat.blt b n
  | .func _ f c => DV.ptrsLtL n f && DV.ptrsLtL n c
  | .iface _ v => DV.ptrsLt n v
  | .agg cs => DV.ptrsLtL n cs
  | .tuple cs => DV.ptrsLtL n cs
  | _ => true
def DV.ptrsLtL (n : Nat) : List DV → Bool
  | [] => true
  | v :: r => DV.ptrsLt n v && DV.ptrsLtL n r
end

/-- what may lie in a variable of block number b -/
def DV.cellOk (b : Nat) : DV → Bool
  | .undef | .snap _ _ | .agg _ | .tuple _ => false
  | .iface t v => DV.ptrsLt 0 (.iface t v)
  | v => v.ptrsLt (b + 1)

inductive DX where
  | t (n : Nat)
  | k (v : DV)

inductive DOp where
  | move (x : DX)
  | take (x : Nat)
  | pick (c a b : DX)
  | alloc (z : List DV)
  | box (x : DX)
  | build (z : List DV) (parts : List (Nat × Nat × DX))
  | bslice (wd len : Nat) (z : DV) (parts : List (Nat × DX))
  | load (agg : Bool) (n : Nat) (a : DX) (root : Option Nat)
  | store (n : Nat) (a x : DX) (tk : Option Nat) (root : Option Nat)
  | nilchk (x : DX)
  | bin (ty : Nat) (op : BinOp) (x y : DX)
  | un (op : UnOp) (x : DX)
  | conv (k : IntKind) (x : DX)
  | convId (x : DX)
  | convStr (x : DX)
  | mkif (t : Nat) (x : DX)
  | mkfn (f : Nat) (first caps : List DX)
  | slc (str : Bool) (wd : Nat) (x : DX) (lo hi mx : Option DX)
  | faddr (off : Nat) (x : DX)
  | fld (agg : Bool) (n off : Nat) (x : DX)
  | iaddr (wd : Nat) (x i : DX)
  | idx (x i : DX)
  | extract (x : DX) (i : Nat)
  | call (f : DX) (args : List DX)
  | len (str : Bool) (x : DX)
  | maxN (x : DX) (r : List DX)
  | minN (x : DX) (r : List DX)
  | app (src : Option (Bool × Nat)) (wd : Nat) (base s : DX)
  | appF (src : Option (Bool × Nat)) (wd : Nat) (base v : DX)
  | nop
  | panic (x : DX)

structure DIns where
  ix : Nat
  dst : Option Nat
  guard : Option (Nat × Bool)
  op : DOp

inductive DCode where
  | skip
  | seq (a b : DCode)
  | cond (x : DX) (a b : DCode)
  | block (id : Nat) (a : DCode)
  | loop (a : DCode)
  | exit (id : Nat)
  | ret
  | region (ins : List DIns) (live : Option (List Nat)) (prot : List Nat) (draw : Bool)

inductive DRes where
  | tmp (t : Nat)
  | cell (agg : Bool) (n : Nat) (t : Nat)

inductive Prim where
  | contains | indexByte | hasPrefix | parseUint | formatInt | itoa | join | cut

/-- cells, but for the right to append -/
def cl (o : Option (List DV)) : Option (List DV) := o.map (List.map DV.clean1)

/-- the heap has grown, and the protected blocks hold what they held -/
def Keeps (PR : List Nat) (H H' : List (List DV)) : Prop := H.length ≤ H'.length ∧ ∀ b ∈ PR, b < H.length → cl H'[b]? = cl H[b]?

inductive Out where
  | ret (v : DV) | panic (v : DV)

/-- what a function computes, said without its code -/
structure Spec where
  run : List Nat → List DV → List (List DV) → Option (Out × List (List DV))
  keeps : ∀ {PR args H o H'}, run PR args H = some (o, H') → Keeps PR H H'

inductive DFn where
  | spec (s : Spec)
  | code (body : DCode) (res : List DRes) (keep : Bool)
  | prim (p : Prim)
  | runp (pre : List DCode) (post hnd : DCode) (res : List DRes) (c0 c1 c2 c3 failTy : Nat)

structure St where
  tm : List (Nat × DV)
  H : List (List DV)

def look : List (Nat × DV) → Nat → DV
  | [], _ => .undef
  | (u, v) :: r, t => cond (Nat.beq u t) v (look r t)

def rd (tm : List (Nat × DV)) : DX → DV
  | .t n => look tm n
  | .k v => v

/-- an operand, without the right to append -/
def rdc (tm : List (Nat × DV)) : DX → DV
  | .t n => (look tm n).clean
  | .k v => v.clean

inductive Ex where
  | normal | exit (id : Nat) | ret | panic (v : DV)

/-! ## pure operations -/

def boolOp (op : BinOp) (a b : Bool) : Option DV :=
  match op with
  | .eql => some (.bool (a == b))
  | .neq => some (.bool (!(a == b)))
  | _ => none

def intOp (op : BinOp) (k : IntKind) (a b : Int) : Option DV :=
  match op with
  | .add => some (.int k (k.wrap (a + b)))
  | .sub => some (.int k (k.wrap (a - b)))
  | .mul => some (.int k (k.wrap (a * b)))
  | .quo => if b = 0 then none else some (.int k (k.wrap (a.tdiv b)))
  | .rem => if b = 0 then none else some (.int k (a.tmod b))
  | .xor => some (.int k (k.wrap (BitVec.ofInt k.bits a ^^^ BitVec.ofInt k.bits b).toNat))
  | .and => some (.int k (k.wrap (BitVec.ofInt k.bits a &&& BitVec.ofInt k.bits b).toNat))
  | .or => some (.int k (k.wrap (BitVec.ofInt k.bits a ||| BitVec.ofInt k.bits b).toNat))
  | .eql => some (.bool (a == b))
  | .neq => some (.bool (a != b))
  | .lss => some (.bool (decide (a < b)))
  | .leq => some (.bool (decide (a ≤ b)))
  | .gtr => some (.bool (decide (a > b)))
  | .geq => some (.bool (decide (a ≥ b)))
  | _ => none

def shiftOp (op : BinOp) (k : IntKind) (x y : Int) : Option DV :=
  if y < 0 then none else
  match op with
  | .shl => some (.int k (k.wrap (x * 2 ^ (min y.toNat k.bits))))
  | .shr => some (.int k (x.fdiv (2 ^ (min y.toNat k.bits))))
  | _ => none

def strOp (op : BinOp) (a b : List UInt8) : Option DV :=
  match op with
  | .add => if a.length + b.length ≤ 1099511627776 then some (.str (a ++ b)) else none
  | .eql => some (.bool (a == b))
  | .neq => some (.bool (!(a == b)))
  | .lss => some (.bool (Op.bytesLess a b))
  | .leq => some (.bool (Op.bytesLess a b || a == b))
  | .gtr => some (.bool (!(Op.bytesLess a b || a == b)))
  | .geq => some (.bool (!Op.bytesLess a b))
  | _ => none

/-- a comparison with nil -/
def nilOp (op : BinOp) (n : Bool) : Option DV :=
  match op with
  | .eql => some (.bool n)
  | .neq => some (.bool (!n))
  | _ => none

/-- ty: 0 numbers and strings, 1 bool, 2 interface, 3 slice, 4 pointer -/
def binDV (ty : Nat) (op : BinOp) (x y : DV) : Option DV :=
  match ty, x, y with
  | 0, .int k a, .int k' b =>
    match op with
    | .shl => shiftOp .shl k a b
    | .shr => shiftOp .shr k a b
    | op => if k = k' then intOp op k a b else none
  | 1, .bool a, .bool b => boolOp op a b
  | 0, .str a, .str b => strOp op a b
  | 2, .niliface, .niliface => nilOp op true
  | 2, .iface _ _, .niliface => nilOp op false
  | 3, .nilslice, .nilslice => nilOp op true
  | 3, .slice _ _ _, .nilslice => nilOp op false
  | 4, .nilptr, .nilptr => nilOp op true
  | 4, .ptr _ _, .nilptr => nilOp op false
  | 4, .snap _ _, .nilptr => nilOp op false
  | _, _, _ => none

def unDV (op : UnOp) (x : DV) : Option DV :=
  match op, x with
  | .neg, .int k n => some (.int k (k.wrap (0 - n)))
  | .not, .bool b => some (.bool (!b))
  | _, _ => none

def putAt (z : List DV) (off : Nat) (vs : List DV) : List DV := z.take off ++ vs ++ z.drop (off + vs.length)

def buildDV (tm : List (Nat × DV)) : List DV → List (Nat × Nat × DX) → Option (List DV)
  | z, [] => some z
  | z, (off, n, x) :: r =>
    let vs := (rdc tm x).cells
    if vs.length = n ∧ off + n ≤ z.length ∧ (rdc tm x).isU = false then buildDV tm (putAt z off vs) r else none

def setElem (tm : List (Nat × DV)) (wd : Nat) : List DV → List (Nat × DX) → Option (List DV)
  | es, [] => some es
  | es, (i, x) :: r =>
    let v := rdc tm x
    if v.elemOk wd ∧ i < es.length then setElem tm wd (es.set i v) r else none

/-- an element out of cells -/
def mkCells (agg : Bool) (cs : List DV) : Option DV :=
  if agg then some (.agg cs) else
  match cs with
  | [v] => some v
  | _ => none

def toNatIdx (v : DV) : Option Nat :=
  match v with
  | .int _ n => if 0 ≤ n then some n.toNat else none
  | _ => none

/-- bounds of a slice expression: low, high, max -/
def evO (tm : List (Nat × DV)) (x : Option DX) : Option (Option Nat) := x.map fun x => toNatIdx (rdc tm x)
def bndV (dflt : Nat) : Option (Option Nat) → Option Nat
  | none => some dflt
  | some v => v

def strElems : List UInt8 → List DV := fun s => s.map fun b => .int .u8 b.toNat

def elemsOf : DV → Option (List DV)
  | .nilslice => some []
  | .slice _ _ es => some es
  | _ => none

def bytesOf : List DV → Option (List UInt8)
  | [] => some []
  | .int .u8 n :: r => match bytesOf r with
    | some l => if 0 ≤ n ∧ n < 256 then some (UInt8.ofNat n.toNat :: l) else none
    | none => none
  | _ => none

def maxDV : DV → DV → Option DV
  | .int k x, .int k' y => if k = k' then some (.int k (if y > x then y else x)) else none
  | _, _ => none
def minDV : DV → DV → Option DV
  | .int k x, .int k' y => if k = k' then some (.int k (if y < x then y else x)) else none
  | _, _ => none

def foldDV (f : DV → DV → Option DV) (tm : List (Nat × DV)) : DV → List DX → Option DV
  | v, [] => some v
  | v, x :: r => match f v (rdc tm x) with
    | some w => foldDV f tm w r
    | none => none

def slcDV (str : Bool) (wd : Nat) (x : DV) (lo hi mx : Option (Option Nat)) : Option DV :=
  match str, x with
  | true, .str s =>
    match bndV 0 lo, bndV s.length hi, mx with
    | some l, some h, none => if l ≤ h ∧ h ≤ s.length then some (.str ((s.take h).drop l)) else none
    | _, _, _ => none
  | false, .nilslice =>
    match bndV 0 lo, bndV 0 hi, bndV 0 mx with
    | some 0, some 0, some 0 => some .nilslice
    | _, _, _ => none
  | false, .slice _ w es =>
    if !(Nat.beq w wd) then none else
    match bndV 0 lo, bndV es.length hi, mx with
    | some l, some h, none => if l ≤ h ∧ h ≤ es.length then some (.slice .sh w ((es.take h).drop l)) else none
    | some l, some h, some (some m) => if l ≤ h ∧ h ≤ es.length ∧ m = h then some (.slice .ti w ((es.take h).drop l)) else none
    | _, _, _ => none
  | _, _ => none

/-- operations that read no memory: the value -/
def pureOp (tm : List (Nat × DV)) : DOp → Option DV
  | .move x => some (rdc tm x)
  | .pick c a b => match rdc tm c with
    | .bool true => some (rdc tm a)
    | .bool false => some (rdc tm b)
    | _ => none
  | .build z parts => match buildDV tm z parts with
    | some cs => some (.agg cs)
    | none => none
  | .bslice wd len z parts => match setElem tm wd (List.replicate len z) parts with
    | some es => some (.slice .ti wd es)
    | none => none
  | .nilchk x => match rdc tm x with
    | .ptr b o => some (.ptr b o)
    | .snap c o => some (.snap c o)
    | .func f a c => some (.func f a c)
    | _ => none
  | .bin ty op x y => binDV ty op (rdc tm x) (rdc tm y)
  | .un op x => unDV op (rdc tm x)
  | .conv k x => match rdc tm x with
    | .int _ n => some (.int k (k.wrap n))
    | _ => none
  | .convId x => match rdc tm x with
    | .str s => some (.str s)
    | _ => none
  | .convStr x => match elemsOf (rdc tm x) with
    | some es => match bytesOf es with
      | some s => some (.str s)
      | none => none
    | none => none
  | .mkif t x => some (.iface t (rdc tm x))
  | .mkfn f first caps => some (.func f (first.map fun x => rdc tm x) (caps.map fun x => rdc tm x))
  | .slc str wd x lo hi mx => slcDV str wd (rdc tm x) (evO tm lo) (evO tm hi) (evO tm mx)
  | .faddr off x => match rdc tm x with
    | .ptr b o => some (.ptr b (o + off))
    | .snap c o => if o + off < c.length then some (.snap c (o + off)) else none
    | _ => none
  | .fld agg n off x => match rdc tm x with
    | .agg cs => if off + n ≤ cs.length then mkCells agg (((cs.drop off).take n).map DV.clean1) else none
    | _ => none
  | .iaddr wd x i => match toNatIdx (rdc tm i) with
    | some i => match rdc tm x with
      | .slice _ w es => if Nat.beq w wd then (match es[i]? with
        | some v => some (.snap v.cells 0)
        | none => none) else none
      | _ => none
    | none => none
  | .idx x i => match toNatIdx (rdc tm i) with
    | some i => match rdc tm x with
      | .str s => match s[i]? with
        | some b => some (.int .u8 b.toNat)
        | none => none
      | _ => none
    | none => none
  | .extract x i => match rdc tm x with
    | .tuple vs => match vs[i]? with
      | some v => some v.clean
      | none => none
    | _ => none
  | .len str x => match str, rdc tm x with
    | true, .str s => some (.int .i64 s.length)
    | false, .nilslice => some (.int .i64 0)
    | false, .slice _ _ es => some (.int .i64 es.length)
    | _, _ => none
  | .maxN x r => foldDV maxDV tm (rdc tm x) r
  | .minN x r => foldDV minDV tm (rdc tm x) r
  | _ => none

/-! ## operations on the heap -/

def loadDV (H : List (List DV)) (agg : Bool) (n : Nat) : DV → Option DV
  | .ptr b o => match H[b]? with
    | some cs => if o + n ≤ cs.length then mkCells agg (((cs.drop o).take n).map DV.clean1) else none
    | none => none
  | .snap cs o => if o + n ≤ cs.length then mkCells agg (((cs.drop o).take n).map DV.clean1) else none
  | _ => none

/-- the entries of a block's protection that a store through this root may lift -/
def lift (L : List (Nat × Nat)) : Option Nat → List (Nat × Nat)
  | none => L
  | some r => L.filter fun p => !(Nat.beq p.1 r)

def protects (PR : List Nat) (L : List (Nat × Nat)) (b : Nat) : Bool := PR.any (Nat.beq b) || L.any (fun p => Nat.beq b p.2)

def unown (tm : List (Nat × DV)) (t : Nat) : List (Nat × DV) := (t, (look tm t).clean) :: tm

def storeDV (H : List (List DV)) (b o n : Nat) (vs : List DV) : Option (List (List DV)) :=
  match H[b]? with
  | some cs => if vs.length = n ∧ o + n ≤ cs.length ∧ vs.all (DV.cellOk b) then some (H.set b (putAt cs o vs)) else none
  | none => none

def isOwn : DV → Bool
  | .slice .own _ _ => true
  | _ => false

def grows (wd : Nat) (base s : DV) : Option (List DV × List DV) :=
  match elemsOf base, elemsOf s with
  | some a, some b => if a.length + b.length ≤ 16777216 ∧ b.all (DV.elemOk wd) then some (a, b) else none
  | _, _ => none

def widthOk (wd : Nat) : DV → Bool
  | .slice _ w _ => Nat.beq w wd
  | _ => true

/-- the right to append, taken from where the base was read -/
def consumeSrc (st : St) (L : List (Nat × Nat)) : Option (Bool × Nat) → Option St
  | some (true, x) => if isOwn (look st.tm x) then some { st with tm := unown st.tm x } else none
  | some (false, ta) => match (look st.tm ta).clean with
    | .ptr blk o => match st.H[blk]? with
      | some cs => match cs[o]? with
        | some v => if isOwn v && L.any (fun p => Nat.beq blk p.2) then some { st with H := st.H.set blk (cs.set o v.clean) } else none
        | none => none
      | none => none
    | _ => none
  | none => none

def consume (st : St) (L : List (Nat × Nat)) (src : Option (Bool × Nat)) (base : DX) : DV → Option St
  | .nilslice => some st
  | .slice .ti _ _ => some st
  | .slice .own _ _ => match base with
    | .t n => some { st with tm := unown st.tm n }
    | .k _ => none
  | .slice .sh _ _ => consumeSrc st L src
  | _ => none

/-- append: the value, the slots and the heap behind it -/
def appDV (st : St) (L : List (Nat × Nat)) (src : Option (Bool × Nat)) (wd : Nat) (base : DX) (sv : DV) : Option (DV × St) :=
  if widthOk wd (rd st.tm base) && widthOk wd sv then
    match grows wd (rd st.tm base) sv with
    | none => none
    | some (a, b) =>
      if b.isEmpty then some ((rd st.tm base).clean, st) else
      match consume st L src base (rd st.tm base) with
      | some st' => some (.slice .own wd (a ++ b), st')
      | none => none
  else none

def idxByte (c : Int) : List UInt8 → Int → Int
  | [], _ => -1
  | b :: r, i => if (b.toNat : Int) = c then i else idxByte c r (i + 1)

def containsL (p : List UInt8) : List UInt8 → Bool
  | [] => p.isEmpty
  | b :: r => p.isPrefixOf (b :: r) || containsL p r

/-- the number that decimal digits write, below 2^64 -/
def decimal : List UInt8 → Nat → Option Nat
  | [], acc => some acc
  | b :: r, acc => if 48 ≤ b.toNat ∧ b.toNat ≤ 57 ∧ acc * 10 + (b.toNat - 48) < 18446744073709551616 then decimal r (acc * 10 + (b.toNat - 48)) else none

def idxL (p : List UInt8) : List UInt8 → Option Nat
  | [] => if p.isEmpty then some 0 else none
  | b :: r => if p.isPrefixOf (b :: r) then some 0 else match idxL p r with
    | some i => some (i + 1)
    | none => none

def cutDV : List DV → Option DV
  | [.str s, .str p] => if s.length < 4294967281 then (match idxL p s with
    | some i => some (.tuple [.str (s.take i), .str (s.drop (i + p.length)), .bool true])
    | none => some (.tuple [.str s, .str [], .bool false])) else none
  | _ => none

def joinDV : List DV → Option DV
  | [.nilslice, .str _] => some (.str [])
  | [.slice _ _ [], .str _] => some (.str [])
  | [.slice _ _ [.str x], .str _] => some (.str x)
  | _ => none

def formatDV : List DV → Option DV
  | [.int .i64 n, .int .i64 10] => if 0 ≤ n ∧ n < 10 then some (.str [UInt8.ofNat (48 + n.toNat)]) else none
  | _ => none

def primDV : Prim → List DV → Option DV
  | .indexByte, [.str s, .int .u8 c] => if 0 ≤ c ∧ c < 256 then some (.int .i64 (idxByte c s 0)) else none
  | .hasPrefix, [.str s, .str p] => some (.bool (p.isPrefixOf s))
  | .contains, [.str s, .str p] => if s.length < 4294967281 then some (.bool (containsL p s)) else none
  | .parseUint, [.str s, .int .i64 10, .int .i64 64] => if s.length ≤ 9223372036854775806 then (match decimal s 0 with
    | some n => if s.isEmpty then none else some (.tuple [.int .u64 n, .niliface])
    | none => none) else none
  | .join, l => joinDV l
  | .cut, l => cutDV l
  | .formatInt, l => formatDV l
  | _, _ => none

def trunc (keep : Bool) (n : Nat) (H : List (List DV)) : List (List DV) := if keep then H else H.take n

def outOf (keep : Bool) (n : Nat) (H : List (List DV)) (v : DV) (mk : DV → Out) : Option (Out × List (List DV)) :=
  if keep || v.ptrsLt n then some (mk v, trunc keep n H) else none

def resVal (st : St) : DRes → Option DV
  | .tmp t => some (look st.tm t)
  | .cell agg n t => loadDV st.H agg n (look st.tm t)

def resVals (st : St) : List DRes → Option (List DV)
  | [] => some []
  | r :: rs => match resVal st r, resVals st rs with
    | some v, some vs => some (v :: vs)
    | _, _ => none

def resOf (st : St) (rs : List DRes) : Option DV :=
  match resVals st rs with
  | some [v] => some v
  | some vs => some (.tuple (vs.map DV.clean))
  | none => none

def enterTm (args : List DV) : List (Nat × DV) := args.zipIdx.map fun (v, i) => (i, v.clean1)

abbrev Rec := List Nat → DCode → St → Option (Ex × St)

/-- the deferred call of a guarded function, and what the function hands back -/
def handle (rec : Rec) (PR : List Nat) (hnd : DCode) (res : List DRes) (c0 c1 c2 n : Nat) (tm : List (Nat × DV)) (H1 : List (List DV)) (fc : List DV) (ok : Bool) : Option (Out × List (List DV)) :=
  match rec PR hnd ⟨[(0, (look tm c0).clean), (1, (look tm c1).clean), (2, (look tm c2).clean), (3, .ptr H1.length 0), (4, .bool ok)], H1 ++ [fc]⟩ with
  | some (.normal, st3) => match resOf ⟨[(c0, (look tm c0).clean), (c1, (look tm c1).clean), (c2, (look tm c2).clean)], st3.H⟩ res with
    | some v => outOf false n st3.H v .ret
    | none => none
  | _ => none

/-- what a guarded function's body came to -/
def settleD (rec : Rec) (PR : List Nat) (hnd : DCode) (res : List DRes) (c0 c1 c2 failTy n : Nat) (tm : List (Nat × DV)) : Ex → List (List DV) → Option (Out × List (List DV))
  | .ret, H1 => handle rec PR hnd res c0 c1 c2 n tm H1 [.int .i64 0, .int .i64 0] false
  | .panic (.iface t (.agg [.int .i64 p, .int .i64 e])), H1 => if Nat.beq t failTy then handle rec PR hnd res c0 c1 c2 n tm H1 [.int .i64 p, .int .i64 e] true else none
  | _, _ => none

/-- one after the other -/
def runL (rec : Rec) (PR : List Nat) : List DCode → St → Option (Ex × St)
  | [], st => some (.normal, st)
  | d :: r, st => match rec PR d st with
    | some (.normal, st) => runL rec PR r st
    | x => x

/-- a guarded function: its body up to the deferred call, and behind it -/
def runD (rec : Rec) (PR : List Nat) (pre : List DCode) (post hnd : DCode) (res : List DRes) (c0 c1 c2 c3 failTy : Nat) (args : List DV) (H : List (List DV)) : Option (Out × List (List DV)) :=
  match runL rec PR pre ⟨enterTm args, H⟩ with
  | some (.ret, st) => match resOf st res with
    | some v => outOf false H.length st.H v .ret
    | none => none
  | some (.normal, st1) => match rec PR post ⟨(c3, .undef) :: st1.tm, st1.H⟩ with
    | some (ex, st) => settleD rec PR hnd res c0 c1 c2 failTy H.length st1.tm ex st.H
    | none => none
  | _ => none

/-- a function of code, a primitive one, or a guarded one -/
def callF (F : Nat → Option DFn) (rec : Rec) (PR : List Nat) (f : Nat) (args : List DV) (H : List (List DV)) : Option (Out × List (List DV)) :=
  match F f with
  | some (.code body res keep) =>
    match rec PR body ⟨enterTm args, H⟩ with
    | some (.panic v, st) => outOf keep H.length st.H v .panic
    | some (.exit _, _) => none
    | some (_, st) => match resOf st res with
      | some v => outOf keep H.length st.H v .ret
      | none => none
    | none => none
  | some (.spec s) => s.run PR args H
  | some (.prim p) => match primDV p args with
    | some v => some (.ret v, H)
    | none => none
  | some (.runp pre post hnd res c0 c1 c2 c3 failTy) => runD rec PR pre post hnd res c0 c1 c2 c3 failTy args H
  | none => none

def setDst (st : St) (d : Option Nat) (v : DV) : St :=
  match d with
  | some t => { st with tm := (t, v) :: st.tm }
  | none => st

structure RSt where
  st : St
  L : List (Nat × Nat)

/-- in a region that draws its order, a variable is read under its protection -/
def mayLoad (L : List (Nat × Nat)) (root : Option Nat) : DV → Bool
  | .ptr b _ => match root with
    | some r => L.any fun p => Nat.beq r p.1 && Nat.beq b p.2
    | none => false
  | _ => true

def loadOp (s : RSt) (draw agg : Bool) (n : Nat) (a : DX) (root : Option Nat) : Option DV :=
  if draw && !(mayLoad s.L root (rdc s.st.tm a)) then none else loadDV s.st.H agg n (rdc s.st.tm a)

def storeTo (st : St) (PR : List Nat) (L : List (Nat × Nat)) (n : Nat) (x : DX) (tk : Option Nat) : DV → Option St
  | .ptr b o =>
    if protects PR L b then none else
    match tk with
    | some t => match storeDV st.H b o n [look st.tm t] with
      | some H => some ⟨unown st.tm t, H⟩
      | none => none
    | none => match storeDV st.H b o n ((rd st.tm x).cells.map DV.clean1) with
      | some H => some ⟨st.tm, H⟩
      | none => none
  | _ => none

def callOp (F : Nat → Option DFn) (rec : Rec) (PR : List Nat) (s : RSt) (args : List DX) : DV → Option (Out × List (List DV))
  | .func g first caps => callF F rec (PR ++ s.L.map (·.2)) g (first ++ args.map (rdc s.st.tm) ++ caps) s.st.H
  | _ => none

def putV (s : RSt) (d : Option Nat) (v : DV) : RSt := { s with st := setDst s.st d v }

def opDV (F : Nat → Option DFn) (rec : Rec) (PR : List Nat) (draw : Bool) (s : RSt) (i : DIns) : Option (Option DV × RSt) :=
  match i.op with
  | .take x => some (none, { s with st := setDst { s.st with tm := unown s.st.tm x } i.dst (look s.st.tm x) })
  | .alloc z => some (none, { s with st := setDst { s.st with H := s.st.H ++ [z] } i.dst (.ptr s.st.H.length 0) })
  | .box x =>
    if ((rd s.st.tm x).cells.map DV.clean1).all (DV.cellOk s.st.H.length) then
      some (none, { s with st := setDst { s.st with H := s.st.H ++ [(rd s.st.tm x).cells.map DV.clean1] } i.dst (.ptr s.st.H.length 0) }) else none
  | .load agg n a root => match loadOp s draw agg n a root with
    | some v => some (none, putV s i.dst v)
    | none => none
  | .store n a x tk root => match storeTo s.st PR (lift s.L root) n x tk (rdc s.st.tm a) with
    | some st => some (none, { st := setDst st i.dst .undef, L := lift s.L root })
    | none => none
  | .call f args => match callOp F rec PR s args (rdc s.st.tm f) with
    | some (.ret v, H) => some (none, { s with st := setDst { s.st with H } i.dst v })
    | some (.panic v, H) => some (some v, { s with st := { s.st with H } })
    | none => none
  | .app src wd base x => match appDV s.st s.L src wd base (rdc s.st.tm x) with
    | some (v, st) => some (none, { s with st := setDst st i.dst v })
    | none => none
  | .appF src wd base x => match appDV s.st s.L src wd base (.slice .ti wd [rdc s.st.tm x]) with
    | some (v, st) => some (none, { s with st := setDst st i.dst v })
    | none => none
  | .nop => some (none, putV s i.dst .undef)
  | .panic x => match rdc s.st.tm x with
    | .iface t v => some (some (.iface t v), s)
    | _ => none
  | op => match pureOp s.st.tm op with
    | some v => some (none, putV s i.dst v)
    | none => none

def stepIns (F : Nat → Option DFn) (rec : Rec) (PR : List Nat) (draw : Bool) (i : DIns) (s : RSt) : Option (Option DV × RSt) :=
  match i.guard with
  | none => opDV F rec PR draw s i
  | some (g, want) =>
    match look s.st.tm g with
    | .bool b => cond (b == want) (opDV F rec PR draw s i) (some (none, { s with st := setDst s.st i.dst (.tuple []) }))
    | .tuple [] => some (none, { s with st := setDst s.st i.dst (.tuple []) })
    | _ => none

def runIns (F : Nat → Option DFn) (rec : Rec) (PR : List Nat) (draw : Bool) : List DIns → RSt → Option (Option DV × RSt)
  | [], s => some (none, s)
  | i :: r, s =>
    match stepIns F rec PR draw i s with
    | some (none, s) => runIns F rec PR draw r s
    | x => x

def protL (tm : List (Nat × DV)) : List Nat → Option (List (Nat × Nat))
  | [] => some []
  | t :: r => match look tm t, protL tm r with
    | .ptr b _, some l => some ((t, b) :: l)
    | .snap _ _, some l => some l
    | _, _ => none

def restrict (tm : List (Nat × DV)) : Option (List Nat) → List (Nat × DV)
  | none => tm
  | some l => l.map fun t => (t, look tm t)

def execB (F : Nat → Option DFn) (rec : Rec) (PR : List Nat) : DCode → St → Option (Ex × St)
  | .skip, st => some (.normal, st)
  | .seq a b, st => match execB F rec PR a st with
    | some (.normal, st) => execB F rec PR b st
    | x => x
  | .cond x a b, st => match rdc st.tm x with
    | .bool true => execB F rec PR a st
    | .bool false => execB F rec PR b st
    | _ => none
  | .block id a, st => match execB F rec PR a st with
    | some (.exit i, st) => cond (Nat.beq i id) (some (.normal, st)) (some (.exit i, st))
    | x => x
  | .loop a, st => match execB F rec PR a st with
    | some (.normal, st) => rec PR (.loop a) st
    | x => x
  | .exit id, st => some (.exit id, st)
  | .ret, st => some (.ret, st)
  | .region ins live prot draw, st =>
    match protL st.tm prot with
    | none => none
    | some L => match runIns F rec PR draw ins ⟨st, L⟩ with
      | some (none, s) => some (.normal, { s.st with tm := restrict s.st.tm live })
      | some (some v, s) => some (.panic v, s.st)
      | none => none

def exec (F : Nat → Option DFn) : Nat → Rec
  | 0 => fun _ _ _ => none
  | k + 1 => fun PR c st => execB F (exec F k) PR c st

def callD (F : Nat → Option DFn) (k : Nat) (PR : List Nat) (f : Nat) (args : List DV) (H : List (List DV)) : Option (Out × List (List DV)) :=
  callF F (exec F k) PR f args H

end Go.Zd
namespace Go.Zd

def const1 : Value → Option DV
  | .bool b => some (.bool b)
  | .int k n => some (.int k n)
  | .string s => some (.str s.data.toList)
  | .pointer none => some .nilptr
  | .slice none 0 0 => some .nilslice
  | .nilFunc => some .nilfunc
  | .nilIface => some .niliface
  | _ => none

def constL : List Value → Option (List DV)
  | [] => some []
  | v :: r => match const1 v, constL r with
    | some d, some l => some (d :: l)
    | _, _ => none

def constDV : Value → Option DV
  | .agg cs => (constL cs.toList).map .agg
  | v => const1 v

def opd : Operand → Option DX
  | .tmp t => some (.t t)
  | .const v => (constDV v).map .k
  | .func f => some (.k (.func f [] []))
  | .global _ => none

def opdO : Option Operand → Option (Option DX)
  | none => some none
  | some x => (opd x).map some

def opdL : List Operand → Option (List DX)
  | [] => some []
  | x :: r => match opd x, opdL r with
    | some d, some l => some (d :: l)
    | _, _ => none

def aggO (P : Program) (t : TypeId) : Option Bool :=
  match P.underlying t with
  | some (.struct _) | some (.array _ _) => some true
  | some _ => some false
  | none => none

def szOf (P : Program) (t : TypeId) : Option Nat := (P.info? t).map (·.size)

def opAt (ops : List Oper) (j : Nat) : Option Op := match ops[j]? with
  | some o => some o.op
  | none => none
def dstAt (ops : List Oper) (j : Nat) : Option Nat := match ops[j]? with
  | some o => o.dst
  | none => none

/-- the last operation before i that writes slot t, in a region -/
def defIn (ops : List Oper) (i : Nat) (t : Nat) : Option Nat :=
  ((List.range i).reverse).find? fun j => match ops[j]? with
    | some o => o.dst == some t
    | none => false

def rootOf (ops : List Oper) : Nat → Nat → Operand → Option Nat
  | 0, _, _ => none
  | k + 1, i, .tmp t => match defIn ops i t with
    | none => some t
    | some j => match opAt ops j with
      | some (.move x) => rootOf ops k j x
      | some (.assign x) => rootOf ops k j x
      | some (.nilCheck x) => rootOf ops k j x
      | some (.fieldAddr _ x _) => rootOf ops k j x
      | _ => none
  | _, _, _ => none

/-- a slot that an append or a call of this region has written -/
def takeable (ops : List Oper) (i : Nat) : Operand → Option Nat
  | .tmp t => match defIn ops i t with
    | some j => match opAt ops j with
      | some (.call { callee := .builtin .append, .. }) => some t
      | some (.call { callee := .value _, .. }) => some t
      | _ => none
    | none => none
  | _ => none

def srcOf (ops : List Oper) (i : Nat) : Operand → Option (Bool × Nat)
  | .tmp t => match defIn ops i t with
    | some j => match opAt ops j with
      | some (.move (.tmp x)) => some (true, x)
      | some (.load _ (.tmp a)) => some (false, a)
      | _ => none
    | none => none
  | _ => none

def eqTy (P : Program) (op : BinOp) (t : TypeId) (x y : Operand) : Option Nat :=
  match op with
  | .eql | .neq => match P.underlying t with
    | some (.int _) | some .string => some 0
    | some .bool => some 1
    | some (.interface _) => match x, y with
      | .const .nilIface, _ | _, .const .nilIface => some 2
      | _, _ => none
    | some (.slice _) => some 3
    | some (.pointer _) => some 4
    | _ => none
  | _ => match P.underlying t with
    | some (.int _) | some .string => some 0
    | _ => none

def fieldParts (P : Program) (fs : Array Field) : List (Nat × Operand) → Option (List (Nat × Nat × DX))
  | [] => some []
  | (i, x) :: r => match fs[i]?, fieldParts P fs r with
    | some f, some l => match szOf P f.type, opd x with
      | some n, some d => some ((f.offset, n, d) :: l)
      | _, _ => none
    | _, _ => none

def elemParts : List (Nat × Operand) → Option (List (Nat × DX))
  | [] => some []
  | (i, x) :: r => match opd x, elemParts r with
    | some d, some l => some ((i, d) :: l)
    | _, _ => none

/-- an element that is stored behind its append: the store's number and operand -/
def fillOf (ops : List Oper) (i : Nat) : Option (Nat × Nat × Operand) :=
  match dstAt ops i, opAt ops i with
  | some d, some (.call { callee := .builtin .append, .. }) =>
    (List.range ops.length).findSome? fun k => match opAt ops k with
      | some (.store _ (.tmp a) v) => match defIn ops k a with
        | some m => match opAt ops m with
          | some (.indexAddr _ (.tmp s) _) => if s == d && i < m then some (m, k, v) else none
          | _ => none
        | none => none
      | _ => none
  | _, _ => none

/-- is operation i part of such a pair? -/
def filled (ops : List Oper) (i : Nat) : Bool :=
  (List.range ops.length).any fun j => match fillOf ops j with
    | some (m, k, _) => m == i || k == i
    | none => false

def compOp (P : Program) (ops : List Oper) (i : Nat) (o : Oper) : Option DOp :=
  if filled ops i then some .nop else
  match o.op with
  | .move x | .assign x => match takeable ops i x with
    | some t => some (.take t)
    | none => (opd x).map .move
  | .pick c a b => match opd c, opd a, opd b with
    | some c, some a, some b => some (.pick c a b)
    | _, _, _ => none
  | .alloc t => match P.info? t with
    | some { zero := some v, .. } => match constL v.cells.toList with
      | some (z :: zs) => some (.alloc (z :: zs))
      | _ => none
    | _ => none
  | .box _ x => (opd x).map .box
  | .build t parts => match P.underlying t, P.info? t with
    | some (.struct fs), some { zero := some v, .. } => match constL v.cells.toList, fieldParts P fs parts.toList with
      | some z, some ps => if fs.toList.all fun f => (P.info? f.type).isSome then some (.build z ps) else none
      | _, _ => none
    | _, _ => none
  | .buildSlice t len parts => match P.underlying t with
    | some (.slice e) => match szOf P e, (P.info? e).bind (·.zero) with
      | some n, some zv => match constDV zv, elemParts parts.toList with
        | some z, some ps => if 0 < n && 0 < len && len * n ≤ 16777216 && (z.cells.length == n) && z.elemOk n then some (.bslice n len z ps) else none
        | _, _ => none
      | _, _ => none
    | _ => none
  | .load t a => match szOf P t, aggO P t, opd a with
    | some n, some ag, some d => if ag || n == 1 then some (.load ag n d (rootOf ops 20 i a)) else none
    | _, _, _ => none
  | .store t a x => match szOf P t, opd a, opd x with
    | some n, some da, some dx => some (.store n da dx (if n == 1 then takeable ops i x else none) (rootOf ops 20 i a))
    | _, _, _ => none
  | .nilCheck x => (opd x).map .nilchk
  | .binOp op t x y _ => match eqTy P op t x y, opd x, opd y with
    | some ty, some dx, some dy => some (.bin ty op dx dy)
    | _, _, _ => none
  | .unOp op _ x => (opd x).map (.un op)
  | .convert s d x => match P.underlying s, P.underlying d, opd x with
    | some (.int _), some (.int k), some dx => some (.conv k dx)
    | some .string, some .string, some dx => some (.convId dx)
    | some (.slice e), some .string, some dx => match P.underlying e with
      | some (.int .u8) => some (.convStr dx)
      | _ => none
    | _, _, _ => none
  | .makeInterface t x => match P.underlying t with
    | some (.interface _) => none
    | some _ => (opd x).map (.mkif t)
    | none => none
  | .makeFunc (.func f) first caps => match opdL first.toList, opdL caps.toList with
    | some a, some b => some (.mkfn f a b)
    | _, _ => none
  | .slice t x lo hi mx => match P.underlying t, opd x, opdO lo, opdO hi, opdO mx with
    | some .string, some dx, some l, some h, some none => some (.slc true 0 dx l h none)
    | some (.slice e), some dx, some l, some h, some m => match szOf P e with
      | some n => if m.isSome && h.isNone then none else some (.slc false n dx l h m)
      | none => none
    | _, _, _, _, _ => none
  | .fieldAddr t x f => match P.underlying t with
    | some (.struct fs) => match fs[f]?, opd x with
      | some fd, some dx => match szOf P fd.type with
        | some n => if n == 0 then none else some (.faddr fd.offset dx)
        | none => none
      | _, _ => none
    | _ => none
  | .field t x f => match P.underlying t with
    | some (.struct fs) => match fs[f]?, opd x with
      | some fd, some dx => match szOf P fd.type with
        | some n => match aggO P fd.type with
          | some ag => if ag || n == 1 then some (.fld ag n fd.offset dx) else none
          | none => none
        | none => none
      | _, _ => none
    | _ => none
  | .indexAddr t x ix => match P.underlying t with
    | some (.slice e) => match szOf P e, opd x, opd ix with
      | some n, some dx, some di => some (.iaddr n dx di)
      | _, _, _ => none
    | _ => none
  | .index t x ix => match P.underlying t with
    | some .string => match opd x, opd ix with
      | some dx, some di => some (.idx dx di)
      | _, _ => none
    | _ => none
  | .extract x ix => (opd x).map fun d => .extract d ix
  | .call { callee := .value f, args, .. } => match opd f, opdL args.toList with
    | some df, some l => some (.call df l)
    | _, _ => none
  | .call { callee := .builtin .len, args, argTypes } => match args.toList, argTypes.toList with
    | [x], [t] => match P.underlying t with
      | some .string => (opd x).map (.len true)
      | some (.slice _) => (opd x).map (.len false)
      | _ => none
    | _, _ => none
  | .call { callee := .builtin .max, args, .. } => match opdL args.toList with
    | some (x :: r) => some (.maxN x r)
    | _ => none
  | .call { callee := .builtin .min, args, .. } => match opdL args.toList with
    | some (x :: r) => some (.minN x r)
    | _ => none
  | .call { callee := .builtin .append, args, argTypes } => match args.toList, argTypes.toList with
    | [x, y], [t, u] => match P.underlying t with
      | some (.slice e) => match P.info? e with
        | some { zero := some zv, size := n, bytes := by_, .. } =>
          if 0 < n && by_ ≤ 65536 && t == u && zv.cells.size == n then
            match opd x with
            | some dx => match fillOf ops i with
              | some (_, _, v) => match opd v with
                | some dv => some (.appF (srcOf ops i x) n dx dv)
                | none => none
              | none => match opd y with
                | some dy => some (.app (srcOf ops i x) n dx dy)
                | none => none
            | none => none
          else none
        | _ => none
      | _ => none
    | _, _ => none
  | .panic x => (opd x).map .panic
  | _ => none

def compIns (P : Program) (ops : List Oper) : List Nat → Option (List DIns)
  | [] => some []
  | i :: r => match ops[i]? with
    | none => none
    | some o => match compOp P ops i o, compIns P ops r with
      | some d, some l => match o.guard with
        | none => some ({ ix := i, dst := o.dst, guard := none, op := d } :: l)
        | some (j, b) => match ops[j]?.bind (·.dst) with
          | some t => some ({ ix := i, dst := o.dst, guard := some (t, b), op := d } :: l)
          | none => none
      | _, _ => none

/-- the slots whose blocks a region protects -/
def protOf (draw : Bool) : List DIns → List Nat
  | [] => []
  | i :: r => match i.op with
    | .load _ _ _ (some t) => if draw then t :: protOf draw r else protOf draw r
    | _ => protOf draw r

def addNew (l : List Nat) (t : Nat) : List Nat := if l.contains t then l else l ++ [t]

/-- the roots of the loads out of which appends take their base -/
def appRoots (ops : List Oper) (ins : List DIns) : List Nat :=
  ins.foldl (fun acc i => match i.op with
    | .app (some (false, _)) _ (.t b) _ | .appF (some (false, _)) _ (.t b) _ => match defIn ops i.ix b with
      | some j => match opAt ops j with
        | some (.load _ a) => match rootOf ops 20 j a with
          | some r => addNew acc r
          | none => acc
        | _ => acc
      | none => acc
    | _ => acc) []

structure Ann where
  live : List (Nat × List Nat)

def assoc (l : List (Nat × List Nat)) (k : Nat) : Option (List Nat) := (l.find? fun p => p.1 == k).map (·.2)

def isE : DOp → Bool
  | .call .. | .app .. | .appF .. | .store .. | .take .. | .alloc .. | .box .. | .panic .. => true
  | _ => false

/-- what an operation reads -/
def dxs : DOp → List DX
  | .move x | .nilchk x | .un _ x | .conv _ x | .convId x | .convStr x | .mkif _ x | .faddr _ x | .fld _ _ _ x | .extract x _ | .len _ x | .panic x | .box x | .load _ _ x _ => [x]
  | .take x => [.t x]
  | .pick c a b => [c, a, b]
  | .build _ parts => parts.map (·.2.2)
  | .bslice _ _ _ parts => parts.map (·.2)
  | .store _ a x _ _ => [a, x]
  | .bin _ _ x y | .iaddr _ x y | .idx x y => [x, y]
  | .mkfn _ first caps => first ++ caps
  | .slc _ _ x lo hi mx => x :: (lo.toList ++ hi.toList ++ mx.toList)
  | .call f args => f :: args
  | .maxN x r | .minN x r => x :: r
  | .app src _ b s | .appF src _ b s => b :: s :: (match src with | some (_, x) => [.t x] | none => [])
  | .alloc _ | .nop => []

def slotsOf (l : List DX) : List Nat := l.filterMap fun | .t n => some n | .k _ => none

def reads (i : DIns) : List Nat := slotsOf (dxs i.op) ++ (match i.guard with | some (g, _) => [g] | none => [])

def names (i : DIns) : List Nat := i.dst.toList ++ reads i

def writes (i : DIns) (l : List Nat) : Bool := match i.dst with
  | some t => l.contains t
  | none => false

/-- two operations in the order in which they are run here: they are ordered by the edges, or may change places -/
def pairOk (must : Nat → Nat → Bool) (a b : DIns) : Bool :=
  must a.ix b.ix || (
    !writes a (names b) && !writes b (names a) &&
    !(isE a.op && isE b.op) &&
    (match a.op, b.op with
      | .load _ _ _ (some r), .store _ _ _ _ (some r') => !(r == r')
      | .load _ _ _ none, .store .. => false
      | .call .., _ | .panic .., _ => false
      | _, _ => true))

def others (l : List DIns) (p : Nat) (f : Nat → DIns → Bool) : Bool := l.zipIdx.all fun x => x.2 == p || f x.2 x.1

/-- the base of an append was read where it says -/
def srcOk (l : List DIns) (p : Nat) (src : Option (Bool × Nat)) (base : DX) : Bool :=
  match src, base with
  | none, _ => true
  | some (true, x), .t b => l.zipIdx.any fun y => decide (y.2 < p) && (match y.1.op with | .move (.t x') => x' == x | _ => false) && y.1.dst == some b && y.1.guard.isNone &&
      others l y.2 fun r i => !writes i [b] && (!writes i [x] || decide (p < r))
  | some (false, ta), .t b => !(b == ta) && l.zipIdx.any fun y => decide (y.2 < p) && (match y.1.op with | .load false 1 (.t x') _ => x' == ta | _ => false) && y.1.dst == some b && y.1.guard.isNone &&
      others l y.2 fun r i => !writes i [b] && (!writes i [ta] || decide (r < y.2))
  | _, _ => false

def appOk (l : List DIns) : Bool := l.zipIdx.all fun y => match y.1.op with
  | .app src _ base _ | .appF src _ base _ => srcOk l y.2 src base
  | _ => true

def allPairs (f : DIns → DIns → Bool) : List DIns → Bool
  | [] => true
  | a :: r => r.all (f a) && allPairs f r

/-- an order of a region's operations that its edges allow: what neither writes nor calls comes as early as it can -/
def autoOrder (e : Nat → Bool) (bf : Array Nat) (n : Nat) : Nat → List Nat → List Nat
  | 0, done => done
  | k + 1, done =>
    let ready := (List.range n).filter fun i => !done.contains i && (List.range n).all fun j => !(bf.getD i 0).testBit j || done.contains j
    match ready.find? (fun i => !e i) with
    | some i => autoOrder e bf n k (done ++ [i])
    | none => match ready with
      | i :: _ => autoOrder e bf n k (done ++ [i])
      | [] => done

def isEop : Op → Bool
  | .call { callee := .builtin .len, .. } | .call { callee := .builtin .max, .. } | .call { callee := .builtin .min, .. } => false
  | .call _ | .store .. | .alloc _ | .box .. | .panic _ => true
  | _ => false

/-- what binds stands before -/
def edgesOk (ops : List Oper) : Bool := ops.zipIdx.all fun x => x.1.after.toList.all fun e => !Region.binds .any e || Nat.blt e.on x.2

def bits (bf : Array Nat) (i j : Nat) : Bool := (bf.getD j 0).testBit i

def orderOf (ops : List Oper) (bf : Array Nat) (draw : Bool) : List Nat :=
  if draw then autoOrder (fun i => match opAt ops i with | some o => isEop o | none => true) bf ops.length ops.length [] else List.range ops.length

def regionOk (ops : List Oper) (bf : Array Nat) (order : List Nat) (ins : List DIns) : Bool :=
  order.length == ops.length && (List.range ops.length).all (order.contains ·) && edgesOk ops && allPairs (fun a b => !(a.ix == b.ix)) ins && allPairs (pairOk (bits bf)) ins

def compRegion (P : Program) (ann : Ann) (id : Nat) (opsA : Array Oper) (draw : Bool) : Option DCode :=
  match compIns P opsA.toList (orderOf opsA.toList (Region.before opsA) draw) with
  | none => none
  | some ins =>
    if (!draw || regionOk opsA.toList (Region.before opsA) (orderOf opsA.toList (Region.before opsA) draw) ins) && appOk ins
    then some (.region ins (assoc ann.live id) ((protOf draw ins).foldl addNew (appRoots opsA.toList ins)) draw) else none

def compCode (P : Program) (ann : Ann) : Code → Option DCode
  | .skip => some .skip
  | .seq a b => match compCode P ann a, compCode P ann b with
    | some x, some y => some (.seq x y)
    | _, _ => none
  | .cond c a b => match opd c, compCode P ann a, compCode P ann b with
    | some d, some x, some y => some (.cond d x y)
    | _, _, _ => none
  | .block id a => (compCode P ann a).map (.block id)
  | .loop a => (compCode P ann a).map .loop
  | .exit id => some (.exit id)
  | .ret => some .ret
  | .region id ops draw => compRegion P ann id ops draw
  | _ => none

def compRes (P : Program) : List ResultVar → Option (List DRes)
  | [] => some []
  | .tmp t :: r => (compRes P r).map (.tmp t :: ·)
  | .cell a t :: r => match szOf P t, aggO P t, compRes P r with
    | some n, some ag, some l => if ag || n == 1 then some (.cell ag n a :: l) else none
    | _, _, _ => none

/-- what code writes -/
def codeW (W : Nat → Bool) : DCode → Bool
  | .seq a b | .cond _ a b => codeW W a && codeW W b
  | .block _ a | .loop a => codeW W a
  | .region ins _ _ _ => ins.all fun i => match i.dst with
    | some t => W t
    | none => true
  | _ => true

/-- what is taken here -/
def simple : DOp → Bool
  | .convStr _ | .nop | .appF .. => false
  | _ => true

def codeOk (n : Nat) : DCode → Bool
  | .seq a b | .cond _ a b => codeOk n a && codeOk n b
  | .block _ a | .loop a => codeOk n a
  | .region ins _ _ _ => ins.all fun i => simple i.op && (match i.dst with
    | some t => Nat.blt t n
    | none => true)
  | _ => true

def compFn (P : Program) (ann : Ann) (keep : Bool) (fn : Func) : Option DFn :=
  match fn.body with
  | some c => match compCode P ann c, compRes P fn.results.toList with
    | some d, some rs => if codeOk fn.ntmps d && Nat.ble fn.params.size fn.ntmps then some (.code d rs keep) else none
    | _, _ => none
  | none => none

end Go.Zd
namespace Go.Zd

inductive BT where
  | leaf
  | node (k : Nat) (d : DFn) (l r : BT)

noncomputable def BT.get (t : BT) : Nat → Option DFn :=
  BT.rec (motive := fun _ => Nat → Option DFn) (fun _ => none) (fun k d _ _ ihl ihr f => Bool.rec (motive := fun _ => Option DFn) (Bool.rec (motive := fun _ => Option DFn) (ihr f) (ihl f) (Nat.blt f k)) (some d) (Nat.beq f k)) t

def BT.All (p : Nat → DFn → Prop) : BT → Prop
  | .leaf => True
  | .node k d l r => p k d ∧ BT.All p l ∧ BT.All p r

theorem BT.get_all {p : Nat → DFn → Prop} {f : Nat} {d : DFn} : ∀ {t : BT}, t.get f = some d → t.All p → p f d
  | .leaf, h, _ => by cases h
  | .node k e l r, h, ⟨h1, h2, h3⟩ => by
    have h : Bool.rec (motive := fun _ => Option DFn) (Bool.rec (motive := fun _ => Option DFn) (r.get f) (l.get f) (Nat.blt f k)) (some e) (Nat.beq f k) = some d := h
    cases hb : Nat.beq f k
    · rw [hb] at h
      cases hl : Nat.blt f k
      · rw [hl] at h; exact BT.get_all h h3
      · rw [hl] at h; exact BT.get_all h h2
    · rw [hb] at h
      cases h
      obtain rfl := Nat.eq_of_beq_eq_true hb
      exact h1

end Go.Zd
namespace Go.Zd

def isDefer : Code → Bool
  | .region _ ops false => ops.toList.any fun o => match o.op with
    | .defer _ => true
    | _ => false
  | _ => false

/-- the codes before the deferred call, and the code behind it -/
def splitRun : Code → Option (List Code × Code)
  | .seq a b => if isDefer a then some ([], b) else match splitRun b with
    | some (l, p) => some (a :: l, p)
    | none => none
  | _ => none

def compCodes (P : Program) (ann : Ann) : List Code → Option (List DCode)
  | [] => some []
  | c :: r => match compCode P ann c, compCodes P ann r with
    | some d, some l => some (d :: l)
    | _, _ => none

def compRun (P : Program) (ann annH : Ann) (fn fnH : Func) (c0 c1 c2 c3 failTy : Nat) : Option DFn :=
  match fn.body, fnH.body with
  | some b, some (.seq _ hc) => match splitRun b with
    | some (l, p) => match compCodes P ann l, compCode P ann p, compCode P annH hc, compRes P fn.results.toList with
      | some pre, some post, some hnd, some res => some (.runp pre post hnd res c0 c1 c2 c3 failTy)
      | _, _, _, _ => none
    | none => none
  | _, _ => none

end Go.Zd
namespace Go.Zd

theorem clean1_clean1 (d : DV) : d.clean1.clean1 = d.clean1 := by
  cases d <;> try rfl
  rename_i fl _ _
  cases fl <;> rfl

theorem Keeps.refl (PR : List Nat) (H : List (List DV)) : Keeps PR H H := ⟨Nat.le_refl _, fun _ _ _ => rfl⟩
theorem Keeps.trans {PR : List Nat} {H H1 H2 : List (List DV)} (h : Keeps PR H H1) (h' : Keeps PR H1 H2) : Keeps PR H H2 :=
  ⟨Nat.le_trans h.1 h'.1, fun b hb hn => (h'.2 b hb (Nat.lt_of_lt_of_le hn h.1)).trans (h.2 b hb hn)⟩
theorem Keeps.mono {PR PR' : List Nat} {H H' : List (List DV)} (h : Keeps PR H H') (hp : ∀ b ∈ PR', b ∈ PR) : Keeps PR' H H' := ⟨h.1, fun b hb => h.2 b (hp b hb)⟩

theorem keeps_push (PR : List Nat) (H : List (List DV)) (z : List DV) : Keeps PR H (H ++ [z]) :=
  ⟨by simp, fun b _ hn => by rw [List.getElem?_append_left hn]⟩

theorem keeps_trunc {PR : List Nat} {keep : Bool} {H H' : List (List DV)} (h : Keeps PR H H') : Keeps PR H (trunc keep H.length H') := by
  unfold trunc
  split
  · exact h
  · refine ⟨by simp [h.1], fun b hb hn => ?_⟩
    rw [List.getElem?_take_of_lt hn]
    exact h.2 b hb hn

theorem protects_mem {PR : List Nat} {L : List (Nat × Nat)} {b : Nat} (h : protects PR L b = false) : b ∉ PR ∧ ∀ e ∈ L, e.2 ≠ b := by
  unfold protects at h
  simp only [Bool.or_eq_false_iff, List.any_eq_false] at h
  refine ⟨fun hb => ?_, fun e he hb => ?_⟩
  · exact h.1 b hb (by simp)
  · exact h.2 e he (by simp [hb])

theorem storeDV_keeps {PR : List Nat} {b o n : Nat} {vs : List DV} {H H' : List (List DV)} (h : storeDV H b o n vs = some H') (hb : b ∉ PR) : Keeps PR H H' := by
  unfold storeDV at h
  split at h
  · split at h
    · cases h
      refine ⟨by simp, fun b' hb' hn => ?_⟩
      have : b ≠ b' := by rintro rfl; exact hb hb'
      rw [List.getElem?_set_ne this]
    · cases h
  · cases h

theorem set_clean_keeps (PR : List Nat) {blk o : Nat} {cs : List DV} {v : DV} {H : List (List DV)} (hb : H[blk]? = some cs) (hv : cs[o]? = some v) : Keeps PR H (H.set blk (cs.set o v.clean)) := by
  refine ⟨by simp, fun b _ hn => ?_⟩
  by_cases h : blk = b
  · subst h
    rw [List.getElem?_set_self hn, hb]
    simp only [cl, Option.map_some, Option.some.injEq]
    rw [List.map_set]
    have : (cs.map DV.clean1)[o]? = some v.clean.clean1 := by rw [List.getElem?_map, hv]; simp [clean1_clean1]
    rw [show List.map DV.clean1 cs = (List.map DV.clean1 cs).set o v.clean.clean1 from ?_]
    · simp
    · obtain ⟨h1, h2⟩ := List.getElem?_eq_some_iff.1 this
      rw [← h2, List.set_getElem_self]
  · rw [List.getElem?_set_ne h]

theorem consumeSrc_keeps {PR : List Nat} {st st' : St} {L : List (Nat × Nat)} {src : Option (Bool × Nat)} (h : consumeSrc st L src = some st') : Keeps PR st.H st'.H := by
  unfold consumeSrc at h
  split at h
  · split at h
    · cases h; exact .refl _ _
    · cases h
  · split at h
    · split at h
      · rename_i hb
        split at h
        · rename_i hv
          split at h
          · cases h; exact set_clean_keeps _ hb hv
          · cases h
        · cases h
      · cases h
    · cases h
  · cases h

theorem consume_keeps {PR : List Nat} {st st' : St} {L : List (Nat × Nat)} {src : Option (Bool × Nat)} {base : DX} {bv : DV} (h : consume st L src base bv = some st') : Keeps PR st.H st'.H := by
  unfold consume at h
  split at h
  · cases h; exact .refl _ _
  · cases h; exact .refl _ _
  · split at h
    · cases h; exact .refl _ _
    · cases h
  · exact consumeSrc_keeps h
  · cases h

theorem appDV_keeps {PR : List Nat} {st st' : St} {L : List (Nat × Nat)} {src : Option (Bool × Nat)} {wd : Nat} {base : DX} {sv v : DV} (h : appDV st L src wd base sv = some (v, st')) : Keeps PR st.H st'.H := by
  unfold appDV at h
  split at h
  · split at h
    · cases h
    · split at h
      · cases h; exact .refl _ _
      · split at h
        · rename_i hc; cases h; exact consume_keeps hc
        · cases h
  · cases h

theorem setDst_H (st : St) (d : Option Nat) (v : DV) : (setDst st d v).H = st.H := by cases d <;> rfl

theorem lift_sub {L : List (Nat × Nat)} {r : Option Nat} {e : Nat × Nat} (h : e ∈ lift L r) : e ∈ L := by
  cases r with
  | none => exact h
  | some r => exact (List.mem_filter.1 h).1

variable {F : Nat → Option DFn}

def RecKeeps (rec : Rec) : Prop := ∀ PR c st ex st', rec PR c st = some (ex, st') → Keeps PR st.H st'.H

theorem outOf_keeps {PR : List Nat} {keep : Bool} {H H' H'' : List (List DV)} {v : DV} {mk : DV → Out} {o : Out} (hk : Keeps PR H H') (h : outOf keep H.length H' v mk = some (o, H'')) : Keeps PR H H'' := by
  unfold outOf at h
  split at h
  · cases h; exact keeps_trunc hk
  · cases h

theorem handle_keeps {rec : Rec} (hr : RecKeeps rec) {PR : List Nat} {hnd : DCode} {res : List DRes} {c0 c1 c2 : Nat} {tm : List (Nat × DV)} {H H1 H' : List (List DV)} {fc : List DV} {ok : Bool} {o : Out} (hk : Keeps PR H H1)
    (h : handle rec PR hnd res c0 c1 c2 H.length tm H1 fc ok = some (o, H')) : Keeps PR H H' := by
  unfold handle at h
  split at h
  · rename_i hx
    split at h
    · exact outOf_keeps ((hk.trans (keeps_push _ _ _)).trans (hr _ _ _ _ _ hx)) h
    · cases h
  · cases h

theorem runL_keeps {rec : Rec} (hr : RecKeeps rec) {PR : List Nat} : ∀ {l : List DCode} {st st' : St} {ex : Ex}, runL rec PR l st = some (ex, st') → Keeps PR st.H st'.H
  | [], st, st', ex, h => by cases h; exact .refl _ _
  | d :: r, st, st', ex, h => by
    unfold runL at h
    split at h
    · rename_i hx
      exact (hr _ _ _ _ _ hx).trans (runL_keeps hr h)
    · exact hr _ _ _ _ _ h

theorem callF_keeps {rec : Rec} (hr : RecKeeps rec) {PR : List Nat} {f : Nat} {args : List DV} {H H' : List (List DV)} {o : Out} (h : callF F rec PR f args H = some (o, H')) : Keeps PR H H' := by
  unfold callF at h
  split at h
  · split at h
    · rename_i hx; exact outOf_keeps (hr _ _ _ _ _ hx) h
    · cases h
    · rename_i hx
      split at h
      · exact outOf_keeps (hr _ _ _ _ _ hx) h
      · cases h
    · cases h
  · rename_i s _
    exact s.keeps h
  · split at h
    · cases h; exact .refl _ _
    · cases h
  · unfold runD at h
    split at h
    · rename_i hx
      split at h
      · exact outOf_keeps (runL_keeps hr hx) h
      · cases h
    · rename_i hx
      split at h
      · rename_i hx2
        have hk2 := hr _ _ _ _ _ hx2
        have hk := (runL_keeps hr hx).trans hk2
        unfold settleD at h
        split at h
        · exact handle_keeps hr hk h
        · split at h
          · exact handle_keeps hr hk h
          · cases h
        · cases h
      · cases h
    · cases h
  · cases h

theorem storeTo_keeps {st st' : St} {PR : List Nat} {L : List (Nat × Nat)} {n : Nat} {x : DX} {tk : Option Nat} {d : DV} (h : storeTo st PR L n x tk d = some st') : Keeps (PR ++ L.map (·.2)) st.H st'.H := by
  unfold storeTo at h
  split at h
  · split at h
    · cases h
    · rename_i b o hpr
      have hb := protects_mem (by simpa using hpr)
      have hnot : b ∉ PR ++ L.map (·.2) := by
        intro hm
        rcases List.mem_append.1 hm with h | h
        · exact hb.1 h
        · obtain ⟨e, he, e2⟩ := List.mem_map.1 h
          exact hb.2 e he e2
      split at h
      · split at h
        · rename_i hs; cases h; exact storeDV_keeps hs hnot
        · cases h
      · split at h
        · rename_i hs; cases h; exact storeDV_keeps hs hnot
        · cases h
  · cases h

theorem callOp_keeps {rec : Rec} (hr : RecKeeps rec) {PR : List Nat} {s : RSt} {args : List DX} {d : DV} {o : Out} {H' : List (List DV)} (h : callOp F rec PR s args d = some (o, H')) : Keeps (PR ++ s.L.map (·.2)) s.st.H H' := by
  unfold callOp at h
  split at h
  · exact callF_keeps hr h
  · cases h

theorem opDV_keeps {rec : Rec} (hr : RecKeeps rec) {PR : List Nat} {draw : Bool} {s s' : RSt} {i : DIns} {x : Option DV} (h : opDV F rec PR draw s i = some (x, s')) :
    Keeps (PR ++ s'.L.map (·.2)) s.st.H s'.st.H ∧ (∀ e ∈ s'.L, e ∈ s.L) := by
  unfold opDV at h
  split at h
  · cases h; exact ⟨by simp only [setDst_H]; exact .refl _ _, fun _ h => h⟩
  · cases h; exact ⟨by simp only [setDst_H]; exact keeps_push _ _ _, fun _ h => h⟩
  · split at h
    · cases h; exact ⟨by simp only [setDst_H]; exact keeps_push _ _ _, fun _ h => h⟩
    · cases h
  · split at h
    · cases h; exact ⟨by simp only [putV, setDst_H]; exact .refl _ _, fun _ h => h⟩
    · cases h
  · split at h
    · rename_i hs; cases h; exact ⟨by simp only [setDst_H]; exact storeTo_keeps hs, fun _ h => lift_sub h⟩
    · cases h
  · split at h
    · rename_i hc; cases h; exact ⟨by simp only [setDst_H]; exact callOp_keeps hr hc, fun _ h => h⟩
    · rename_i hc; cases h; exact ⟨callOp_keeps hr hc, fun _ h => h⟩
    · cases h
  · split at h
    · rename_i hc; cases h; exact ⟨by simp only [setDst_H]; exact appDV_keeps hc, fun _ h => h⟩
    · cases h
  · split at h
    · rename_i hc; cases h; exact ⟨by simp only [setDst_H]; exact appDV_keeps hc, fun _ h => h⟩
    · cases h
  · cases h; exact ⟨by simp only [putV, setDst_H]; exact .refl _ _, fun _ h => h⟩
  · split at h
    · cases h; exact ⟨.refl _ _, fun _ h => h⟩
    · cases h
  · split at h
    · cases h; exact ⟨by simp only [putV, setDst_H]; exact .refl _ _, fun _ h => h⟩
    · cases h

theorem stepIns_keeps {rec : Rec} (hr : RecKeeps rec) {PR : List Nat} {draw : Bool} {s s' : RSt} {i : DIns} {x : Option DV} (h : stepIns F rec PR draw i s = some (x, s')) :
    Keeps (PR ++ s'.L.map (·.2)) s.st.H s'.st.H ∧ (∀ e ∈ s'.L, e ∈ s.L) := by
  unfold stepIns at h
  split at h
  · exact opDV_keeps hr h
  · split at h
    · rename_i b _
      cases hb : (b == _) <;> rw [hb] at h
      · cases h; exact ⟨by simp only [setDst_H]; exact .refl _ _, fun _ h => h⟩
      · exact opDV_keeps hr h
    · cases h; exact ⟨by simp only [setDst_H]; exact .refl _ _, fun _ h => h⟩
    · cases h

theorem runIns_keeps {rec : Rec} (hr : RecKeeps rec) {PR : List Nat} {draw : Bool} : ∀ (ins : List DIns) {s s' : RSt} {x : Option DV}, runIns F rec PR draw ins s = some (x, s') → Keeps PR s.st.H s'.st.H
  | [], s, s', x, h => by cases h; exact .refl _ _
  | i :: r, s, s', x, h => by
    unfold runIns at h
    split at h
    · rename_i hs
      exact ((stepIns_keeps hr hs).1.mono (fun b hb => List.mem_append_left _ hb)).trans (runIns_keeps hr r h)
    · exact (stepIns_keeps hr h).1.mono (fun b hb => List.mem_append_left _ hb)

theorem execB_keeps {rec : Rec} (hr : RecKeeps rec) {PR : List Nat} : ∀ (c : DCode) {st st' : St} {ex : Ex}, execB F rec PR c st = some (ex, st') → Keeps PR st.H st'.H := by
  intro c
  induction c with
  | skip => intro st st' ex h; cases h; exact .refl _ _
  | seq a b iha ihb =>
    intro st st' ex h
    simp only [execB] at h
    split at h
    · rename_i ha; exact (iha ha).trans (ihb h)
    · exact iha h
  | cond x a b iha ihb =>
    intro st st' ex h
    simp only [execB] at h
    split at h
    · exact iha h
    · exact ihb h
    · cases h
  | block id a ih =>
    intro st st' ex h
    simp only [execB] at h
    split at h
    · rename_i ha
      rename_i i _
      cases hb : Nat.beq i id <;> rw [hb] at h <;> cases h <;> exact ih ha
    · exact ih h
  | loop a ih =>
    intro st st' ex h
    simp only [execB] at h
    split at h
    · rename_i ha; exact (ih ha).trans (hr _ _ _ _ _ h)
    · exact ih h
  | exit id => intro st st' ex h; cases h; exact .refl _ _
  | ret => intro st st' ex h; cases h; exact .refl _ _
  | region ins live prot draw =>
    intro st st' ex h
    simp only [execB] at h
    split at h
    · cases h
    · split at h
      · rename_i hi; cases h; exact runIns_keeps hr _ hi
      · rename_i hi; cases h; exact runIns_keeps hr _ hi
      · cases h

theorem exec_keeps : ∀ k, RecKeeps (exec F k)
  | 0 => fun _ _ _ _ _ h => by cases h
  | k + 1 => fun PR c st ex st' h => execB_keeps (exec_keeps k) c h


/-! ## slots -/

theorem look_set_self (tm : List (Nat × DV)) (t : Nat) (v : DV) : look ((t, v) :: tm) t = v := by simp [look]
theorem look_set_ne (tm : List (Nat × DV)) {t u : Nat} (v : DV) (h : u ≠ t) : look ((u, v) :: tm) t = look tm t := by
  have : Nat.beq u t = false := by
    cases hb : Nat.beq u t with
    | false => rfl
    | true => exact absurd (Nat.eq_of_beq_eq_true hb) h
  simp [look, this]

theorem look_unown (tm : List (Nat × DV)) (x t : Nat) : (look (unown tm x) t).clean = (look tm t).clean := by
  unfold unown
  by_cases h : x = t
  · subst h; rw [look_set_self]; exact clean1_clean1 _
  · rw [look_set_ne _ _ h]

theorem look_setDst {st : St} {d : Option Nat} {v : DV} {t : Nat} (h : d ≠ some t) : look (setDst st d v).tm t = look st.tm t := by
  cases d with
  | none => rfl
  | some u => exact look_set_ne _ _ (fun e => h (by rw [e]))

theorem look_setDst_self {st : St} {t : Nat} {v : DV} : look (setDst st (some t) v).tm t = v := look_set_self _ _ _

theorem consume_slots {st st' : St} {L : List (Nat × Nat)} {src : Option (Bool × Nat)} {base : DX} {bv : DV} (h : consume st L src base bv = some st') (t : Nat) : (look st'.tm t).clean = (look st.tm t).clean := by
  unfold consume at h
  split at h
  · cases h; rfl
  · cases h; rfl
  · split at h
    · cases h; exact look_unown _ _ _
    · cases h
  · unfold consumeSrc at h
    split at h
    · split at h
      · cases h; exact look_unown _ _ _
      · cases h
    · split at h
      · split at h
        · split at h
          · split at h
            · cases h; rfl
            · cases h
          · cases h
        · cases h
      · cases h
    · cases h
  · cases h

theorem appDV_slots {st st' : St} {L : List (Nat × Nat)} {src : Option (Bool × Nat)} {wd : Nat} {base : DX} {sv v : DV} (h : appDV st L src wd base sv = some (v, st')) (t : Nat) : (look st'.tm t).clean = (look st.tm t).clean := by
  unfold appDV at h
  split at h
  · split at h
    · cases h
    · split at h
      · cases h; rfl
      · split at h
        · rename_i hc; cases h; exact consume_slots hc t
        · cases h
  · cases h

theorem storeTo_slots {st st' : St} {PR : List Nat} {L : List (Nat × Nat)} {n : Nat} {x : DX} {tk : Option Nat} {d : DV} (h : storeTo st PR L n x tk d = some st') (t : Nat) : (look st'.tm t).clean = (look st.tm t).clean := by
  unfold storeTo at h
  split at h
  · split at h
    · cases h
    · split at h
      · split at h
        · cases h; exact look_unown _ _ _
        · cases h
      · split at h
        · cases h; rfl
        · cases h
  · cases h

theorem opDV_slots {rec : Rec} {PR : List Nat} {draw : Bool} {s s' : RSt} {i : DIns} (h : opDV F rec PR draw s i = some (none, s')) {t : Nat} (ht : i.dst ≠ some t) :
    (look s'.st.tm t).clean = (look s.st.tm t).clean := by
  unfold opDV at h
  split at h
  · cases h; rw [look_setDst ht]; exact look_unown _ _ _
  · cases h; rw [look_setDst ht]
  · split at h
    · cases h; rw [look_setDst ht]
    · cases h
  · split at h
    · cases h; simp only [putV]; rw [look_setDst ht]
    · cases h
  · split at h
    · rename_i hs; cases h; rw [look_setDst ht]; exact storeTo_slots hs t
    · cases h
  · split at h
    · cases h; rw [look_setDst ht]
    · cases h
    · cases h
  · split at h
    · rename_i hc; cases h; rw [look_setDst ht]; exact appDV_slots hc t
    · cases h
  · split at h
    · rename_i hc; cases h; rw [look_setDst ht]; exact appDV_slots hc t
    · cases h
  · cases h; simp only [putV]; rw [look_setDst ht]
  · split at h
    · cases h
    · cases h
  · split at h
    · cases h; simp only [putV]; rw [look_setDst ht]
    · cases h

theorem stepIns_slots {rec : Rec} {PR : List Nat} {draw : Bool} {s s' : RSt} {i : DIns} (h : stepIns F rec PR draw i s = some (none, s')) {t : Nat} (ht : i.dst ≠ some t) :
    (look s'.st.tm t).clean = (look s.st.tm t).clean := by
  unfold stepIns at h
  split at h
  · exact opDV_slots h ht
  · split at h
    · rename_i b _
      cases hb : (b == _) <;> rw [hb] at h
      · cases h; simp only []; rw [look_setDst ht]
      · exact opDV_slots h ht
    · cases h; simp only []; rw [look_setDst ht]
    · cases h


/-! ## what does not own -/

theorem isOwn_clean (d : DV) : isOwn d.clean1 = false := by
  cases d <;> try rfl
  rename_i fl _ _
  cases fl <;> rfl

theorem isOwn_rdc (tm : List (Nat × DV)) (x : DX) : isOwn (rdc tm x) = false := by
  cases x <;> exact isOwn_clean _

theorem mkCells_own {ag : Bool} {cs : List DV} {v : DV} (h : mkCells ag (cs.map DV.clean1) = some v) : isOwn v = false := by
  unfold mkCells at h
  split at h
  · cases h; rfl
  · split at h
    · rename_i u hu
      cases h
      cases cs with
      | nil => cases hu
      | cons c cs =>
        simp only [List.map_cons, List.cons.injEq] at hu
        rw [← hu.1]; exact isOwn_clean _
    · cases h

theorem loadDV_own {H : List (List DV)} {ag : Bool} {n : Nat} {d v : DV} (h : loadDV H ag n d = some v) : isOwn v = false := by
  unfold loadDV at h
  split at h
  · split at h
    · split at h
      · exact mkCells_own h
      · cases h
    · cases h
  · split at h
    · exact mkCells_own h
    · cases h
  · cases h

theorem intOp_own {op : BinOp} {k : IntKind} {a b : Int} {v : DV} (h : intOp op k a b = some v) : isOwn v = false := by
  unfold intOp at h
  split at h
  all_goals first
    | (cases h; rfl)
    | (split at h <;> cases h; rfl)
    | cases h

theorem binDV_own {ty : Nat} {op : BinOp} {x y v : DV} (h : binDV ty op x y = some v) : isOwn v = false := by
  unfold binDV at h
  split at h
  all_goals first
    | (cases h; done)
    | skip
  · split at h
    · unfold shiftOp at h; split at h <;> cases h; rfl
    · unfold shiftOp at h; split at h <;> cases h; rfl
    · split at h
      · exact intOp_own h
      · cases h
  · unfold boolOp at h; split at h <;> cases h <;> rfl
  · unfold strOp at h
    split at h
    all_goals first
      | (cases h; rfl)
      | (split at h <;> cases h; rfl)
      | cases h
  all_goals
    unfold nilOp at h
    split at h <;> cases h <;> rfl

theorem foldDV_own {f : DV → DV → Option DV} (hf : ∀ a b c, f a b = some c → isOwn c = false) {tm : List (Nat × DV)} : ∀ {xs : List DX} {v w : DV}, isOwn v = false → foldDV f tm v xs = some w → isOwn w = false
  | [], v, w, hv, h => by cases h; exact hv
  | x :: r, v, w, _, h => by
    simp only [foldDV] at h
    split at h
    · rename_i hc; exact foldDV_own hf (hf _ _ _ hc) h
    · cases h

theorem pureOp_own {tm : List (Nat × DV)} {d : DOp} {v : DV} (h : pureOp tm d = some v) : isOwn v = false := by
  unfold pureOp at h
  split at h
  · cases h; exact isOwn_rdc _ _
  · split at h
    · cases h; exact isOwn_rdc _ _
    · cases h; exact isOwn_rdc _ _
    · cases h
  · split at h <;> cases h; rfl
  · split at h <;> cases h; rfl
  · split at h <;> cases h <;> rfl
  · exact binDV_own h
  · unfold unDV at h; split at h <;> cases h <;> rfl
  · split at h <;> cases h; rfl
  · split at h <;> cases h; rfl
  · split at h
    · split at h <;> cases h; rfl
    · cases h
  · cases h; rfl
  · cases h; rfl
  · unfold slcDV at h
    split at h
    · split at h
      · split at h <;> cases h; rfl
      · cases h
    · split at h <;> cases h; rfl
    · split at h
      · cases h
      · split at h
        · split at h <;> cases h; rfl
        · split at h <;> cases h; rfl
        · cases h
    · cases h
  · split at h
    · cases h; rfl
    · split at h <;> cases h; rfl
    · cases h
  · split at h
    · split at h
      · exact mkCells_own h
      · cases h
    · cases h
  · split at h
    · split at h
      · split at h
        · split at h <;> cases h; rfl
        · cases h
      · cases h
    · cases h
  · split at h
    · split at h
      · split at h <;> cases h; rfl
      · cases h
    · cases h
  · split at h
    · split at h
      · cases h; exact isOwn_clean _
      · cases h
    · cases h
  · split at h <;> cases h <;> rfl
  · exact foldDV_own (fun a b c h => by unfold maxDV at h; split at h <;> (first | (split at h <;> cases h; rfl) | cases h)) (isOwn_rdc _ _) h
  · exact foldDV_own (fun a b c h => by unfold minDV at h; split at h <;> (first | (split at h <;> cases h; rfl) | cases h)) (isOwn_rdc _ _) h
  · cases h

/-- an operation that neither writes nor calls: it sets its slot, to something that does not own -/
theorem opDV_quiet {rec : Rec} {PR : List Nat} {draw : Bool} {s s' : RSt} {i : DIns} {x : Option DV} (hE : isE i.op = false) (h : opDV F rec PR draw s i = some (x, s')) :
    x = none ∧ ∃ v, isOwn v = false ∧ s' = putV s i.dst v := by
  unfold opDV at h
  split at h
  all_goals first
    | (rename_i ho; rw [ho] at hE; cases hE; done)
    | skip
  · split at h
    · rename_i hl
      cases h
      refine ⟨rfl, _, ?_, rfl⟩
      unfold loadOp at hl
      split at hl
      · cases hl
      · exact loadDV_own hl
    · cases h
  · cases h; exact ⟨rfl, .undef, rfl, rfl⟩
  · split at h
    · rename_i hp; cases h; exact ⟨rfl, _, pureOp_own hp, rfl⟩
    · cases h

theorem stepIns_quiet {rec : Rec} {PR : List Nat} {draw : Bool} {s s' : RSt} {i : DIns} {x : Option DV} (hE : isE i.op = false) (h : stepIns F rec PR draw i s = some (x, s')) :
    x = none ∧ ∃ v, isOwn v = false ∧ s' = putV s i.dst v := by
  unfold stepIns at h
  split at h
  · exact opDV_quiet hE h
  · split at h
    · rename_i b _
      cases hb : (b == _) <;> rw [hb] at h
      · cases h; exact ⟨rfl, .tuple [], rfl, rfl⟩
      · exact opDV_quiet hE h
    · cases h; exact ⟨rfl, .tuple [], rfl, rfl⟩
    · cases h

end Go.Zd
namespace Go.Zd

/-- a table with specs ahead of it -/
def layer (sp : Nat → Option Spec) (F : Nat → Option DFn) (f : Nat) : Option DFn :=
  match sp f with
  | some s => some (.spec s)
  | none => F f

theorem callD_keeps {F : Nat → Option DFn} {k : Nat} {PR : List Nat} {f : Nat} {args : List DV} {H H' : List (List DV)} {o : Out} (h : callD F k PR f args H = some (o, H')) : Keeps PR H H' :=
  callF_keeps (exec_keeps k) h

/-- a spec out of what it says of the code -/
def mkSpec (F : Nat → Option DFn) (f : Nat) (run : List Nat → List DV → List (List DV) → Option (Out × List (List DV)))
    (h : ∀ PR args H r, run PR args H = some r → ∃ k, callD F k PR f args H = some r) : Spec :=
  ⟨run, fun {PR args H _ _} hr => let ⟨_, hk⟩ := h PR args H _ hr; callD_keeps hk⟩

end Go.Zd
