/- Texts put to one: AmA AmB AmC AmD AmE AmF AmG AmH AmI AmJ AmK AmL AmM AmN. -/
import GoSem.Core.Code
import GoSem.Op.String
import GoSem.Instr.Build
import GoSem.Core.Region
import GoSem.Op.Equal
import Derived.WalkKit
import Derived.Lib.ConvBytes
import Derived.Laws.MakeOwn
import Derived.Laws.IdiomCopy
import Derived.Deep.Upon

/- The abstract machine: values, heaps, compact code, and an interpreter with fuel. Nothing of a program is named here. -/
namespace Go.Am

/-- An abstract value. Addresses: an abstract block's number, and a cell in it. 'esl': an empty slice that is not nil, without capacity. -/
inductive AV where
  | int (k : IntKind) (n : Int)
  | bool (b : Bool)
  | str (s : List UInt8)
  | ptr (i o : Nat)
  | nilptr
  | sl (i o n : Nat)
  | nilsl
  | esl
  | map (i : Nat)
  | nilmap
  | fn (f : Nat) (first caps : List AV)
  | nilfn
  | iface (t : Nat) (v : AV)
  | nilif
  | agg (cs : List AV)
  | tup (vs : List AV)
  | junk
  deriving Inhabited

mutual
def AV.same : AV → AV → Bool
  | .int k n, .int k' n' => decide (k = k') && decide (n = n')
  | .bool b, .bool b' => b == b'
  | .str s, .str s' => decide (s = s')
  | .ptr i o, .ptr i' o' => decide (i = i') && decide (o = o')
  | .nilptr, .nilptr => true
  | .sl i o n, .sl i' o' n' => decide (i = i') && decide (o = o') && decide (n = n')
  | .nilsl, .nilsl => true
  | .esl, .esl => true
  | .map i, .map i' => decide (i = i')
  | .nilmap, .nilmap => true
  | .fn f a b, .fn f' a' b' => decide (f = f') && AV.sames a a' && AV.sames b b'
  | .nilfn, .nilfn => true
  | .iface t v, .iface t' v' => decide (t = t') && AV.same v v'
  | .nilif, .nilif => true
  | .agg cs, .agg cs' => AV.sames cs cs'
  | .tup cs, .tup cs' => AV.sames cs cs'
  | .junk, .junk => true
  | _, _ => false
def AV.sames : List AV → List AV → Bool
  | [], [] => true
  | a :: r, b :: s => AV.same a b && AV.sames r s
  | _, _ => false
end

/-- A value of one cell. -/
def AV.one : AV → Bool
  | .agg _ | .tup _ | .junk => false
  | _ => true

def AV.cells : AV → List AV
  | .agg cs => cs
  | v => [v]

def AV.isJunk : AV → Bool
  | .junk => true
  | _ => false

def AV.isStr : AV → Bool
  | .str _ => true
  | _ => false

/-- A block: 'sz' cells an element, may it be written; or a map. -/
inductive Blk where
  | cells (sz : Nat) (rw : Bool) (cs : List AV)
  | map (es : List (AV × AV))
  deriving Inhabited

abbrev AHeap := List (Option Blk)

def getB (H : AHeap) (i : Nat) : Option Blk := (H[i]?).join

/-- Cells of a list laid over others. -/
def splice (cs : List AV) (o : Nat) (vs : List AV) : List AV := cs.take o ++ vs ++ cs.drop (o + vs.length)

def loadA (H : AHeap) (i o n : Nat) : Option (List AV) :=
  match getB H i with
  | some (.cells _ _ cs) => if o + n ≤ cs.length then some ((cs.drop o).take n) else none
  | _ => none

def storeA (H : AHeap) (i o : Nat) (vs : List AV) : Option AHeap :=
  match getB H i with
  | some (.cells sz true cs) => if o + vs.length ≤ cs.length && vs.all AV.one then some (H.set i (some (.cells sz true (splice cs o vs)))) else none
  | _ => none

def fillA (cells : List AV) : List (Nat × Nat × AV) → Option (List AV)
  | [] => some cells
  | (off, size, v) :: r => if !v.isJunk && v.cells.length == size && decide (off + size ≤ cells.length) then fillA (splice cells off v.cells) r else none

/-- A value out of its cells. -/
def mkv (agg : Bool) (cs : List AV) : Option AV :=
  if agg then some (.agg cs) else match cs with
    | [c] => some c
    | _ => none

inductive Opd where
  | loc (k : Nat)
  | var (x : Nat)
  | const (v : AV)
  deriving Inhabited

/-- How two values are compared: the kinds of their leaves. -/
inductive EqK where
  | int | bool | str
  deriving DecidableEq, Inhabited

inductive NilK where
  | ptr | slice | map | func
  deriving DecidableEq, Inhabited

inductive AOp where
  | mov (x : Opd)
  | pick (c a b : Opd)
  | alloc (zero : List AV)
  | box (x : Opd)
  | build (zero : List AV) (parts : List (Nat × Nat × Opd))
  | mkslice (sz n : Nat) (zero : List AV) (parts : List (Nat × Nat × Opd))
  | load (n : Nat) (agg : Bool) (a : Opd)
  | store (n : Nat) (a v : Opd)
  | nilchk (x : Opd)
  | bin (op : BinOp) (x y : Opd)
  | eqs (neg : Bool) (ks : List EqK) (agg : Bool) (x y : Opd)
  | eqnil (neg : Bool) (k : NilK) (x y : Opd)
  | un (op : UnOp) (x : Opd)
  | conv (k : IntKind) (x : Opd)
  | str2str (x : Opd)
  | bytes2str (x : Opd)
  | str2bytes (x : Opd)
  | iface (t : Nat) (x : Opd)
  | func (f : Nat) (first caps : List Opd)
  | mkmap
  | lookup (kk : EqK) (zero : AV) (m k : Opd) (ok : Bool)
  | mapset (kk : EqK) (m k v : Opd)
  | make (sz bytes : Nat) (zero : List AV) (len cap : Opd)
  | slstr (x : Opd) (lo hi : Option Opd)
  | slsl (sz : Nat) (x : Opd) (lo hi mx : Option Opd)
  | faddr (off : Nat) (x : Opd)
  | field (off n : Nat) (agg : Bool) (x : Opd)
  | iaddr (sz : Nat) (x i : Opd)
  | iaddra (len sz : Nat) (x i : Opd)
  | istr (x i : Opd)
  | iarr (len sz : Nat) (agg : Bool) (x i : Opd)
  | extract (k : Nat) (x : Opd)
  | call (f : Nat) (xs : List Opd)
  | callv (f : Opd) (xs : List Opd)
  | lenS (x : Opd)
  | lenL (x : Opd)
  | lenM (x : Opd)
  | cap (x : Opd)
  | append (sz bytes : Nat) (str : Bool) (s x : Opd)
  | copy (sz : Nat) (d s : Opd)
  | clear (zero : List AV) (x : Opd)
  | minmax (mx : Bool) (x y : Opd)
  | delete (kk : EqK) (m k : Opd)
  /-- what is never come to (panic, defer) -/
  | stop
  deriving Inhabited

/-- The operands that an operation looks at. -/
def AOp.opds : AOp → List Opd
  | .mov x | .box x | .nilchk x | .un _ x | .conv _ x | .str2str x | .bytes2str x | .str2bytes x | .iface _ x | .faddr _ x | .field _ _ _ x
  | .extract _ x | .lenS x | .lenL x | .lenM x | .cap x | .clear _ x | .load _ _ x => [x]
  | .pick c a b => [c, a, b]
  | .alloc _ | .mkmap | .stop => []
  | .build _ ps | .mkslice _ _ _ ps => ps.map (·.2.2)
  | .store _ a v => [a, v]
  | .bin _ x y | .eqs _ _ _ x y | .eqnil _ _ x y | .iaddr _ x y | .iaddra _ _ x y | .istr x y | .iarr _ _ _ x y | .append _ _ _ x y | .copy _ x y | .minmax _ x y
  | .delete _ x y | .lookup _ _ x y _ | .make _ _ _ x y => [x, y]
  | .func _ a b => a ++ b
  | .mapset _ m k v => [m, k, v]
  | .slstr x l h => x :: (l.toList ++ h.toList)
  | .slsl _ x l h m => x :: (l.toList ++ h.toList ++ m.toList)
  | .call _ xs => xs
  | .callv f xs => f :: xs

structure AOper where
  op : AOp
  dst : Option Nat := none
  guard : Option (Nat × Bool) := none
  /-- of an operation with an effect: reads ahead of it that may come behind it -/
  aft : List Nat := []
  /-- of a read: operations with an effect ahead of it that may come behind it -/
  bef : List Nat := []
  deriving Inhabited

inductive ACode where
  | skip
  | region (ops : List AOper)
  | seq (a b : ACode)
  | cond (c : Opd) (a b : ACode)
  | block (id : Nat) (c : ACode)
  | loop (c : ACode)
  | exit (id : Nat)
  | ret
  deriving Inhabited

inductive ResA where
  | var (x : Nat)
  | cell (x n : Nat) (agg : Bool)
  deriving Inhabited

structure AFun where
  nargs : Nat
  /-- the slots that live on behind a region -/
  ps : List Nat
  res : List ResA
  body : ACode
  deriving Inhabited

inductive AExit where
  | normal
  | exit (id : Nat)
  | ret
  deriving DecidableEq, Inhabited

-- ---------------------------------------------------------------- operations
def aval (env vals : List AV) : Opd → Option AV
  | .loc k => vals[k]?
  | .var x => env[x]?
  | .const v => some v

def avals (env vals : List AV) : List Opd → Option (List AV)
  | [] => some []
  | x :: r => match aval env vals x, avals env vals r with
    | some a, some b => some (a :: b)
    | _, _ => none

def aparts (env vals : List AV) : List (Nat × Nat × Opd) → Option (List (Nat × Nat × AV))
  | [] => some []
  | (o, n, x) :: r => match aval env vals x, aparts env vals r with
    | some a, some b => some ((o, n, a) :: b)
    | _, _ => none

def aopt (env vals : List AV) : Option Opd → Option (Option AV)
  | none => some none
  | some x => match aval env vals x with
    | some v => some (some v)
    | none => none

def bitsA (op : BinOp) (k : IntKind) (x y : Int) : Option Int :=
  let a := BitVec.ofInt k.bits x
  let b := BitVec.ofInt k.bits y
  match op with
  | .and => some (k.wrap (a &&& b).toNat)
  | .or => some (k.wrap (a ||| b).toNat)
  | .xor => some (k.wrap (a ^^^ b).toNat)
  | .andNot => some (k.wrap (a &&& ~~~b).toNat)
  | _ => none

def binI (op : BinOp) (k : IntKind) (a b : Int) : Option AV :=
  match op with
  | .add => some (.int k (k.wrap (a + b)))
  | .sub => some (.int k (k.wrap (a - b)))
  | .mul => some (.int k (k.wrap (a * b)))
  | .quo => if b = 0 then none else some (.int k (k.wrap (a.tdiv b)))
  | .rem => if b = 0 then none else some (.int k (a.tmod b))
  | .eql => some (.bool (a == b))
  | .neq => some (.bool (a != b))
  | .lss => some (.bool (a < b))
  | .leq => some (.bool (a ≤ b))
  | .gtr => some (.bool (a > b))
  | .geq => some (.bool (a ≥ b))
  | op => match bitsA op k a b with
    | some n => some (.int k n)
    | none => none

def shiftI (op : BinOp) (k : IntKind) (a b : Int) : Option AV :=
  if b < 0 then none else
  match op with
  | .shl => some (.int k (k.wrap (a * 2 ^ (min b.toNat k.bits))))
  | .shr => some (.int k (a.fdiv (2 ^ (min b.toNat k.bits))))
  | _ => none

def binS (op : BinOp) (x y : List UInt8) : Option AV :=
  match op with
  | .add => if x.length + y.length ≤ 1152921504606846976 then some (.str (x ++ y)) else none
  | .eql => some (.bool (x == y))
  | .neq => some (.bool (!(x == y)))
  | .lss => some (.bool (Go.Op.bytesLess x y))
  | .leq => some (.bool (Go.Op.bytesLess x y || x == y))
  | .gtr => some (.bool (!(Go.Op.bytesLess x y || x == y)))
  | .geq => some (.bool (!(Go.Op.bytesLess x y)))
  | _ => none

def isShift : BinOp → Bool
  | .shl | .shr => true
  | _ => false

def binA (op : BinOp) : AV → AV → Option AV
  | .int k a, .int k' b => if isShift op then shiftI op k a b else if k = k' then binI op k a b else none
  | .str x, .str y => binS op x y
  | _, _ => none

/-- Leaves that are alike. -/
def leafsEq : List EqK → List AV → List AV → Option Bool
  | [], [], [] => some true
  | .int :: ks, .int k a :: xs, .int k' b :: ys => if k = k' then (if a == b then leafsEq ks xs ys else some false) else none
  | .bool :: ks, .bool a :: xs, .bool b :: ys => if a == b then leafsEq ks xs ys else some false
  | .str :: ks, .str a :: xs, .str b :: ys => if a == b then leafsEq ks xs ys else some false
  | _, _, _ => none

def eqA (ks : List EqK) (agg : Bool) (x y : AV) : Option Bool :=
  if agg then match x, y with
    | .agg a, .agg b => if a.length = ks.length ∧ b.length = ks.length then leafsEq ks a b else none
    | _, _ => none
  else leafsEq ks [x] [y]

/-- Against nil: one of both is nil. -/
def eqNil : NilK → AV → AV → Option Bool
  | .ptr, .nilptr, .nilptr => some true
  | .ptr, .ptr _ _, .nilptr => some false
  | .ptr, .nilptr, .ptr _ _ => some false
  | .slice, .nilsl, .nilsl => some true
  | .slice, .sl _ _ _, .nilsl => some false
  | .slice, .nilsl, .sl _ _ _ => some false
  | .slice, .esl, .nilsl => some false
  | .slice, .nilsl, .esl => some false
  | .map, .nilmap, .nilmap => some true
  | .map, .map _, .nilmap => some false
  | .map, .nilmap, .map _ => some false
  | .func, .nilfn, .nilfn => some true
  | .func, .fn _ _ _, .nilfn => some false
  | .func, .nilfn, .fn _ _ _ => some false
  | _, _, _ => none

def unA (op : UnOp) : AV → Option AV
  | .int k n => match op with
    | .neg => some (.int k (k.wrap (0 - n)))
    | .xor => match bitsA .xor k (if k.signed then -1 else k.max) n with
      | some m => some (.int k m)
      | none => none
    | _ => none
  | .bool b => match op with
    | .not => some (.bool (!b))
    | _ => none
  | _ => none

def bytesOf : List AV → Option (List UInt8)
  | [] => some []
  | .int .u8 n :: r => match bytesOf r with
    | some l => some (UInt8.ofNat n.toNat :: l)
    | none => none
  | _ => none

def ofBytes (s : List UInt8) : List AV := s.map fun b => .int .u8 b.toNat

/-- What a slice or a string holds, as cells; how many elements. -/
def cellsOfSrc (H : AHeap) (sz : Nat) : AV → Option (Nat × List AV)
  | .nilsl | .esl => some (0, [])
  | .sl j o n => match getB H j with
    | some (.cells sz' _ cs) => if sz' = sz ∧ o + n * sz ≤ cs.length then some (n, (cs.drop o).take (n * sz)) else none
    | _ => none
  | .str s => some (s.length, ofBytes s)
  | _ => none

def maxRoom : Nat := 140737488355328

def appendA (H : AHeap) (sz bytes : Nat) (s x : AV) : Option (AV × AHeap) :=
  match cellsOfSrc H sz x with
  | none => none
  | some (k, xs) =>
    match s with
    | .nilsl => if k = 0 then some (.nilsl, H) else
      if k * bytes ≤ maxRoom then some (.sl H.length 0 k, H ++ [some (.cells sz true xs)]) else none
    | .esl => if k = 0 then some (.esl, H) else
      if k * bytes ≤ maxRoom then some (.sl H.length 0 k, H ++ [some (.cells sz true xs)]) else none
    | .sl i o n => if k = 0 then some (.sl i o n, H) else
      match getB H i with
      | some (.cells sz' true cs) =>
        if sz' = sz ∧ o + n * sz ≤ cs.length ∧ (n + k) * bytes ≤ maxRoom ∧ xs.all AV.one then
          some (.sl H.length 0 (n + k), H.set i none ++ [some (.cells sz true ((cs.drop o).take (n * sz) ++ xs))])
        else none
      | _ => none
    | _ => none

def copyA (H : AHeap) (sz : Nat) (d s : AV) : Option (AV × AHeap) :=
  match cellsOfSrc H sz s, d with
  | some (k, xs), .sl i o n =>
    match storeA H i o (xs.take (min k n * sz)) with
    | some H' => some (.int .i64 (min k n : Nat), H')
    | none => none
  | some _, .nilsl | some _, .esl => some (.int .i64 0, H)
  | _, _ => none

def rows (n : Nat) (zero : List AV) : List AV := (List.replicate n zero).flatten

def clearA (H : AHeap) (zero : List AV) (x : AV) : Option (AV × AHeap) :=
  match x with
  | .nilsl | .esl => some (.tup [], H)
  | .sl i o n => if n = 0 then some (.tup [], H) else
    match storeA H i o (rows n zero) with
    | some H' => some (.tup [], H')
    | none => none
  | _ => none

def keyEq : EqK → AV → AV → Option Bool
  | .int, .int k a, .int k' b => if k = k' then some (a == b) else none
  | .str, .str a, .str b => some (a == b)
  | .bool, .bool a, .bool b => some (a == b)
  | _, _, _ => none

/-- At which entry a key stands. -/
def findI (kk : EqK) (k : AV) : List (AV × AV) → Nat → Option (Option Nat)
  | [], _ => some none
  | (a, _) :: r, i => match keyEq kk k a with
    | some true => some (some i)
    | some false => findI kk k r (i + 1)
    | none => none

def keyOk : EqK → AV → Bool
  | .int, .int _ _ | .str, .str _ | .bool, .bool _ => true
  | _, _ => false

def intOf' : AV → Option Int
  | .int _ n => some n
  | _ => none

def bound (x : Option AV) (dflt lo hi : Nat) : Option Nat :=
  match x with
  | none => if lo ≤ dflt ∧ dflt ≤ hi then some dflt else none
  | some (.int _ n) => if (lo : Int) ≤ n ∧ n ≤ (hi : Int) then some n.toNat else none
  | _ => none

def sliceS (s : List UInt8) (lo hi : Option AV) : Option AV :=
  match bound hi s.length 0 s.length with
  | none => none
  | some h => match bound lo 0 0 h with
    | none => none
    | some l => some (.str ((s.take h).drop l))

def slLen : AV → Nat
  | .sl _ _ n => n
  | _ => 0

def sliceA (sz : Nat) (x : AV) (lo hi mx : Option AV) : Option AV :=
  match bound hi (slLen x) 0 (slLen x) with
  | none => none
  | some h => match bound lo 0 0 h with
    | none => none
    | some l => match mx with
      | none => match x with
        | .sl i o _ => some (.sl i (o + l * sz) (h - l))
        | .nilsl => some .nilsl
        | .esl => some .esl
        | _ => none
      | some m => match bound (some m) 0 h (slLen x) with
        | some m => if m = l then (match x with
            | .sl _ _ _ | .esl => some .esl
            | .nilsl => some .nilsl
            | _ => none) else none
        | none => none

/-- Are a slice's elements of so many cells? -/
def szOk (H : AHeap) (sz : Nat) : AV → Bool
  | .sl i _ _ => match getB H i with
    | some (.cells sz' _ _) => sz' == sz
    | _ => false
  | _ => true

/-- An operation that touches no memory. -/
def aPure (env vals : List AV) : AOp → Option AV
  | .mov x => aval env vals x
  | .pick c a b => match aval env vals c with
    | some (.bool t) => aval env vals (if t then a else b)
    | _ => none
  | .build zero parts => match aparts env vals parts with
    | some ps => match fillA zero ps with
      | some cs => some (.agg cs)
      | none => none
    | none => none
  | .nilchk x => match aval env vals x with
    | some (.ptr i o) => some (.ptr i o)
    | _ => none
  | .bin op x y => match aval env vals x, aval env vals y with
    | some a, some b => binA op a b
    | _, _ => none
  | .eqs neg ks agg x y => match aval env vals x, aval env vals y with
    | some a, some b => match eqA ks agg a b with
      | some t => some (.bool (if neg then !t else t))
      | none => none
    | _, _ => none
  | .eqnil neg k x y => match aval env vals x, aval env vals y with
    | some a, some b => match eqNil k a b with
      | some t => some (.bool (if neg then !t else t))
      | none => none
    | _, _ => none
  | .un op x => match aval env vals x with
    | some a => unA op a
    | none => none
  | .conv k x => match aval env vals x with
    | some (.int _ n) => some (.int k (k.wrap n))
    | _ => none
  | .str2str x => match aval env vals x with
    | some (.str s) => some (.str s)
    | _ => none
  | .iface t x => match aval env vals x with
    | some .junk => none
    | some v => some (.iface t v)
    | none => none
  | .func f first caps => match avals env vals first, avals env vals caps with
    | some a, some b => some (.fn f a b)
    | _, _ => none
  | .slstr x lo hi => match aval env vals x, aopt env vals lo, aopt env vals hi with
    | some (.str s), some l, some h => sliceS s l h
    | _, _, _ => none
  | .faddr off x => match aval env vals x with
    | some (.ptr i o) => some (.ptr i (o + off))
    | _ => none
  | .field off n agg x => match aval env vals x with
    | some (.agg cs) => if off + n ≤ cs.length then mkv agg ((cs.drop off).take n) else none
    | _ => none
  | .iaddr sz x i => match aval env vals x, aval env vals i with
    | some (.sl j o n), some (.int _ k) => if 0 ≤ k ∧ k < (n : Int) then some (.ptr j (o + k.toNat * sz)) else none
    | _, _ => none
  | .iaddra len sz x i => match aval env vals x, aval env vals i with
    | some (.ptr j o), some (.int _ k) => if 0 ≤ k ∧ k < (len : Int) then some (.ptr j (o + k.toNat * sz)) else none
    | _, _ => none
  | .istr x i => match aval env vals x, aval env vals i with
    | some (.str s), some (.int _ k) => if 0 ≤ k then (match s[k.toNat]? with
      | some b => some (.int .u8 b.toNat)
      | none => none) else none
    | _, _ => none
  | .iarr len sz agg x i => match aval env vals x, aval env vals i with
    | some (.agg cs), some (.int _ k) =>
      if 0 ≤ k ∧ k < (len : Int) ∧ k.toNat * sz + sz ≤ cs.length then mkv agg ((cs.drop (k.toNat * sz)).take sz) else none
    | _, _ => none
  | .extract k x => match aval env vals x with
    | some (.tup vs) => vs[k]?
    | _ => none
  | .lenS x => match aval env vals x with
    | some (.str s) => some (.int .i64 s.length)
    | _ => none
  | .lenL x => match aval env vals x with
    | some (.sl _ _ n) => some (.int .i64 n)
    | some .nilsl => some (.int .i64 0)
    | some .esl => some (.int .i64 0)
    | _ => none
  | .cap x => match aval env vals x with
    | some .nilsl => some (.int .i64 0)
    | some .esl => some (.int .i64 0)
    | _ => none
  | .minmax mx x y => match aval env vals x, aval env vals y with
    | some (.int k a), some (.int k' b) => if k = k' then
        (if mx then some (.int k (if b > a then b else a)) else some (.int k (if b < a then b else a))) else none
    | _, _ => none
  | _ => none

/-- An operation that reads memory. -/
def aRead (env vals : List AV) (H : AHeap) : AOp → Option AV
  | .load n agg a => match aval env vals a with
    | some (.ptr i o) => match loadA H i o n with
      | some cs => mkv agg cs
      | none => none
    | _ => none
  | .lookup kk z m k ok =>
    match aval env vals m, aval env vals k with
    | some mv, some kv =>
      let es := match mv with
        | .nilmap => some []
        | .map i => match getB H i with
          | some (.map es) => some es
          | _ => none
        | _ => none
      match es with
      | none => none
      | some es => if keyOk kk kv then match findI kk kv es 0 with
          | some (some i) => match es[i]? with
            | some e => some (if ok then .tup [e.2, .bool true] else e.2)
            | none => none
          | some none => some (if ok then .tup [z, .bool false] else z)
          | none => none
        else none
    | _, _ => none
  | .bytes2str x => match aval env vals x with
    | some .nilsl => some (.str [])
    | some .esl => some (.str [])
    | some (.sl i o n) => match loadA H i o n with
      | some cs => match bytesOf cs with
        | some s => some (.str s)
        | none => none
      | none => none
    | _ => none
  | .slsl sz x lo hi mx => match aval env vals x, aopt env vals lo, aopt env vals hi, aopt env vals mx with
    | some v, some l, some h, some m => if szOk H sz v then sliceA sz v l h m else none
    | _, _, _, _ => none
  | .lenM x => match aval env vals x with
    | some .nilmap => some (.int .i64 0)
    | some (.map i) => match getB H i with
      | some (.map es) => some (.int .i64 es.length)
      | _ => none
    | _ => none
  | _ => none

/-- An operation that makes a block: the value, by the block's number, and the block. -/
def aNew (env vals : List AV) : AOp → Option ((Nat → AV) × Blk)
  | .alloc zero => some (fun i => .ptr i 0, .cells zero.length true zero)
  | .box x => match aval env vals x with
    | some .junk => none
    | some v => some (fun i => .ptr i 0, .cells v.cells.length true v.cells)
    | none => none
  | .mkslice sz n zero parts => match aparts env vals parts with
    | some ps => match fillA (rows n zero) ps with
      | some cs => some (fun i => .sl i 0 n, .cells sz true cs)
      | none => none
    | none => none
  | .str2bytes x => match aval env vals x with
    | some (.str s) => some (fun i => .sl i 0 s.length, .cells 1 true (ofBytes s))
    | _ => none
  | .mkmap => some (fun i => .map i, .map [])
  | .make sz bytes zero len cap => match aval env vals len, aval env vals cap with
    | some (.int k n), some (.int k' m) =>
      if k = .i64 ∧ k' = .i64 ∧ n = m ∧ 0 ≤ n ∧ n * bytes ≤ (maxRoom : Int) ∧ n ≤ 1152921504606846976 then some (fun i => .sl i 0 n.toNat, .cells sz true (rows n.toNat zero)) else none
    | _, _ => none
  | _ => none

abbrev CallT := Nat → List AV → AHeap → Option (AV × AHeap)

/-- An operation that changes memory. -/
def aEff (call : CallT) (env vals : List AV) (H : AHeap) : AOp → Option (AV × AHeap)
  | .store n a v => match aval env vals a, aval env vals v with
    | some (.ptr i o), some w => if w.cells.length = n then match storeA H i o w.cells with
      | some H' => some (.junk, H')
      | none => none else none
    | _, _ => none
  | .call f xs => match avals env vals xs with
    | some uas => call f uas H
    | none => none
  | .callv f xs => match aval env vals f, avals env vals xs with
    | some (.fn f first caps), some uas => call f (first ++ uas ++ caps) H
    | _, _ => none
  | .append sz bytes str s x => match aval env vals s, aval env vals x with
    | some a, some b => if b.isStr == str then appendA H sz bytes a b else none
    | _, _ => none
  | .copy sz d s => match aval env vals d, aval env vals s with
    | some a, some b => if b.isStr then none else copyA H sz a b
    | _, _ => none
  | .clear zero x => match aval env vals x with
    | some a => clearA H zero a
    | none => none
  | .mapset kk m k v => match aval env vals m, aval env vals k, aval env vals v with
    | some (.map i), some kv, some vv => if keyOk kk kv && !vv.isJunk then match getB H i with
      | some (.map es) => match findI kk kv es 0 with
        | some (some j) => some (.junk, H.set i (some (.map (es.set j (kv, vv)))))
        | some none => some (.junk, H.set i (some (.map (es ++ [(kv, vv)]))))
        | none => none
      | _ => none else none
    | _, _, _ => none
  | .delete kk m k => match aval env vals m, aval env vals k with
    | some (.map i), some kv => if keyOk kk kv then match getB H i with
      | some (.map es) => match findI kk kv es 0 with
        | some (some j) => some (.tup [], H.set i (some (.map (es.eraseIdx j))))
        | some none => some (.tup [], H)
        | none => none
      | _ => none else none
    | some .nilmap, some kv => if keyOk kk kv then some (.tup [], H) else none
    | _, _ => none
  | _ => none

inductive Cls where
  | pure | read | new | eff
  deriving DecidableEq, Inhabited

def AOp.cls : AOp → Cls
  | .load .. | .lookup .. | .bytes2str .. | .slsl .. | .lenM .. => .read
  | .alloc .. | .box .. | .mkslice .. | .str2bytes .. | .mkmap | .make .. => .new
  | .store .. | .call .. | .callv .. | .append .. | .copy .. | .clear .. | .mapset .. | .delete .. => .eff
  | _ => .pure

def aOp (call : CallT) (env vals : List AV) (H : AHeap) (o : AOp) : Option (AV × AHeap) :=
  match o.cls with
  | .pure => match aPure env vals o with
    | some v => some (v, H)
    | none => none
  | .read => match aRead env vals H o with
    | some v => some (v, H)
    | none => none
  | .new => match aNew env vals o with
    | some (mk, b) => some (mk H.length, H ++ [some b])
    | none => none
  | .eff => aEff call env vals H o

/-- Is an operation carried out? -/
def wantedA (vals : List AV) : Option (Nat × Bool) → Option Bool
  | none => some true
  | some (j, t) => match vals[j]? with
    | some (.bool b) => some (b == t)
    | some (.tup []) => some false
    | _ => none

def put (env : List AV) : Option Nat → AV → List AV
  | none, _ => env
  | some x, v => env.set x v

/-- Read 'i' of the region tells the same in heap H. -/
def sameAt (all : List AOper) (env vals : List AV) (H : AHeap) (i : Nat) : Bool :=
  match all[i]? with
  | none => false
  | some o => match wantedA vals o.guard with
    | some true => match aRead env vals H o.op, vals[i]? with
      | some v, some u => AV.same v u
      | _, _ => false
    | some false => true
    | none => false

/-- The operations of a region one by one. 'env': as it was at the region's head. 'hs': the heap ahead of each operation. -/
def runOps (call : CallT) (all : List AOper) (env : List AV) : List AOper → List AV → List AHeap → List AV → AHeap → Option (List AV × AHeap)
  | [], _, _, env', H => some (env', H)
  | o :: r, vals, hs, env', H =>
    match wantedA vals o.guard with
    | none => none
    | some false => runOps call all env r (vals ++ [.tup []]) (hs ++ [H]) (put env' o.dst (.tup [])) H
    | some true =>
      match aOp call env vals H o.op with
      | none => none
      | some (v, H') =>
        if o.aft.all (sameAt all env vals H') && o.bef.all (fun j => match hs[j]? with
            | some Hj => (match aRead env vals Hj o.op with
              | some u => AV.same u v
              | none => false)
            | none => false) then
          runOps call all env r (vals ++ [v]) (hs ++ [H]) (put env' o.dst v) H'
        else none

def aCode (call : CallT) : Nat → ACode → List AV → AHeap → Option (AExit × List AV × AHeap)
  | 0, _, _, _ => none
  | _ + 1, .skip, env, H => some (.normal, env, H)
  | _ + 1, .region ops, env, H => match runOps call ops env ops [] [] env H with
    | some (env', H') => some (.normal, env', H')
    | none => none
  | n + 1, .seq a b, env, H => match aCode call n a env H with
    | some (.normal, env', H') => aCode call n b env' H'
    | r => r
  | n + 1, .cond c a b, env, H => match aval env [] c with
    | some (.bool t) => aCode call n (if t then a else b) env H
    | _ => none
  | n + 1, .block id c, env, H => match aCode call n c env H with
    | some (.exit id', env', H') => if id' = id then some (.normal, env', H') else some (.exit id', env', H')
    | r => r
  | n + 1, .loop c, env, H => match aCode call n c env H with
    | some (.normal, env', H') => aCode call n (.loop c) env' H'
    | r => r
  | _ + 1, .exit id, env, H => some (.exit id, env, H)
  | _ + 1, .ret, env, H => some (.ret, env, H)

def aRes (env : List AV) (H : AHeap) : List ResA → Option (List AV)
  | [] => some []
  | .var x :: r => match env[x]?, aRes env H r with
    | some v, some vs => some (v :: vs)
    | _, _ => none
  | .cell x n agg :: r => match env[x]?, aRes env H r with
    | some (.ptr i o), some vs => match loadA H i o n with
      | some cs => match mkv agg cs with
        | some v => some (v :: vs)
        | none => none
      | none => none
    | _, _ => none

def single : List AV → AV
  | [v] => v
  | vs => .tup vs

def env0 (ps : List Nat) (args : List AV) : List AV := ps.map fun s => args[s]?.getD .junk

def aBody (call : CallT) (n : Nat) (fn : AFun) (args : List AV) (H : AHeap) : Option (AV × AHeap) :=
  if args.length = fn.nargs then
    match aCode call n fn.body (env0 fn.ps args) H with
    | some (.normal, env, H') | some (.ret, env, H') => match aRes env H' fn.res with
      | some vs => some (single vs, H')
      | none => none
    | _ => none
  else none

/-- A call: by an oracle where there is one, else by the function's own text. -/
def aCall (prog : Nat → Option AFun) (orc : Nat → Option (List AV → AHeap → Option (AV × AHeap))) : Nat → CallT
  | 0, _, _, _ => none
  | n + 1, f, args, H =>
    match orc f with
    | some g => g args H
    | none => match prog f with
      | some fn => aBody (aCall prog orc n) n fn args H
      | none => none

end Go.Am

/- What compact code a loaded function is: a function of the program's own tables. Checked by the kernel, function by function. -/
namespace Go.Am

mutual
def trConst : Value → Option AV
  | .int k n => some (.int k n)
  | .bool b => some (.bool b)
  | .string s => some (.str s.data.toList)
  | .pointer none => some .nilptr
  | .slice none 0 0 => some .nilsl
  | .map none => some .nilmap
  | .nilFunc => some .nilfn
  | .nilIface => some .nilif
  | .agg cs => match trConsts cs.toList with
    | some l => some (.agg l)
    | none => none
  | _ => none
def trConsts : List Value → Option (List AV)
  | [] => some []
  | v :: r => match trConst v, trConsts r with
    | some a, some l => some (a :: l)
    | _, _ => none
end

def sizeP (P : Program) (t : TypeId) : Option Nat :=
  match P.info? t with
  | some i => if i.size = 0 then none else some i.size
  | none => none

def bytesP (P : Program) (t : TypeId) : Option Nat :=
  match P.info? t with
  | some i => some i.bytes
  | none => none

def aggP (P : Program) (t : TypeId) : Option Bool :=
  match P.underlying t with
  | some (.struct _) => some true
  | some (.array _ _) => some true
  | some _ => some false
  | none => none

/-- The cells of a zero value, as many as the type's size says. -/
def zeroP (P : Program) (t : TypeId) : Option (List AV) :=
  match P.info? t with
  | some i => match i.zero with
    | some z => match trConst z with
      | some v => if v.cells.length = i.size ∧ i.size ≠ 0 then some v.cells else none
      | none => none
    | none => none
  | none => none

def elemP (P : Program) (t : TypeId) : Option TypeId :=
  match P.underlying t with
  | some (.slice e) => some e
  | _ => none

def fieldsK (P : Program) (sub : TypeId → Option (List EqK)) : List Field → Nat → Option (List EqK)
  | [], _ => some []
  | f :: r, o => if f.name = "_" ∨ f.offset ≠ o then none else
    match sub f.type with
    | some l => if (P.info? f.type).map (·.size) = some l.length ∧ l.length ≠ 0 then (match fieldsK P sub r (o + l.length) with
        | some m => some (l ++ m)
        | none => none) else none
    | none => none

/-- The leaves of a type whose values are compared leaf by leaf. -/
def leafK (P : Program) : Nat → TypeId → Option (List EqK)
  | 0, _ => none
  | d + 1, t =>
    match P.info? t with
    | none => none
    | some i =>
    match P.underlying t with
    | some .bool => if i.size = 1 then some [.bool] else none
    | some (.int _) => if i.size = 1 then some [.int] else none
    | some .string => if i.size = 1 then some [.str] else none
    | some (.array n e) => match leafK P d e with
      | some l => if l.length * n = i.size ∧ (P.info? e).map (·.size) = some l.length ∧ l.length ≠ 0 then some ((List.replicate n l).flatten) else none
      | none => none
    | some (.struct fs) => if P.stoodInHeld t then none else
      match fieldsK P (leafK P d) fs.toList 0 with
      | some l => if l.length = i.size then some l else none
      | none => none
    | _ => none

/-- The kind of a map's keys. -/
def keyP (P : Program) (t : TypeId) : Option EqK :=
  match P.underlying t with
  | some (.int _) => some .int
  | some .string => some .str
  | some .bool => some .bool
  | _ => none

structure Ctx where
  P : Program
  ps : List Nat
  /-- the slots that earlier operations of the region have written -/
  tm : List (Nat × Nat)

def trOpd (c : Ctx) : Operand → Option Opd
  | .tmp t => match c.tm.lookup t with
    | some k => some (.loc k)
    | none => match c.ps.idxOf? t with
      | some x => some (.var x)
      | none => none
  | .const v => match trConst v with
    | some a => some (.const a)
    | none => none
  | .func f => some (.const (.fn f [] []))
  | .global _ => none

def trOpds (c : Ctx) : List Operand → Option (List Opd)
  | [] => some []
  | x :: r => match trOpd c x, trOpds c r with
    | some a, some l => some (a :: l)
    | _, _ => none

def trOptd (c : Ctx) : Option Operand → Option (Option Opd)
  | none => some none
  | some x => match trOpd c x with
    | some a => some (some a)
    | none => none

def trParts (c : Ctx) (place : Nat → Option (Nat × Nat)) : List (Nat × Operand) → Option (List (Nat × Nat × Opd))
  | [] => some []
  | (i, x) :: r => match place i, trOpd c x, trParts c place r with
    | some (o, n), some a, some l => some ((o, n, a) :: l)
    | _, _, _ => none

def trEq (c : Ctx) (neg : Bool) (op : BinOp) (t : TypeId) (x y : Operand) : Option AOp :=
  match trOpd c x, trOpd c y with
  | some a, some b =>
    match c.P.underlying t with
    | some (.int _) | some .string => some (.bin op a b)
    | some .bool => some (.eqs neg [.bool] false a b)
    | some (.struct _) | some (.array _ _) =>
      if c.P.eqGuardType c.P.depth t then none else
      match leafK c.P 20 t with
      | some ks => some (.eqs neg ks true a b)
      | none => none
    | some (.pointer _) => some (.eqnil neg .ptr a b)
    | some (.slice _) => some (.eqnil neg .slice a b)
    | some (.map _ _) => some (.eqnil neg .map a b)
    | some (.func _ _ _) => some (.eqnil neg .func a b)
    | _ => none
  | _, _ => none

def trCall (c : Ctx) (k : Call) : Option AOp :=
  match k.callee with
  | .value (.func f) => match trOpds c k.args.toList with
    | some xs => some (.call f xs)
    | none => none
  | .value f => match trOpd c f, trOpds c k.args.toList with
    | some g, some xs => some (.callv g xs)
    | _, _ => none
  | .invoke _ _ => none
  | .builtin b =>
    match b, k.args.toList, k.argTypes.toList with
    | .len, [x], [t] => match c.P.underlying t, trOpd c x with
      | some .string, some a => some (.lenS a)
      | some (.slice _), some a => some (.lenL a)
      | some (.map _ _), some a => some (.lenM a)
      | some (.array n _), some _ => some (.mov (.const (.int .i64 n)))
      | _, _ => none
    | .cap, [x], [t] => match c.P.underlying t, trOpd c x with
      | some (.slice _), some a => some (.cap a)
      | _, _ => none
    | .append, [s, x], [t, u] => match elemP c.P t, c.P.underlying u, trOpd c s, trOpd c x with
      | some e, some (.slice _), some a, some b => match sizeP c.P e, bytesP c.P e, zeroP c.P e with
        | some n, some m, some _ => if m = 0 then none else some (.append n m false a b)
        | _, _, _ => none
      | some e, some .string, some a, some b => match sizeP c.P e, bytesP c.P e, c.P.underlying e, zeroP c.P e with
        | some 1, some m, some (.int .u8), some _ => if m = 0 then none else some (.append 1 m true a b)
        | _, _, _, _ => none
      | _, _, _, _ => none
    | .copy, [d, s], [t, u] => match elemP c.P t, c.P.underlying u, trOpd c d, trOpd c s with
      | some e, some (.slice _), some a, some b => match sizeP c.P e with
        | some n => some (.copy n a b)
        | none => none
      | _, _, _, _ => none
    | .clear, [x], [t] => match c.P.underlying t, trOpd c x with
      | some (.slice e), some a => match zeroP c.P e with
        | some z => some (.clear z a)
        | none => none
      | _, _ => none
    | .min, [x, y], _ => match trOpd c x, trOpd c y with
      | some a, some b => some (.minmax false a b)
      | _, _ => none
    | .max, [x, y], _ => match trOpd c x, trOpd c y with
      | some a, some b => some (.minmax true a b)
      | _, _ => none
    | .delete, [m, x], [t, _] => match c.P.underlying t, trOpd c m, trOpd c x with
      | some (.map kt _), some a, some b => match keyP c.P kt with
        | some kk => some (.delete kk a b)
        | none => none
      | _, _, _ => none
    | _, _, _ => none

def trOp (c : Ctx) (op : Op) : Option AOp :=
  match op with
  | .move x | .assign x => match trOpd c x with
    | some a => some (.mov a)
    | none => none
  | .pick x y z => match trOpd c x, trOpd c y, trOpd c z with
    | some a, some b, some d => some (.pick a b d)
    | _, _, _ => none
  | .alloc e => match zeroP c.P e with
    | some z => some (.alloc z)
    | none => none
  | .box _ x => match trOpd c x with
    | some a => some (.box a)
    | none => none
  | .build t parts => match zeroP c.P t, c.P.underlying t with
    | some z, some (.struct fs) =>
      match trParts c (fun i => match fs[i]? with
        | some f => match c.P.info? f.type with
          | some j => some (f.offset, j.size)
          | none => none
        | none => none) parts.toList with
      | some ps => if fs.all (fun f => (c.P.info? f.type).isSome) then some (.build z ps) else none
      | none => none
    | some z, some (.array _ e) => match sizeP c.P e with
      | some n => match trParts c (fun i => some (i * n, n)) parts.toList with
        | some ps => some (.build z ps)
        | none => none
      | none => none
    | _, _ => none
  | .buildSlice t len parts => match elemP c.P t with
    | some e => match sizeP c.P e, zeroP c.P e with
      | some n, some z => if len * n ≤ 16777216 then match trParts c (fun i => some (i * n, n)) parts.toList with
        | some ps => some (.mkslice n len z ps)
        | none => none else none
      | _, _ => none
    | none => none
  | .load t a => match sizeP c.P t, aggP c.P t, trOpd c a with
    | some n, some g, some x => if g || n == 1 then some (.load n g x) else none
    | _, _, _ => none
  | .store t a v => match sizeP c.P t, trOpd c a, trOpd c v with
    | some n, some x, some y => some (.store n x y)
    | _, _, _ => none
  | .nilCheck x => match trOpd c x with
    | some a => some (.nilchk a)
    | none => none
  | .binOp .eql t x y _ => trEq c false .eql t x y
  | .binOp .neq t x y _ => trEq c true .neq t x y
  | .binOp op _ x y _ => match trOpd c x, trOpd c y with
    | some a, some b => some (.bin op a b)
    | _, _ => none
  | .unOp op _ x => match trOpd c x with
    | some a => some (.un op a)
    | none => none
  | .convert src dst x => match c.P.underlying src, c.P.underlying dst, trOpd c x with
    | some (.int _), some (.int k), some a => some (.conv k a)
    | some .string, some .string, some a => some (.str2str a)
    | some .string, some (.slice e), some a => match c.P.underlying e with
      | some (.int .u8) => some (.str2bytes a)
      | _ => none
    | some (.slice e), some .string, some a => match c.P.underlying e with
      | some (.int .u8) => some (.bytes2str a)
      | _ => none
    | _, _, _ => none
  | .makeInterface t x => match c.P.underlying t, trOpd c x with
    | some (.interface _), _ => none
    | some _, some a => some (.iface t a)
    | _, _ => none
  | .makeFunc (.func f) first caps => match trOpds c first.toList, trOpds c caps.toList with
    | some a, some b => some (.func f a b)
    | _, _ => none
  | .makeMap _ none => some .mkmap
  | .lookup t m k ok => match c.P.underlying t, trOpd c m, trOpd c k with
    | some (.map kt et), some a, some b => match keyP c.P kt, c.P.info? et with
      | some kk, some i => match i.zero with
        | some z => match trConst z with
          | some zv => some (.lookup kk zv a b ok)
          | none => none
        | none => none
      | _, _ => none
    | _, _, _ => none
  | .mapUpdate t m k v | .insert t m k v => match c.P.underlying t, trOpd c m, trOpd c k, trOpd c v with
    | some (.map kt _), some a, some b, some d => match keyP c.P kt with
      | some kk => some (.mapset kk a b d)
      | none => none
    | _, _, _, _ => none
  | .makeSlice t l k => match elemP c.P t with
    | some e => match sizeP c.P e, bytesP c.P e, zeroP c.P e, trOpd c l, trOpd c k with
      | some n, some m, some z, some a, some b => if m = 0 then none else some (.make n m z a b)
      | _, _, _, _, _ => none
    | none => none
  | .slice t x lo hi mx => match c.P.underlying t, trOpd c x, trOptd c lo, trOptd c hi, trOptd c mx with
    | some .string, some a, some l, some h, some none => some (.slstr a l h)
    | some (.slice e), some a, some l, some h, some m => if m.isSome && h.isNone then none else match sizeP c.P e with
      | some n => some (.slsl n a l h m)
      | none => none
    | _, _, _, _, _ => none
  | .fieldAddr s x f => match c.P.underlying s, trOpd c x with
    | some (.struct fs), some a => match fs[f]? with
      | some fd => match sizeP c.P fd.type with
        | some _ => some (.faddr fd.offset a)
        | none => none
      | none => none
    | _, _ => none
  | .field s x f => match c.P.underlying s, trOpd c x with
    | some (.struct fs), some a => match fs[f]? with
      | some fd => match sizeP c.P fd.type, aggP c.P fd.type with
        | some n, some g => if g || n == 1 then some (.field fd.offset n g a) else none
        | _, _ => none
      | none => none
    | _, _ => none
  | .indexAddr t x i => match c.P.underlying t, trOpd c x, trOpd c i with
    | some (.slice e), some a, some b => match sizeP c.P e with
      | some n => some (.iaddr n a b)
      | none => none
    | some (.array len e), some a, some b => match sizeP c.P e with
      | some n => some (.iaddra len n a b)
      | none => none
    | _, _, _ => none
  | .index t x i => match c.P.underlying t, trOpd c x, trOpd c i with
    | some .string, some a, some b => some (.istr a b)
    | some (.array len e), some a, some b => match sizeP c.P e, aggP c.P e with
      | some n, some g => if g || n == 1 then some (.iarr len n g a b) else none
      | _, _ => none
    | _, _, _ => none
  | .extract x k => match trOpd c x with
    | some a => some (.extract k a)
    | none => none
  | .call k => trCall c k
  | .panic _ => some .stop
  | .defer _ => some .stop
  | _ => none

/-- The operations of a region, one by one. -/
def trOps (P : Program) (ps : List Nat) (nt : Nat) : List Oper → Nat → List (Nat × Nat) → Option (List AOper)
  | [], _, _ => some []
  | o :: r, k, tm =>
    match trOp ⟨P, ps, tm⟩ o.op with
    | none => none
    | some a =>
      let g : Option (Option (Nat × Bool)) := match o.guard with
        | none => some none
        | some (j, t) => if tm.any (fun p => p.2 == j) then some (some (j, t)) else none
      match g, o.dst with
      | some g, some d =>
        if (tm.lookup d).isSome || decide (nt ≤ d) then none else
        match trOps P ps nt r (k + 1) ((d, k) :: tm) with
        | some l => some ({ op := a, dst := ps.idxOf? d, guard := g } :: l)
        | none => none
      | some g, none => match trOps P ps nt r (k + 1) tm with
        | some l => some ({ op := a, dst := none, guard := g } :: l)
        | none => none
      | none, _ => none

def allBelow (n : Nat) (f : Nat → Bool) : Bool := (List.range n).all f

/-- In a region that draws its order: what must stand ahead of what, and what is looked at again. -/
def drawn (b : Nat → Nat → Bool) (l : List AOper) : Option (List AOper) :=
  let cl (i : Nat) : Cls := match l[i]? with
    | some o => o.op.cls
    | none => .pure
  if allBelow l.length fun j => allBelow j fun i =>
      (match cl i, cl j with
       | .eff, .eff => b i j
       | .new, .eff => b i j
       | _, _ => true)
  then some (l.zipIdx.map fun (o, j) =>
    match o.op.cls with
    | .eff => { o with aft := (List.range j).filter fun i => cl i == .read && !b i j }
    | .read => { o with bef := (List.range j).filter fun i => cl i == .eff && !b i j }
    | _ => o)
  else none

/-- Of each operation those that stand ahead of it in whatever order. -/
def ahead : List Oper → List (List Nat) → List (List Nat)
  | [], acc => acc
  | o :: r, acc => ahead r (acc ++ [(o.after.toList.flatMap fun e => if Region.binds .any e then e.on :: acc.getD e.on [] else []).eraseDups])

/-- Edges lead back. -/
def backOk : List Oper → Nat → Bool
  | [], _ => true
  | o :: r, i => o.after.toList.all (fun e => !Region.binds .any e || decide (e.on < i)) && backOk r (i + 1)

/-- In a region that draws: what an operation looks at stands ahead of it, and what writes a variable that it looks at stands behind it. -/
def edgesOk (l : List AOper) (b : Nat → Nat → Bool) : Bool :=
  allBelow l.length fun k => match l[k]? with
    | none => true
    | some o =>
      (o.op.opds.all fun x => match x with
        | .loc j => b j k
        | .var x => allBelow l.length fun m => m == k || (match l[m]? with
          | some q => q.dst != some x || b k m
          | none => true)
        | .const _ => true) &&
      (match o.guard with
       | some (j, _) => b j k
       | none => true)

def opdOk (n : Nat) : Opd → Bool
  | .var x => decide (x < n)
  | .const (.ptr _ _) | .const (.sl _ _ _) | .const (.map _) => false
  | _ => true

def trRegion (P : Program) (ps : List Nat) (nt : Nat) (ops : Array Oper) (draw : Bool) : Option (List AOper) :=
  match trOps P ps nt ops.toList 0 [] with
  | none => none
  | some l => if draw then
      let c := ahead ops.toList []
      let b : Nat → Nat → Bool := fun i j => (c.getD j []).contains i
      if backOk ops.toList 0 && edgesOk l b && l.all (fun o => o.op.opds.all (opdOk ps.length)) && P.follows .mixedOrders then drawn b l else none
    else some l

def trCode (P : Program) (ps : List Nat) (nt : Nat) : Code → Option ACode
  | .skip => some .skip
  | .region _ ops draw => match trRegion P ps nt ops draw with
    | some l => some (.region l)
    | none => none
  | .seq a b => match trCode P ps nt a, trCode P ps nt b with
    | some x, some y => some (.seq x y)
    | _, _ => none
  | .cond k a b => match trOpd ⟨P, ps, []⟩ k, trCode P ps nt a, trCode P ps nt b with
    | some c, some x, some y => some (.cond c x y)
    | _, _, _ => none
  | .block id a => match trCode P ps nt a with
    | some x => some (.block id x)
    | none => none
  | .loop a => match trCode P ps nt a with
    | some x => some (.loop x)
    | none => none
  | .exit id => some (.exit id)
  | .ret => some .ret
  | _ => none

def trRes (P : Program) (ps : List Nat) : List ResultVar → Option (List ResA)
  | [] => some []
  | .tmp t :: r => match ps.idxOf? t, trRes P ps r with
    | some x, some l => some (.var x :: l)
    | _, _ => none
  | .cell a t :: r => match ps.idxOf? a, sizeP P t, aggP P t, trRes P ps r with
    | some x, some n, some g, some l => if g || n == 1 then some (.cell x n g :: l) else none
    | _, _, _, _ => none

/-- Is 'af' the compact form of 'fn'? -/
def trFun (P : Program) (fn : Func) (ps : List Nat) : Option AFun :=
  match fn.body with
  | none => none
  | some c =>
    if fn.nfree + fn.params.size ≤ fn.ntmps ∧ ps.all (· < fn.ntmps) ∧ ps.Nodup ∧ fn.name ≠ "runtime.NumGoroutine" then
      match trCode P ps fn.ntmps c, trRes P ps fn.results.toList with
      | some b, some rs => some { nargs := fn.nfree + fn.params.size, ps, res := rs, body := b }
      | _, _ => none
    else none

end Go.Am

/- How abstract values and heaps lie in the machine's memory. -/
namespace Go.Am

/-- Where an abstract block lies: a block of the machine, the first cell in it, how many cells that block has, cells an element; may it be written. -/
structure Loc where
  b : Nat
  base : Nat
  lim : Nat
  sz : Nat
  rw : Bool

abbrev Phi := Nat → Option Loc

mutual
def R (Φ : Phi) : AV → Value → Prop
  | .int k n, v => v = .int k n
  | .bool b, v => v = .bool b
  | .str s, v => v = .string ⟨s.toArray⟩
  | .ptr i o, v => ∃ l, Φ i = some l ∧ v = .pointer (some ⟨l.b, l.base + o, none⟩)
  | .nilptr, v => v = .pointer none
  | .sl i o n, v => ∃ l a c, Φ i = some l ∧ v = .slice (some a) n c ∧ n ≤ c ∧
      (c = 0 ∨ (a = ⟨l.b, l.base + o, none⟩ ∧ (l.rw = true → l.base + o + c * l.sz ≤ l.lim)))
  | .nilsl, v => v = .slice none 0 0
  | .esl, v => ∃ a, v = .slice (some a) 0 0
  | .map i, v => ∃ l, Φ i = some l ∧ v = .map (some l.b)
  | .nilmap, v => v = .map none
  | .fn f a b, v => ∃ xs ys, v = .func (.func f) (List.toArray xs) (List.toArray ys) ∧ Rs Φ a xs ∧ Rs Φ b ys
  | .nilfn, v => v = .nilFunc
  | .iface t a, v => ∃ u, v = .iface t u ∧ R Φ a u
  | .nilif, v => v = .nilIface
  | .agg cs, v => ∃ vs, v = .agg (List.toArray vs) ∧ Rs Φ cs vs
  | .tup cs, v => ∃ vs, v = .tuple (List.toArray vs) ∧ Rs Φ cs vs
  | .junk, _ => True
def Rs (Φ : Phi) : List AV → List Value → Prop
  | [], vs => vs = []
  | a :: r, vs => ∃ v vs', vs = v :: vs' ∧ R Φ a v ∧ Rs Φ r vs'
end

theorem Rs.len {Φ : Phi} : ∀ {cs : List AV} {vs : List Value}, Rs Φ cs vs → vs.length = cs.length
  | [], vs, h => by simp only [Rs] at h; simp [h]
  | a :: r, vs, h => by
    simp only [Rs] at h
    obtain ⟨v, vs', rfl, _, h2⟩ := h
    simp [h2.len]

theorem Rs.get {Φ : Phi} : ∀ {cs : List AV} {vs : List Value}, Rs Φ cs vs → ∀ {k : Nat} {c : AV}, cs[k]? = some c → ∃ v, vs[k]? = some v ∧ R Φ c v
  | [], vs, h, k, c, hk => by simp at hk
  | a :: r, vs, h, k, c, hk => by
    simp only [Rs] at h
    obtain ⟨v, vs', rfl, h1, h2⟩ := h
    cases k with
    | zero => simp at hk; subst hk; exact ⟨v, by simp, h1⟩
    | succ k => simp at hk; obtain ⟨u, hu, hr⟩ := h2.get hk; exact ⟨u, by simpa using hu, hr⟩

theorem Rs.mk {Φ : Phi} : ∀ {cs : List AV} {vs : List Value}, vs.length = cs.length → (∀ (k : Nat) (c : AV), cs[k]? = some c → ∃ v, vs[k]? = some v ∧ R Φ c v) → Rs Φ cs vs
  | [], vs, hl, _ => by simp only [Rs]; simpa using hl
  | a :: r, [], hl, _ => by simp at hl
  | a :: r, v :: vs, hl, h => by
    simp only [Rs]
    refine ⟨v, vs, rfl, ?_, Rs.mk (by simpa using hl) fun k c hk => ?_⟩
    · obtain ⟨u, hu, hr⟩ := h 0 a (by simp); simp at hu; subst hu; exact hr
    · obtain ⟨u, hu, hr⟩ := h (k + 1) c (by simpa using hk); exact ⟨u, by simpa using hu, hr⟩

theorem Rs.nil {Φ : Phi} : Rs Φ [] [] := by simp [Rs]
theorem Rs.cons {Φ : Phi} {a : AV} {r : List AV} {v : Value} {vs : List Value} (h : R Φ a v) (h2 : Rs Φ r vs) : Rs Φ (a :: r) (v :: vs) := by
  simp only [Rs]; exact ⟨v, vs, rfl, h, h2⟩

theorem Rs.append {Φ : Phi} : ∀ {a b : List AV} {x y : List Value}, Rs Φ a x → Rs Φ b y → Rs Φ (a ++ b) (x ++ y)
  | [], b, x, y, h, h2 => by simp only [Rs] at h; subst h; simpa using h2
  | c :: a, b, x, y, h, h2 => by
    simp only [Rs] at h
    obtain ⟨v, vs, rfl, h1, h3⟩ := h
    exact .cons h1 (h3.append h2)

theorem Rs.take {Φ : Phi} : ∀ {a : List AV} {x : List Value} (n : Nat), Rs Φ a x → Rs Φ (a.take n) (x.take n)
  | [], x, n, h => by simp only [Rs] at h; subst h; simpa using Rs.nil
  | c :: a, x, n, h => by
    simp only [Rs] at h
    obtain ⟨v, vs, rfl, h1, h3⟩ := h
    cases n with
    | zero => simpa using Rs.nil
    | succ n => simpa using Rs.cons h1 (h3.take n)

theorem Rs.drop {Φ : Phi} : ∀ {a : List AV} {x : List Value} (n : Nat), Rs Φ a x → Rs Φ (a.drop n) (x.drop n)
  | [], x, n, h => by simp only [Rs] at h; subst h; simpa using Rs.nil
  | c :: a, x, n, h => by
    cases n with
    | zero => simpa using h
    | succ n =>
      simp only [Rs] at h
      obtain ⟨v, vs, rfl, h1, h3⟩ := h
      simpa using h3.drop n

mutual
theorem R.mono {Φ Φ' : Phi} (hm : ∀ i l, Φ i = some l → Φ' i = some l) : ∀ (a : AV) {v : Value}, R Φ a v → R Φ' a v
  | .int _ _, v, h => by simpa only [R] using h
  | .bool _, v, h => by simpa only [R] using h
  | .str _, v, h => by simpa only [R] using h
  | .ptr _ _, v, h => by
    simp only [R] at h ⊢; obtain ⟨l, hl, hv⟩ := h; exact ⟨l, hm _ _ hl, hv⟩
  | .nilptr, v, h => by simpa only [R] using h
  | .sl _ _ _, v, h => by
    simp only [R] at h ⊢; obtain ⟨l, a, c, hl, hv⟩ := h; exact ⟨l, a, c, hm _ _ hl, hv⟩
  | .nilsl, v, h => by simpa only [R] using h
  | .esl, v, h => by simpa only [R] using h
  | .map _, v, h => by
    simp only [R] at h ⊢; obtain ⟨l, hl, hv⟩ := h; exact ⟨l, hm _ _ hl, hv⟩
  | .nilmap, v, h => by simpa only [R] using h
  | .fn _ a b, v, h => by
    simp only [R] at h ⊢; obtain ⟨xs, ys, hv, h1, h2⟩ := h; exact ⟨xs, ys, hv, Rs.mono hm a h1, Rs.mono hm b h2⟩
  | .nilfn, v, h => by simpa only [R] using h
  | .iface _ a, v, h => by
    simp only [R] at h ⊢; obtain ⟨u, hv, h1⟩ := h; exact ⟨u, hv, R.mono hm a h1⟩
  | .nilif, v, h => by simpa only [R] using h
  | .agg cs, v, h => by
    simp only [R] at h ⊢; obtain ⟨vs, hv, h1⟩ := h; exact ⟨vs, hv, Rs.mono hm cs h1⟩
  | .tup cs, v, h => by
    simp only [R] at h ⊢; obtain ⟨vs, hv, h1⟩ := h; exact ⟨vs, hv, Rs.mono hm cs h1⟩
  | .junk, v, h => by simp only [R]
theorem Rs.mono {Φ Φ' : Phi} (hm : ∀ i l, Φ i = some l → Φ' i = some l) : ∀ (a : List AV) {v : List Value}, Rs Φ a v → Rs Φ' a v
  | [], v, h => by simpa only [Rs] using h
  | a :: r, v, h => by
    simp only [Rs] at h ⊢; obtain ⟨u, us, hv, h1, h2⟩ := h; exact ⟨u, us, hv, R.mono hm a h1, Rs.mono hm r h2⟩
end

mutual
theorem trConst_R {Φ : Phi} : ∀ (v : Value) {a : AV}, trConst v = some a → R Φ a v
  | .int _ _, a, h => by simp only [trConst, Option.some.injEq] at h; subst h; simp only [R]
  | .bool _, a, h => by simp only [trConst, Option.some.injEq] at h; subst h; simp only [R]
  | .string s, a, h => by simp only [trConst, Option.some.injEq] at h; subst h; simp only [R, Array.toArray_toList]
  | .pointer p, a, h => by
    cases p with
    | none => simp only [trConst, Option.some.injEq] at h; subst h; simp only [R]
    | some p => simp [trConst] at h
  | .slice p n c, a, h => by
    cases p with
    | some p => simp [trConst] at h
    | none => cases n with
      | succ n => simp [trConst] at h
      | zero => cases c with
        | succ c => simp [trConst] at h
        | zero => simp only [trConst, Option.some.injEq] at h; subst h; simp only [R]
  | .map p, a, h => by
    cases p with
    | none => simp only [trConst, Option.some.injEq] at h; subst h; simp only [R]
    | some p => simp [trConst] at h
  | .nilFunc, a, h => by simp only [trConst, Option.some.injEq] at h; subst h; simp only [R]
  | .nilIface, a, h => by simp only [trConst, Option.some.injEq] at h; subst h; simp only [R]
  | .agg ⟨cs⟩, a, h => by
    simp only [trConst] at h
    split at h
    · rename_i l hl
      simp only [Option.some.injEq] at h; subst h; simp only [R]
      exact ⟨cs, rfl, trConsts_R cs hl⟩
    · simp at h
  | .float _ _, a, h => by simp [trConst] at h
  | .complex _ _ _, a, h => by simp [trConst] at h
  | .chan _, a, h => by simp [trConst] at h
  | .func _ _ _, a, h => by simp [trConst] at h
  | .iface _ _, a, h => by simp [trConst] at h
  | .tuple _, a, h => by simp [trConst] at h
theorem trConsts_R {Φ : Phi} : ∀ (v : List Value) {a : List AV}, trConsts v = some a → Rs Φ a v
  | [], a, h => by simp only [trConsts, Option.some.injEq] at h; subst h; simp only [Rs]
  | v :: r, a, h => by
    simp only [trConsts] at h
    split at h
    · rename_i x l hx hl
      simp only [Option.some.injEq] at h; subst h
      exact .cons (trConst_R v hx) (trConsts_R r hl)
    · simp at h
end

mutual
theorem AV.same_eq : ∀ (a b : AV), AV.same a b = true → a = b
  | .int k n, b, h => by cases b <;> simp [AV.same] at h; simp [h]
  | .bool x, b, h => by cases b <;> simp [AV.same] at h; simp [h]
  | .str s, b, h => by cases b <;> simp [AV.same] at h; simp [h]
  | .ptr i o, b, h => by cases b <;> simp [AV.same] at h; simp [h]
  | .nilptr, b, h => by cases b <;> simp [AV.same] at h; rfl
  | .sl i o n, b, h => by cases b <;> simp [AV.same] at h; simp [h]
  | .nilsl, b, h => by cases b <;> simp [AV.same] at h; rfl
  | .esl, b, h => by cases b <;> simp [AV.same] at h; rfl
  | .map i, b, h => by cases b <;> simp [AV.same] at h; simp [h]
  | .nilmap, b, h => by cases b <;> simp [AV.same] at h; rfl
  | .fn f x y, b, h => by
    cases b <;> simp [AV.same] at h
    rename_i f' x' y'
    rw [h.1.1, AV.sames_eq x x' h.1.2, AV.sames_eq y y' h.2]
  | .nilfn, b, h => by cases b <;> simp [AV.same] at h; rfl
  | .iface t x, b, h => by
    cases b <;> simp [AV.same] at h
    rename_i t' x'
    rw [h.1, AV.same_eq x x' h.2]
  | .nilif, b, h => by cases b <;> simp [AV.same] at h; rfl
  | .agg x, b, h => by
    cases b <;> simp [AV.same] at h
    rename_i x'
    rw [AV.sames_eq x x' h]
  | .tup x, b, h => by
    cases b <;> simp [AV.same] at h
    rename_i x'
    rw [AV.sames_eq x x' h]
  | .junk, b, h => by cases b <;> simp [AV.same] at h; rfl
theorem AV.sames_eq : ∀ (a b : List AV), AV.sames a b = true → a = b
  | [], b, h => by cases b <;> simp [AV.sames] at h; rfl
  | a :: r, b, h => by
    cases b <;> simp [AV.sames] at h
    rename_i b s
    rw [AV.same_eq a b h.1, AV.sames_eq r s h.2]
end

mutual
theorem AV.same_refl : ∀ (a : AV), AV.same a a = true
  | .int k n => by simp [AV.same]
  | .bool x => by simp [AV.same]
  | .str s => by simp [AV.same]
  | .ptr i o => by simp [AV.same]
  | .nilptr => by simp [AV.same]
  | .sl i o n => by simp [AV.same]
  | .nilsl => by simp [AV.same]
  | .esl => by simp [AV.same]
  | .map i => by simp [AV.same]
  | .nilmap => by simp [AV.same]
  | .fn f x y => by simp [AV.same, AV.sames_refl x, AV.sames_refl y]
  | .nilfn => by simp [AV.same]
  | .iface t x => by simp [AV.same, AV.same_refl x]
  | .nilif => by simp [AV.same]
  | .agg x => by simp [AV.same, AV.sames_refl x]
  | .tup x => by simp [AV.same, AV.sames_refl x]
  | .junk => by simp [AV.same]
theorem AV.sames_refl : ∀ (a : List AV), AV.sames a a = true
  | [] => by simp [AV.sames]
  | a :: r => by simp [AV.sames, AV.same_refl a, AV.sames_refl r]
end

theorem R.one {Φ : Phi} {a : AV} {v : Value} (h : R Φ a v) (ho : a.one = true) : v.oneCell' = true := by
  cases a <;> simp [AV.one] at ho <;> simp only [R] at h <;> first
    | (subst h; rfl)
    | (obtain ⟨_, _, rfl⟩ := h; rfl)
    | (obtain ⟨_, _, _, _, rfl, _⟩ := h; rfl)
    | (obtain ⟨_, rfl⟩ := h; rfl)
    | (obtain ⟨_, _, rfl, _⟩ := h; rfl)
    | (obtain ⟨_, rfl, _⟩ := h; rfl)

/-- The cells of a value that is not junk. -/
theorem R.cells {Φ : Phi} {a : AV} {v : Value} (h : R Φ a v) (hj : a.isJunk = false) : Rs Φ a.cells v.cells.toList := by
  cases a <;> simp [AV.isJunk] at hj <;> simp only [R] at h <;> first
    | (subst h; exact .cons (by simp only [R]) .nil)
    | (obtain ⟨vs, rfl, h⟩ := h; simpa [Value.cells, AV.cells] using h; done)
    | (obtain ⟨l, h1, rfl⟩ := h; exact .cons (by simp only [R]; exact ⟨l, h1, rfl⟩) .nil)
    | (obtain ⟨l, a, c, h1, rfl, h2⟩ := h; exact .cons (by simp only [R]; exact ⟨l, a, c, h1, rfl, h2⟩) .nil)
    | (obtain ⟨a, rfl⟩ := h; exact .cons (by simp only [R]; exact ⟨a, rfl⟩) .nil)
    | (obtain ⟨xs, ys, rfl, h1, h2⟩ := h; exact .cons (by simp only [R]; exact ⟨xs, ys, rfl, h1, h2⟩) .nil)
    | (obtain ⟨u, rfl, h1⟩ := h; exact .cons (by simp only [R]; exact ⟨u, rfl, h1⟩) .nil)

/-- A block as it lies in memory. -/
def BlkOk (Φ : Phi) (w : World) (l : Loc) : Blk → Prop
  | .cells sz rw cs => l.b < w.heap.size ∧ l.sz = sz ∧ l.rw = rw ∧
      (∀ (k : Nat) (c : AV), cs[k]? = some c → ∃ v, w.cell? ⟨l.b, l.base + k, none⟩ = some v ∧ R Φ c v) ∧
      (rw = true → l.base + cs.length ≤ l.lim ∧ ∀ k, k < l.lim → (∃ v, w.cell? ⟨l.b, k, none⟩ = some v) ∧ w.frozen? ⟨l.b, k, none⟩ = false)
  | .map es => l.b < w.heap.size ∧ l.rw = true ∧ ∃ entries clock, w.heap[l.b]? = some (.map entries clock) ∧
      Rs Φ (es.map (·.1)) (entries.toList.map (·.key)) ∧ Rs Φ (es.map (·.2)) (entries.toList.map (·.val))

structure Sim (Φ : Phi) (G : Nat → Option Blk) (w : World) : Prop where
  ok : ∀ i blk, G i = some blk → ∃ l, Φ i = some l ∧ BlkOk Φ w l blk
  apart : ∀ i j bi bj li lj, i ≠ j → G i = some bi → G j = some bj → Φ i = some li → Φ j = some lj → li.rw = true → li.b ≠ lj.b

/-- The machine's blocks that may be written. -/
def Owned (Φ : Phi) (G : Nat → Option Blk) (b : Nat) : Prop := ∃ i blk l, G i = some blk ∧ Φ i = some l ∧ l.rw = true ∧ l.b = b

structure Ext (Φ : Phi) (G : Nat → Option Blk) (w : World) (Φ' : Phi) (G' : Nat → Option Blk) (w' : World) : Prop where
  mono : ∀ i l, Φ i = some l → Φ' i = some l
  os : w'.os = w.os
  tape : w'.tape = w.tape
  output : w'.output = w.output
  size : w.heap.size ≤ w'.heap.size
  frame : ∀ b, b < w.heap.size → ¬ Owned Φ G b → w'.heap[b]? = w.heap[b]?
  own : ∀ b, Owned Φ' G' b → Owned Φ G b ∨ w.heap.size ≤ b
  ro : ∀ j blk l, G' j = some blk → Φ' j = some l → l.rw = false → Φ j = some l ∧ ∃ blk', G j = some blk'

theorem Ext.refl (Φ : Phi) (G : Nat → Option Blk) (w : World) : Ext Φ G w Φ G w :=
  ⟨fun _ _ h => h, rfl, rfl, rfl, Nat.le_refl _, fun _ _ _ => rfl, fun _ h => .inl h, fun _ blk _ h1 h2 _ => ⟨h2, blk, h1⟩⟩

theorem Ext.trans {Φ Φ' Φ'' : Phi} {G G' G'' : Nat → Option Blk} {w w' w'' : World} (h : Ext Φ G w Φ' G' w') (k : Ext Φ' G' w' Φ'' G'' w'') :
    Ext Φ G w Φ'' G'' w'' where
  mono := fun i l hl => k.mono i l (h.mono i l hl)
  os := k.os.trans h.os
  tape := k.tape.trans h.tape
  output := k.output.trans h.output
  size := Nat.le_trans h.size k.size
  frame := fun b hb hn => by
    rw [k.frame b (Nat.lt_of_lt_of_le hb h.size) (fun ho => by
      rcases h.own b ho with h1 | h1
      · exact hn h1
      · omega)]
    exact h.frame b hb hn
  own := fun b ho => by
    rcases k.own b ho with h1 | h1
    · exact h.own b h1
    · exact .inr (Nat.le_trans h.size h1)
  ro := fun j blk l h1 h2 h3 => by
    obtain ⟨h4, blk', h5⟩ := k.ro j blk l h1 h2 h3
    exact h.ro j blk' l h5 h4 h3

theorem cell_of_block {w w' : World} {b : Nat} (h : w'.heap[b]? = w.heap[b]?) (k : Nat) : w'.cell? ⟨b, k, none⟩ = w.cell? ⟨b, k, none⟩ := by
  simp [World.cell?, h]
theorem frozen_of_block {w w' : World} {b : Nat} (h : w'.heap[b]? = w.heap[b]?) (k : Nat) : w'.frozen? ⟨b, k, none⟩ = w.frozen? ⟨b, k, none⟩ := by
  simp [World.frozen?, h]

/-- A block stays as it is where the machine's block stays. -/
theorem BlkOk.keep {Φ Φ' : Phi} {w w' : World} {l : Loc} {blk : Blk} (h : BlkOk Φ w l blk) (hm : ∀ i l, Φ i = some l → Φ' i = some l)
    (hs : w.heap.size ≤ w'.heap.size) (hb : w'.heap[l.b]? = w.heap[l.b]?) : BlkOk Φ' w' l blk := by
  cases blk with
  | cells sz rw cs =>
    obtain ⟨h1, h2, h3, h4, h5⟩ := h
    refine ⟨Nat.lt_of_lt_of_le h1 hs, h2, h3, fun k c hk => ?_, fun hr => ⟨(h5 hr).1, fun k hk => ?_⟩⟩
    · obtain ⟨v, hv, hR⟩ := h4 k c hk
      exact ⟨v, by rw [cell_of_block hb]; exact hv, R.mono hm c hR⟩
    · rw [cell_of_block hb, frozen_of_block hb]; exact (h5 hr).2 k hk
  | map es =>
    obtain ⟨h1, h2, en, cl, h3, h4, h5⟩ := h
    exact ⟨Nat.lt_of_lt_of_le h1 hs, h2, en, cl, by rw [hb]; exact h3, Rs.mono hm _ h4, Rs.mono hm _ h5⟩

theorem BlkOk.lt {Φ : Phi} {w : World} {l : Loc} {blk : Blk} (h : BlkOk Φ w l blk) : l.b < w.heap.size := by
  cases blk <;> exact h.1

/-- Fewer blocks. -/
theorem Sim.less {Φ : Phi} {G G' : Nat → Option Blk} {w : World} (h : Sim Φ G w) (hl : ∀ i b, G' i = some b → G i = some b) : Sim Φ G' w :=
  ⟨fun i b hi => h.ok i b (hl i b hi), fun i j bi bj li lj hn hi hj => h.apart i j bi bj li lj hn (hl i bi hi) (hl j bj hj)⟩

/-- A world that differs in what is drawn alone. -/
theorem Sim.drew {Φ : Phi} {G : Nat → Option Blk} {w : World} (h : Sim Φ G w) : Sim Φ G w.drew :=
  ⟨fun i b hi => by
    obtain ⟨l, h1, h2⟩ := h.ok i b hi
    exact ⟨l, h1, h2.keep (fun _ _ h => h) (Nat.le_refl _) rfl⟩, h.apart⟩

end Go.Am

/- Operations that touch no memory: what compact code says is what the machine does. -/
namespace Go.Am

/-- Operands: what compact code reads is what the machine reads. -/
def HO (c : Ctx) (env vals : List AV) (Φ : Phi) (ρ : Operand → Value) : Prop :=
  ∀ x y a, trOpd c x = some y → aval env vals y = some a → R Φ a (ρ x)

section
variable {c : Ctx} {env vals : List AV} {Φ : Phi} {ρ : Operand → Value}

theorem HO.list (H : HO c env vals Φ ρ) : ∀ {xs : List Operand} {ys : List Opd} {uas : List AV}, trOpds c xs = some ys → avals env vals ys = some uas → Rs Φ uas (xs.map ρ)
  | [], ys, uas, h, h2 => by
    simp only [trOpds, Option.some.injEq] at h; subst h
    simp only [avals, Option.some.injEq] at h2; subst h2
    exact .nil
  | x :: r, ys, uas, h, h2 => by
    simp only [trOpds] at h
    split at h
    · rename_i y l hy hl
      simp only [Option.some.injEq] at h; subst h
      simp only [avals] at h2
      split at h2
      · rename_i a b ha hb
        simp only [Option.some.injEq] at h2; subst h2
        exact .cons (H _ _ _ hy ha) (HO.list H hl hb)
      · simp at h2
    · simp at h

theorem HO.opt (H : HO c env vals Φ ρ) {x : Option Operand} {y : Option Opd} {a : Option AV} (h : trOptd c x = some y) (h2 : aopt env vals y = some a) :
    (x = none ∧ a = none) ∨ ∃ x' a', x = some x' ∧ a = some a' ∧ R Φ a' (ρ x') := by
  cases x with
  | none =>
    simp only [trOptd, Option.some.injEq] at h; subst h
    simp only [aopt, Option.some.injEq] at h2; subst h2
    exact .inl ⟨rfl, rfl⟩
  | some x =>
    simp only [trOptd] at h
    split at h
    · rename_i y' hy
      simp only [Option.some.injEq] at h; subst h
      simp only [aopt] at h2
      split at h2
      · rename_i a' ha
        simp only [Option.some.injEq] at h2; subst h2
        exact .inr ⟨x, a', rfl, rfl, H _ _ _ hy ha⟩
      · simp at h2
    · simp at h

theorem take_set_succ (cs : List Value) (p : Nat) (v : Value) (h : p < cs.length) : (cs.set p v).take (p + 1) = cs.take p ++ [v] := by
  rw [List.set_eq_take_append_cons_drop, if_pos h, List.take_append, List.length_take, Nat.min_eq_left (Nat.le_of_lt h)]
  have e : p + 1 - p = 1 := by omega
  rw [e, List.take_of_length_le (by simp; omega)]
  simp

theorem toArray_fold_set (cs new : List Value) : ∀ (o : Nat), o + new.length ≤ cs.length →
    new.zipIdx.foldl (fun (a : Array Value) (x : Value × Nat) => a.setIfInBounds (o + x.2) x.1) cs.toArray = (cs.take o ++ new ++ cs.drop (o + new.length)).toArray := by
  have gen : ∀ (new : List Value) (k o : Nat) (cs : List Value), o + k + new.length ≤ cs.length →
      (new.zipIdx k).foldl (fun (a : Array Value) (x : Value × Nat) => a.setIfInBounds (o + x.2) x.1) cs.toArray = (cs.take (o + k) ++ new ++ cs.drop (o + k + new.length)).toArray := by
    intro new
    induction new with
    | nil => intro k o cs h; simp
    | cons v r ih =>
      intro k o cs h
      simp only [List.zipIdx_cons, List.foldl_cons, List.setIfInBounds_toArray]
      simp only [List.length_cons] at h
      rw [ih (k + 1) o (cs.set (o + k) v) (by simp; omega)]
      congr 1
      have e1 : o + (k + 1) = (o + k) + 1 := by omega
      rw [e1, take_set_succ _ _ _ (by omega), List.drop_set_of_lt (by omega)]
      simp only [List.append_assoc, List.cons_append, List.nil_append, List.length_cons]
      congr 4
      omega
  intro o h
  have := gen new 0 o cs (by simpa using h)
  simpa using this

theorem Rs.splice' {a n : List AV} {x y : List Value} (h : Rs Φ a x) (h2 : Rs Φ n y) (o : Nat) : Rs Φ (splice a o n) (x.take o ++ y ++ x.drop (o + y.length)) := by
  unfold splice
  rw [h2.len]
  exact ((h.take o).append h2).append (h.drop _)

theorem fill_ok (place : Nat → Option (Nat × Nat)) (H : HO c env vals Φ ρ) : ∀ (parts : List (Nat × Operand)) {ps : List (Nat × Nat × Opd)} {uas : List (Nat × Nat × AV)} {zero cs : List AV} {zs : List Value},
    trParts c place parts = some ps → aparts env vals ps = some uas → fillA zero uas = some cs → Rs Φ zero zs →
    ∃ vs : List Value, Instr.fill place zs.toArray (parts.map fun p => (p.1, ρ p.2)) = some vs.toArray ∧ Rs Φ cs vs
  | [], ps, uas, zero, cs, zs, h, h2, h3, hz => by
    simp only [trParts, Option.some.injEq] at h; subst h
    simp only [aparts, Option.some.injEq] at h2; subst h2
    simp only [fillA, Option.some.injEq] at h3; subst h3
    exact ⟨zs, by simp [Instr.fill], hz⟩
  | (i, x) :: r, ps, uas, zero, cs, zs, h, h2, h3, hz => by
    simp only [trParts] at h
    split at h
    · rename_i o n y l hp hy hl
      simp only [Option.some.injEq] at h; subst h
      simp only [aparts] at h2
      split at h2
      · rename_i a b ha hb
        simp only [Option.some.injEq] at h2; subst h2
        simp only [fillA] at h3
        split at h3
        · rename_i hc
          simp only [Bool.and_eq_true, Bool.not_eq_true', beq_iff_eq, decide_eq_true_eq] at hc
          obtain ⟨⟨hj, hn⟩, hlen⟩ := hc
          have hcells := R.cells (H _ _ _ hy ha) hj
          obtain ⟨vs, hv, hR⟩ := fill_ok place H r hl hb h3 (hz.splice' hcells o)
          refine ⟨vs, ?_, hR⟩
          have l1 := hcells.len
          have l2 := hz.len
          simp only [List.map_cons, Instr.fill, hp]
          have e1 : (ρ x).cells.size = n := by rw [← hn, ← l1]; simp
          have e2 : ¬ ((ρ x).cells.size ≠ n || decide (o + (ρ x).cells.size > zs.toArray.size)) = true := by
            simp [e1, l2]; omega
          rw [if_neg e2]
          have e3 := toArray_fold_set zs (ρ x).cells.toList o (by rw [l1, hn, l2]; omega)
          rw [← hv]
          congr 1
          rw [← e3, ← Array.foldl_toList]
          simp
        · simp at h3
      · simp at h2
    · simp at h
end
end Go.Am

/- Operations that touch no memory: what compact code says is what the machine does. -/
namespace Go.Am

section types
variable {P : Program} {t : TypeId} {w : World}

theorem sizeP_info {n : Nat} (h : sizeP P t = some n) : ∃ i, P.info? t = some i ∧ i.size = n ∧ n ≠ 0 := by
  unfold sizeP at h
  split at h
  · rename_i i hi
    split at h
    · simp at h
    · rename_i hz
      simp only [Option.some.injEq] at h
      exact ⟨i, hi, h, by omega⟩
  · simp at h

theorem run_info {i : TypeInfo} (h : P.info? t = some i) : (typeInfo t).run P w = .ok i w := by simp [typeInfo, h]

theorem run_size {n : Nat} (h : sizeP P t = some n) : (sizeOf t).run P w = .ok n w := by
  obtain ⟨i, hi, hn, _⟩ := sizeP_info h
  simp [sizeOf, run_info hi, hn]

theorem run_agg {g : Bool} (h : aggP P t = some g) : (isAgg t).run P w = .ok g w := by
  unfold aggP at h
  split at h <;> simp only [Option.some.injEq, reduceCtorEq] at h
  · rename_i hu; subst h; simp [isAgg, run_underlying hu]
  · rename_i hu; subst h; simp [isAgg, run_underlying hu]
  · rename_i d h1 h2 hu
    subst h
    simp only [isAgg, Sem.run_bind, run_underlying hu, Result.andThen_ok]
    cases d <;> first | rfl | (exact absurd hu (h1 _)) | (exact absurd hu (h2 _ _))

theorem trConst_notJunk {v : Value} {a : AV} (h : trConst v = some a) : a.isJunk = false := by
  cases a <;> first | rfl | skip
  cases v with
  | pointer p => cases p <;> simp [trConst] at h
  | slice p n c => cases p <;> cases n <;> cases c <;> simp [trConst] at h
  | map p => cases p <;> simp [trConst] at h
  | agg cs =>
    simp only [trConst] at h
    split at h <;> simp at h
  | _ => simp [trConst] at h

theorem zeroP_info {l : List AV} (h : zeroP P t = some l) : ∃ i z, P.info? t = some i ∧ i.zero = some z ∧ l.length = i.size ∧ i.size ≠ 0 ∧ ∀ Φ, Rs Φ l z.cells.toList := by
  unfold zeroP at h
  split at h
  · rename_i i hi
    split at h
    · rename_i z hz
      split at h
      · rename_i v hv
        split at h
        · rename_i hc
          simp only [Option.some.injEq] at h
          subst h
          exact ⟨i, z, hi, hz, hc.1, hc.2, fun Φ => R.cells (trConst_R z hv) (trConst_notJunk hv)⟩
        · simp at h
      · simp at h
    · simp at h
  · simp at h

theorem run_zero {i : TypeInfo} {z : Value} (h : P.info? t = some i) (hz : i.zero = some z) : (zeroValue t).run P w = .ok z w := by
  simp [zeroValue, run_info h, hz]

theorem run_part' {Φ : Phi} {n : Nat} {g : Bool} (hs : sizeP P t = some n) (hg : aggP P t = some g) {cs : List AV} {vs : List Value} (hR : Rs Φ cs vs) (off : Nat)
    {v : AV} (hv : mkv g ((cs.drop off).take n) = some v) : ∃ v', (part t vs.toArray off).run P w = .ok v' w ∧ R Φ v v' := by
  unfold part
  cases g with
  | true =>
    simp only [mkv, if_true, Option.some.injEq] at hv
    subst hv
    simp only [Sem.run_bind, run_agg hg, Result.andThen_ok, if_true, run_size hs, Sem.run_pure]
    refine ⟨_, rfl, ?_⟩
    simp only [R]
    refine ⟨((vs.drop off).take n), ?_, (hR.drop off).take n⟩
    simp [List.extract_eq_take_drop]
  | false =>
    simp only [mkv, Bool.false_eq_true, if_false] at hv
    split at hv
    · rename_i x hx
      simp only [Option.some.injEq] at hv
      subst hv
      have hlen : ((cs.drop off).take n).length = 1 := by rw [hx]; rfl
      simp at hlen
      have h0 : cs[off]? = some x := by
        have : ((cs.drop off).take n)[0]? = some x := by rw [hx]; rfl
        rw [List.getElem?_take_of_lt (by omega), List.getElem?_drop] at this
        simpa using this
      obtain ⟨u, hu, hRu⟩ := hR.get h0
      have hu' : vs.toArray[off]? = some u := by simpa using hu
      exact ⟨u, by simp [run_agg hg, hu'], hRu⟩
    · simp at hv
end types

section
variable {c : Ctx} {env vals : List AV} {Φ : Phi} {ρ : Operand → Value} {w : World}

/-- What an operation yields. -/
def Yields (c : Ctx) (Φ : Phi) (ρ : Operand → Value) (w : World) (o : Oper) (v : AV) : Prop :=
  ∃ v', (execOp ρ o).run c.P w = .ok (.value v') w ∧ R Φ v v'

theorem binI_ok {op : BinOp} {k : IntKind} {a b : Int} {v : AV} (t : TypeId) (hs : isShift op = false) (h : binI op k a b = some v) :
    ∃ v', (binOp op t (.int k a) (.int k b)).run c.P w = .ok v' w ∧ R Φ v v' := by
  cases op <;> simp [isShift] at hs <;> simp only [binI] at h <;> first
    | (simp only [Option.some.injEq] at h; subst h; exact ⟨_, by simp [binOp, Op.intArith, Op.intCmp]; rfl, by simp only [R]⟩)
    | (split at h
       · simp at h
       · rename_i hb
         simp only [Option.some.injEq] at h; subst h
         exact ⟨_, by simp [binOp, Op.intDiv, hb]; rfl, by simp only [R]⟩)
    | (simp only [bitsA, Option.some.injEq] at h; subst h; exact ⟨_, by simp only [binOp, ne_eq, not_true_eq_false, if_false, Op.intBits]; rfl, by simp only [R]⟩)

theorem shiftI_ok {op : BinOp} {k k' : IntKind} {a b : Int} {v : AV} (t : TypeId) (hs : isShift op = true) (h : shiftI op k a b = some v) :
    ∃ v', (binOp op t (.int k a) (.int k' b)).run c.P w = .ok v' w ∧ R Φ v v' := by
  unfold shiftI at h
  split at h
  · simp at h
  · rename_i hb
    cases op <;> simp [isShift] at hs <;> simp only [Option.some.injEq] at h <;> subst h
    · exact ⟨_, by simp [binOp, Op.shift, hb]; rfl, by simp only [R]⟩
    · exact ⟨_, by simp [binOp, Op.shift, hb]; rfl, by simp only [R]⟩

theorem binS_ok {op : BinOp} {x y : List UInt8} {v : AV} (t : TypeId) (h : binS op x y = some v) :
    ∃ v', (binOp op t (.string ⟨x.toArray⟩) (.string ⟨y.toArray⟩)).run c.P w = .ok v' w ∧ R Φ v v' := by
  cases op <;> simp only [binS, Option.some.injEq, reduceCtorEq] at h
  · split at h
    · rename_i hl
      simp only [Option.some.injEq] at h; subst h
      refine ⟨.string ⟨(x ++ y).toArray⟩, ?_, by simp only [R]⟩
      have hs : ¬ (((⟨x.toArray⟩ : ByteArray).size + (⟨y.toArray⟩ : ByteArray).size : Nat) : Int) > IntKind.i64.max := by
        simp [ByteArray.size, IntKind.max, IntKind.signed, IntKind.bits]; omega
      simp only [binOp, Op.stringOp]
      rw [if_neg hs]
      simp only [Sem.run_pure]
      congr 2
    · simp at h
  all_goals
    subst h
    exact ⟨_, by simp [binOp, Op.stringOp]; rfl, by simp [R]⟩

theorem binA_ok {op : BinOp} {a b v : AV} {x y : Value} (t : TypeId) (ha : R Φ a x) (hb : R Φ b y) (h : binA op a b = some v) :
    ∃ v', (binOp op t x y).run c.P w = .ok v' w ∧ R Φ v v' := by
  unfold binA at h
  split at h
  · rename_i k m k' n
    simp only [R] at ha hb; subst ha; subst hb
    split at h
    · rename_i hs; exact shiftI_ok t hs h
    · rename_i hs
      split at h
      · rename_i hk; subst hk; exact binI_ok t (by simpa using hs) h
      · simp at h
  · simp only [R] at ha hb; subst ha; subst hb
    exact binS_ok t h
  · simp at h

theorem eqGuard_plain {op : BinOp} (t : TypeId) (x y : Operand) (a b : Value) (h : ∀ u v, ¬ (a = .nilIface ∧ b = .nilIface) ∧ ¬ (a = .agg u ∧ b = .agg v)) :
    (eqGuard op t x y a b).run c.P w = .ok () w := by
  unfold eqGuard
  cases op <;> first
    | rfl
    | (cases a <;> cases b <;> first
        | rfl
        | (exact absurd ⟨rfl, rfl⟩ (h #[] #[]).1)
        | (exact absurd ⟨rfl, rfl⟩ (h _ _).2))

theorem bin_ok (H : HO c env vals Φ ρ) {op : BinOp} {x y : Operand} {a b : Opd} {v : AV} (t yt : TypeId) (o : Oper) (ho : o.op = .binOp op t x y yt)
    (hx : trOpd c x = some a) (hy : trOpd c y = some b) (hv : aPure env vals (.bin op a b) = some v) : Yields c Φ ρ w o v := by
  simp only [aPure] at hv
  split at hv
  · rename_i u u' hu hu'
    have h1 := H _ _ _ hx hu
    have h2 := H _ _ _ hy hu'
    obtain ⟨v', hr, hR⟩ := binA_ok (c := c) (w := w) t h1 h2 hv
    refine ⟨v', ?_, hR⟩
    have hg : (eqGuard op t x y (ρ x) (ρ y)).run c.P w = .ok () w := by
      refine eqGuard_plain t x y _ _ fun p q => ?_
      unfold binA at hv
      split at hv
      · simp only [R] at h1; rw [h1]; simp
      · simp only [R] at h1; rw [h1]; simp
      · simp at hv
    simp [execOp, ho, hg, hr]
  · simp at hv

end
end Go.Am

/- Comparing values leaf by leaf: what compact code says is what the machine does. -/
namespace Go.Am

theorem leafsEq_append : ∀ (k1 a1 b1 k2 a2 b2 : List _), a1.length = k1.length → b1.length = k1.length →
    leafsEq (k1 ++ k2) (a1 ++ a2) (b1 ++ b2) = (match leafsEq k1 a1 b1 with
      | some true => leafsEq k2 a2 b2
      | r => r)
  | [], [], [], k2, a2, b2, _, _ => by simp [leafsEq]
  | [], _ :: _, _, _, _, _, h, _ => by simp at h
  | [], [], _ :: _, _, _, _, _, h => by simp at h
  | _ :: _, [], _, _, _, _, h, _ => by simp at h
  | _ :: _, _ :: _, [], _, _, _, _, h => by simp at h
  | k :: k1, a :: a1, b :: b1, k2, a2, b2, h1, h2 => by
    have ih := leafsEq_append k1 a1 b1 k2 a2 b2 (by simpa using h1) (by simpa using h2)
    cases k <;> cases a <;> cases b <;> simp only [List.cons_append, leafsEq] <;> (try rfl)
    all_goals (repeat' split) <;> first | exact ih | rfl | (simp_all; done)

theorem leafsEq_take (k1 k2 a b : List _) (ha : k1.length ≤ a.length) (hb : k1.length ≤ b.length) :
    leafsEq (k1 ++ k2) a b = (match leafsEq k1 (a.take k1.length) (b.take k1.length) with
      | some true => leafsEq k2 (a.drop k1.length) (b.drop k1.length)
      | r => r) := by
  rw [← leafsEq_append k1 (a.take k1.length) (b.take k1.length) k2 (a.drop k1.length) (b.drop k1.length) (by simp; omega) (by simp; omega)]
  rw [List.take_append_drop, List.take_append_drop]

/-- A value of a type out of its cells. -/
def asV (P : Program) (t : TypeId) (xs : List Value) : Value :=
  match P.underlying t with
  | some (.struct _) | some (.array _ _) => .agg xs.toArray
  | _ => xs.headD undef

section
variable {P : Program} {Φ : Phi} {w : World}

theorem leafK_pos : ∀ {d : Nat} {t : TypeId} {ks : List EqK}, leafK P d t = some ks → ∃ i dd, P.info? t = some i ∧ P.underlying t = some dd ∧ ks.length = i.size
  | 0, t, ks, h => by simp [leafK] at h
  | d + 1, t, ks, h => by
    unfold leafK at h
    split at h
    · simp at h
    · rename_i i hi
      split at h
      · rename_i hu; split at h
        · rename_i hs; simp only [Option.some.injEq] at h; subst h; exact ⟨i, _, hi, hu, by simp [hs]⟩
        · simp at h
      · rename_i hu; split at h
        · rename_i hs; simp only [Option.some.injEq] at h; subst h; exact ⟨i, _, hi, hu, by simp [hs]⟩
        · simp at h
      · rename_i hu; split at h
        · rename_i hs; simp only [Option.some.injEq] at h; subst h; exact ⟨i, _, hi, hu, by simp [hs]⟩
        · simp at h
      · rename_i n e hu
        split at h
        · rename_i l hl
          split at h
          · rename_i hs; simp only [Option.some.injEq] at h; subst h
            refine ⟨i, _, hi, hu, ?_⟩
            rw [← hs.1]; simp [Nat.mul_comm]
          · simp at h
        · simp at h
      · rename_i fs hu
        split at h
        · simp at h
        · split at h
          · rename_i l hl
            split at h
            · rename_i hs; simp only [Option.some.injEq] at h; subst h; exact ⟨i, _, hi, hu, hs⟩
            · simp at h
          · simp at h
      · simp at h

theorem run_part_asV {d : Nat} {e : TypeId} {l : List EqK} (hl : leafK P d e = some l) (hs : (P.info? e).map (·.size) = some l.length) (hn : l.length ≠ 0) (vs : List Value) (off : Nat) (ho : off + l.length ≤ vs.length) :
    (part e vs.toArray off).run P w = .ok (asV P e ((vs.drop off).take l.length)) w := by
  obtain ⟨i, dd, hi, hu, hz⟩ := leafK_pos hl
  have hsz : (sizeOf e).run P w = .ok l.length w := by simp [sizeOf, run_info hi, hz]
  have cellcase : (∀ fs, dd ≠ .struct fs) → (∀ n k, dd ≠ .array n k) → l.length = 1 → (part e vs.toArray off).run P w = .ok (asV P e ((vs.drop off).take l.length)) w := by
    intro h1 h2 h3
    have ha : aggP P e = some false := by
      unfold aggP; rw [hu]
      cases dd <;> first | rfl | exact absurd rfl (h1 _) | exact absurd rfl (h2 _ _)
    have hv : vs.toArray[off]? = some (vs[off]'(by omega)) := by simp
    have he : (vs.drop off).take l.length = [vs[off]'(by omega)] := by
      rw [h3, List.drop_eq_getElem_cons (by omega), List.take_succ_cons, List.take_zero]
    rw [he]
    simp only [part, Sem.run_bind, run_agg ha, Result.andThen_ok, Bool.false_eq_true, if_false, hv, Sem.run_pure]
    congr 1
    unfold asV; rw [hu]
    cases dd <;> first | rfl | exact absurd rfl (h1 _) | exact absurd rfl (h2 _ _)
  have aggcase : aggP P e = some true → asV P e ((vs.drop off).take l.length) = .agg ((vs.drop off).take l.length).toArray → (part e vs.toArray off).run P w = .ok (asV P e ((vs.drop off).take l.length)) w := by
    intro ha hv
    rw [hv]
    simp only [part, Sem.run_bind, run_agg ha, Result.andThen_ok, if_true, hsz, Sem.run_pure]
    congr 2
    simp [List.extract_eq_take_drop]
  cases d with
  | zero => simp [leafK] at hl
  | succ d =>
    unfold leafK at hl
    rw [hi] at hl
    simp only at hl
    rw [hu] at hl
    cases dd with
    | struct fs => exact aggcase (by simp [aggP, hu]) (by simp [asV, hu])
    | array n k => exact aggcase (by simp [aggP, hu]) (by simp [asV, hu])
    | bool => simp only at hl; split at hl <;> simp at hl; subst hl; exact cellcase (by simp) (by simp) rfl
    | int k => simp only at hl; split at hl <;> simp at hl; subst hl; exact cellcase (by simp) (by simp) rfl
    | string => simp only at hl; split at hl <;> simp at hl; subst hl; exact cellcase (by simp) (by simp) rfl
    | _ => simp at hl

/-- Equality at a depth, of values that are compared leaf by leaf. -/
def EqLeaf (P : Program) (dd d : Nat) : Prop :=
  ∀ (t : TypeId) (ks : List EqK), leafK P d t = some ks → ∀ (Φ : Phi) (w : World) (uas bs : List AV) (xs ys : List Value) (r : Bool),
    Rs Φ uas xs → Rs Φ bs ys → uas.length = ks.length → bs.length = ks.length → leafsEq ks uas bs = some r →
    (Op.equalIn dd t (asV P t xs) (asV P t ys)).run P w = .ok r w

theorem eqItems_leaf {dd d : Nat} (IH : EqLeaf P dd d) {e : TypeId} {l : List EqK} (hl : leafK P d e = some l) (hs : (P.info? e).map (·.size) = some l.length) (hn : l.length ≠ 0) :
    ∀ (m i : Nat) (uas bs : List AV) (xs ys : List Value) (r : Bool), Rs Φ uas xs → Rs Φ bs ys → uas.length = (i + m) * l.length → bs.length = (i + m) * l.length →
      leafsEq ((List.replicate m l).flatten) (uas.drop (i * l.length)) (bs.drop (i * l.length)) = some r →
      (Op.eqItems dd e (P.cellsOf e) xs.toArray ys.toArray (List.range' i m)).run P w = .ok r w
  | 0, i, uas, bs, xs, ys, r, hx, hy, ha, hb, h => by
    have e1 : uas.drop (i * l.length) = [] := List.drop_of_length_le (by rw [ha]; simp)
    have e2 : bs.drop (i * l.length) = [] := List.drop_of_length_le (by rw [hb]; simp)
    rw [e1, e2] at h
    simp [leafsEq] at h
    subst h
    simp [Op.eqItems]
  | m + 1, i, uas, bs, xs, ys, r, hx, hy, ha, hb, h => by
    have hc : P.cellsOf e = l.length := by unfold Program.cellsOf; rw [hs]; rfl
    have hlen : i * l.length + l.length ≤ (i + (m + 1)) * l.length := by
      have := Nat.mul_le_mul_right l.length (show i + 1 ≤ i + (m + 1) by omega)
      rw [Nat.add_mul] at this; omega
    have hlx := hx.len
    have hly := hy.len
    rw [List.replicate_succ, List.flatten_cons, leafsEq_take _ _ _ _ (by simp; omega) (by simp; omega)] at h
    have p1 := run_part_asV (w := w) hl hs hn xs (i * l.length) (by omega)
    have p2 := run_part_asV (w := w) hl hs hn ys (i * l.length) (by omega)
    simp only [List.range'_succ, Op.eqItems, hc, Sem.run_bind, p1, p2, Result.andThen_ok]
    cases hq : leafsEq l (List.take l.length (List.drop (i * l.length) uas)) (List.take l.length (List.drop (i * l.length) bs)) with
    | none => rw [hq] at h; simp at h
    | some q =>
      have hqr := IH e l hl Φ w _ _ _ _ q ((hx.drop (i * l.length)).take l.length) ((hy.drop (i * l.length)).take l.length) (by simp; omega) (by simp; omega) hq
      rw [hqr]
      rw [hq] at h
      cases q with
      | false => simp only [Option.some.injEq] at h; subst h; simp
      | true =>
        simp only [List.drop_drop] at h
        have := eqItems_leaf IH hl hs hn m (i + 1) uas bs xs ys r hx hy (by rw [ha]; congr 1; omega) (by rw [hb]; congr 1; omega)
          (by rw [show (i + 1) * l.length = i * l.length + l.length by rw [Nat.add_mul]; omega]; exact h)
        rw [hc] at this
        simpa using this

theorem eqFields_leaf {dd d : Nat} (IH : EqLeaf P dd d) : ∀ (fs : List Field) (o : Nat) (ks : List EqK) (uas bs : List AV) (xs ys : List Value) (r : Bool),
    fieldsK P (leafK P d) fs o = some ks → Rs Φ uas xs → Rs Φ bs ys → uas.length = o + ks.length → bs.length = o + ks.length → leafsEq ks (uas.drop o) (bs.drop o) = some r →
    (Op.eqFields dd xs.toArray ys.toArray fs).run P w = .ok r w
  | [], o, ks, uas, bs, xs, ys, r, hk, hx, hy, ha, hb, h => by
    simp only [fieldsK, Option.some.injEq] at hk; subst hk
    have e1 : uas.drop o = [] := List.drop_of_length_le (by rw [ha]; simp)
    have e2 : bs.drop o = [] := List.drop_of_length_le (by rw [hb]; simp)
    rw [e1, e2] at h
    simp [leafsEq] at h
    subst h
    simp [Op.eqFields]
  | f :: fs, o, ks, uas, bs, xs, ys, r, hk, hx, hy, ha, hb, h => by
    simp only [fieldsK] at hk
    split at hk
    · simp at hk
    · rename_i hno
      have hname : f.name ≠ "_" := fun e => hno (.inl e)
      have hoff : f.offset = o := Classical.byContradiction fun e => hno (.inr e)
      split at hk
      · rename_i l hl
        split at hk
        · rename_i hs
          split at hk
          · rename_i m hm
            simp only [Option.some.injEq] at hk; subst hk
            simp only [List.length_append] at ha hb
            rw [leafsEq_take _ _ _ _ (by simp; omega) (by simp; omega)] at h
            have hlx := hx.len
            have hly := hy.len
            simp only [Op.eqFields, hname, ne_eq, not_false_eq_true, if_true, Sem.run_bind]
            have p1 := run_part_asV (w := w) hl hs.1 hs.2 xs f.offset (by omega)
            have p2 := run_part_asV (w := w) hl hs.1 hs.2 ys f.offset (by omega)
            rw [p1]
            simp only [Result.andThen_ok, p2]
            rw [hoff]
            cases hq : leafsEq l (List.take l.length (List.drop o uas)) (List.take l.length (List.drop o bs)) with
            | none => rw [hq] at h; simp at h
            | some q =>
              have hqr := IH f.type l hl Φ w _ _ _ _ q ((hx.drop o).take l.length) ((hy.drop o).take l.length) (by simp; omega) (by simp; omega) hq
              rw [hqr]
              rw [hq] at h
              cases q with
              | false => simp only [Option.some.injEq] at h; subst h; simp
              | true =>
                simp only [List.drop_drop] at h
                have := eqFields_leaf IH fs (o + l.length) m uas bs xs ys r hm hx hy (by omega) (by omega) h
                simpa using this
          · simp at hk
        · simp at hk
      · simp at hk

theorem eqLeaf (P : Program) (x : Nat) : ∀ (d : Nat), EqLeaf P (x + d) d
  | 0 => by intro t ks h; simp [leafK] at h
  | d + 1 => by
    intro t ks h Φ w uas bs xs ys r hx hy ha hb hq
    have IH := eqLeaf P x d
    obtain ⟨i, dd, hi, hu, hz⟩ := leafK_pos h
    have h0 := h
    unfold leafK at h
    rw [hi] at h
    simp only at h
    rw [hu] at h
    have one : ks.length = 1 → ∃ a b v u, uas = [a] ∧ bs = [b] ∧ xs = [v] ∧ ys = [u] ∧ R Φ a v ∧ R Φ b u := by
      intro h1
      match uas, ha.trans h1, bs, hb.trans h1, hx, hy with
      | [a], _, [b], _, hx, hy =>
        simp only [Rs] at hx hy
        obtain ⟨v, vs, rfl, h2, rfl⟩ := hx
        obtain ⟨u, us, rfl, h3, rfl⟩ := hy
        exact ⟨a, b, v, u, rfl, rfl, rfl, rfl, h2, h3⟩
    cases dd with
    | bool =>
      simp only at h; split at h <;> simp at h; subst h
      obtain ⟨a, b, v, u, rfl, rfl, rfl, rfl, hR, hR'⟩ := one rfl
      cases a <;> cases b <;> simp [leafsEq] at hq
      simp only [R] at hR hR'; subst hR; subst hR'
      simp only [asV, hu, List.headD_cons]
      rw [show x + (d + 1) = (x + d) + 1 from rfl, run_equalIn_bool w _ _ _ _ hu]
      split at hq <;> simp_all
    | int k =>
      simp only at h; split at h <;> simp at h; subst h
      obtain ⟨a, b, v, u, rfl, rfl, rfl, rfl, hR, hR'⟩ := one rfl
      cases a <;> cases b <;> simp only [leafsEq, reduceCtorEq] at hq
      split at hq
      · rename_i hk
        subst hk
        simp only [R] at hR hR'; subst hR; subst hR'
        simp only [asV, hu, List.headD_cons]
        rw [show x + (d + 1) = (x + d) + 1 from rfl, run_equalIn_int w _ _ _ _ _ _ hu]
        split at hq <;> simp_all
      · simp at hq
    | string =>
      simp only at h; split at h <;> simp at h; subst h
      obtain ⟨a, b, v, u, rfl, rfl, rfl, rfl, hR, hR'⟩ := one rfl
      cases a <;> cases b <;> simp only [leafsEq, reduceCtorEq] at hq
      simp only [R] at hR hR'; subst hR; subst hR'
      simp only [asV, hu, List.headD_cons]
      rw [show x + (d + 1) = (x + d) + 1 from rfl, run_equalIn_string w _ _ _ _ hu]
      split at hq <;> simp_all
    | array n e =>
      simp only at h
      split at h
      · rename_i l hl
        split at h
        · rename_i hs
          simp only [Option.some.injEq] at h; subst h
          obtain ⟨j, _, hj, _, _⟩ := leafK_pos hl
          simp only [asV, hu]
          rw [show x + (d + 1) = (x + d) + 1 from rfl, run_equalIn_array w _ _ _ hu hj, List.range_eq_range']
          have hlen : ((List.replicate n l).flatten).length = n * l.length := by simp
          exact eqItems_leaf IH hl hs.2.1 hs.2.2 n 0 uas bs xs ys r hx hy (by rw [ha, hlen]; simp) (by rw [hb, hlen]; simp) (by simpa using hq)
        · simp at h
      · simp at h
    | struct fs =>
      simp only at h
      split at h
      · simp at h
      · rename_i hp
        split at h
        · rename_i l hl
          split at h
          · simp only [Option.some.injEq] at h; subst h
            simp only [asV, hu]
            have hf : P.fieldsOf t = fs := by simp [Program.fieldsOf, hu]
            rw [show x + (d + 1) = (x + d) + 1 from rfl, run_equalIn_struct w _ _ _ _ (by rw [hf]; exact hu) (by simpa using hp), hf]
            exact eqFields_leaf IH fs.toList 0 l uas bs xs ys r hl hx hy (by omega) (by omega) (by simpa using hq)
          · simp at h
        · simp at h
    | _ => simp at h

/-- '==' of structs and arrays. -/
theorem eqs_agg_ok {t : TypeId} {ks : List EqK} (hl : leafK P 20 t = some ks) (hu : (∃ fs, P.underlying t = some (.struct fs)) ∨ ∃ n e, P.underlying t = some (.array n e))
    {a b : AV} {x y : Value} {r : Bool} (ha : R Φ a x) (hb : R Φ b y) (h : eqA ks true a b = some r) : (Op.equal t x y).run P w = .ok r w := by
  simp only [eqA, if_true] at h
  split at h
  · rename_i p q
    split at h
    · rename_i hlen
      simp only [R] at ha hb
      obtain ⟨xs, rfl, hx⟩ := ha
      obtain ⟨ys, rfl, hy⟩ := hb
      have := eqLeaf P 9980 20 t ks hl Φ w p q xs ys r hx hy hlen.1 hlen.2 h
      have e : ∀ zs : List Value, asV P t zs = .agg zs.toArray := by
        intro zs
        rcases hu with ⟨fs, hu⟩ | ⟨n, e, hu⟩ <;> simp [asV, hu]
      rw [e, e] at this
      exact this
    · simp at h
  · simp at h
end
end Go.Am

/- All operations that touch no memory: what compact code says is what the machine does. -/
namespace Go.Am

section
variable {c : Ctx} {env vals : List AV} {Φ : Phi} {ρ : Operand → Value} {w : World}

theorem eqNil_ok {t : TypeId} {k : NilK} {a b : AV} {x y : Value} {r : Bool} {d : TypeDesc} (hu : c.P.underlying t = some d)
    (hd : (k = .ptr ∧ ∃ e, d = .pointer e) ∨ (k = .slice ∧ ∃ e, d = .slice e) ∨ (k = .map ∧ ∃ k e, d = .map k e) ∨ (k = .func ∧ ∃ p q v, d = .func p q v))
    (ha : R Φ a x) (hb : R Φ b y) (h : eqNil k a b = some r) :
    (∀ d, (Op.equalIn (d + 1) t x y).run c.P w = .ok r w) ∧ (∀ u v, ¬ (x = .nilIface ∧ y = .nilIface) ∧ ¬ (x = .agg u ∧ y = .agg v)) ∧
      (binOp .eql t x y = (do pure (.bool (← Op.equal t x y)))) ∧ (binOp .neq t x y = (do pure (.bool (!(← Op.equal t x y))))) := by
  rcases hd with ⟨rfl, e, rfl⟩ | ⟨rfl, e, rfl⟩ | ⟨rfl, e, e', rfl⟩ | ⟨rfl, e, e', v, rfl⟩
  · cases a <;> cases b <;> simp [eqNil] at h <;> subst h <;> simp only [R] at ha hb
    · obtain ⟨l, _, rfl⟩ := ha
      subst hb
      exact ⟨fun d => by simp [Op.equalIn, run_underlying hu], by simp, rfl, rfl⟩
    · obtain ⟨l, _, rfl⟩ := hb
      subst ha
      exact ⟨fun d => by simp [Op.equalIn, run_underlying hu], by simp, rfl, rfl⟩
    · subst ha; subst hb
      exact ⟨fun d => by simp [Op.equalIn, run_underlying hu], by simp, rfl, rfl⟩
  · cases a <;> cases b <;> simp [eqNil] at h <;> subst h <;> simp only [R] at ha hb
    · obtain ⟨l, a, q, _, rfl, _⟩ := ha
      subst hb
      exact ⟨fun d => by simp [Op.equalIn, run_underlying hu], by simp, rfl, rfl⟩
    · obtain ⟨l, a, q, _, rfl, _⟩ := hb
      subst ha
      exact ⟨fun d => by simp [Op.equalIn, run_underlying hu], by simp, rfl, rfl⟩
    · subst ha; subst hb
      exact ⟨fun d => by simp [Op.equalIn, run_underlying hu], by simp, rfl, rfl⟩
    · obtain ⟨a, rfl⟩ := hb
      subst ha
      exact ⟨fun d => by simp [Op.equalIn, run_underlying hu], by simp, rfl, rfl⟩
    · obtain ⟨a, rfl⟩ := ha
      subst hb
      exact ⟨fun d => by simp [Op.equalIn, run_underlying hu], by simp, rfl, rfl⟩
  · cases a <;> cases b <;> simp [eqNil] at h <;> subst h <;> simp only [R] at ha hb
    · obtain ⟨l, _, rfl⟩ := ha
      subst hb
      exact ⟨fun d => by simp [Op.equalIn, run_underlying hu], by simp, rfl, rfl⟩
    · obtain ⟨l, _, rfl⟩ := hb
      subst ha
      exact ⟨fun d => by simp [Op.equalIn, run_underlying hu], by simp, rfl, rfl⟩
    · subst ha; subst hb
      exact ⟨fun d => by simp [Op.equalIn, run_underlying hu], by simp, rfl, rfl⟩
  · cases a <;> cases b <;> simp [eqNil] at h <;> subst h <;> simp only [R] at ha hb
    · obtain ⟨l, _, rfl, _⟩ := ha
      subst hb
      exact ⟨fun d => by simp [Op.equalIn, run_underlying hu], by simp, rfl, rfl⟩
    · obtain ⟨l, _, rfl, _⟩ := hb
      subst ha
      exact ⟨fun d => by simp [Op.equalIn, run_underlying hu], by simp, rfl, rfl⟩
    · subst ha; subst hb
      exact ⟨fun d => by simp [Op.equalIn, run_underlying hu], by simp, rfl, rfl⟩

theorem eqGuard_agg {op : BinOp} (t : TypeId) (x y : Operand) (a b : Array Value) (h : c.P.eqGuardType c.P.depth t = false) :
    (eqGuard op t x y (.agg a) (.agg b)).run c.P w = .ok () w := by
  unfold eqGuard
  cases op <;> first
    | rfl
    | simp [h]

theorem eq_ok (H : HO c env vals Φ ρ) {neg : Bool} {op : BinOp} (hop : op = if neg then .neq else .eql) {x y : Operand} {ao : AOp} {v : AV} (t yt : TypeId) (o : Oper) (ho : o.op = .binOp op t x y yt)
    (h : trEq c neg op t x y = some ao) (hv : aPure env vals ao = some v) : Yields c Φ ρ w o v := by
  unfold trEq at h
  split at h
  · rename_i p q hp hq
    split at h
    · simp only [Option.some.injEq] at h; subst h; exact bin_ok H t yt o ho hp hq hv
    · simp only [Option.some.injEq] at h; subst h; exact bin_ok H t yt o ho hp hq hv
    · rename_i hu
      simp only [Option.some.injEq] at h; subst h
      simp only [aPure] at hv
      split at hv
      · rename_i a b ha hb
        split at hv
        · rename_i r hr
          simp only [Option.some.injEq] at hv; subst hv
          have h1 := H _ _ _ hp ha
          have h2 := H _ _ _ hq hb
          simp only [eqA, Bool.false_eq_true, if_false] at hr
          cases a <;> cases b <;> simp only [leafsEq, reduceCtorEq] at hr
          simp only [R] at h1 h2
          rename_i b1 b2
          have hr' : r = (b1 == b2) := by
            split at hr <;> simp_all
          refine ⟨.bool (if neg then !r else r), ?_, by simp only [R]⟩
          have hg : (eqGuard op t x y (ρ x) (ρ y)).run c.P w = .ok () w := eqGuard_plain t x y _ _ (by rw [h1]; simp)
          rw [h1, h2] at hg
          cases neg
          · simp only [Bool.false_eq_true, if_false] at hop; subst hop
            simp [execOp, ho, hg, h1, h2, run_eql_bool w t b1 b2 hu, hr']
          · simp only [if_true] at hop; subst hop
            simp [execOp, ho, hg, h1, h2, run_neq_bool w t b1 b2 hu, hr']
        · simp at hv
      · simp at hv
    all_goals try (exfalso; simp at h; done)
    all_goals
      rename_i hu
      first
      | (split at h
         · simp at h
         · rename_i hgt
           split at h
           · rename_i ks hks
             simp only [Option.some.injEq] at h; subst h
             simp only [aPure] at hv
             split at hv
             · rename_i a b ha hb
               split at hv
               · rename_i r hr
                 simp only [Option.some.injEq] at hv; subst hv
                 have h1 := H _ _ _ hp ha
                 have h2 := H _ _ _ hq hb
                 have he := eqs_agg_ok (w := w) hks (by first | exact .inl ⟨_, hu⟩ | exact .inr ⟨_, _, hu⟩) h1 h2 hr
                 have ag : (∃ u, ρ x = .agg u) ∧ ∃ u, ρ y = .agg u := by
                   simp only [eqA, if_true] at hr
                   split at hr
                   · simp only [R] at h1 h2
                     obtain ⟨u, h1, _⟩ := h1
                     obtain ⟨u', h2, _⟩ := h2
                     exact ⟨⟨_, h1⟩, ⟨_, h2⟩⟩
                   · simp at hr
                 obtain ⟨⟨u, hx⟩, u', hy⟩ := ag
                 rw [hx, hy] at he
                 refine ⟨.bool (if neg then !r else r), ?_, by simp only [R]⟩
                 have hg := eqGuard_agg (op := op) (w := w) (c := c) t x y u u' (by simpa using hgt)
                 cases neg
                 · simp only [Bool.false_eq_true, if_false] at hop; subst hop
                   simp [execOp, ho, hx, hy, hg, binOp, he]
                 · simp only [if_true] at hop; subst hop
                   simp [execOp, ho, hx, hy, hg, binOp, he]
               · simp at hv
             · simp at hv
           · simp at h)
      | (simp only [Option.some.injEq] at h; subst h
         simp only [aPure] at hv
         split at hv
         · rename_i a b ha hb
           split at hv
           · rename_i r hr
             simp only [Option.some.injEq] at hv; subst hv
             have h1 := H _ _ _ hp ha
             have h2 := H _ _ _ hq hb
             obtain ⟨he, hn, e1, e2⟩ := eqNil_ok (w := w) hu (by simp) h1 h2 hr
             have he : (Op.equal t (ρ x) (ρ y)).run c.P w = .ok r w := he 9999
             refine ⟨.bool (if neg then !r else r), ?_, by simp only [R]⟩
             have hg : (eqGuard op t x y (ρ x) (ρ y)).run c.P w = .ok () w := eqGuard_plain t x y _ _ hn
             cases neg
             · simp only [Bool.false_eq_true, if_false] at hop; subst hop
               simp [execOp, ho, hg, e1, he]
             · simp only [if_true] at hop; subst hop
               simp [execOp, ho, hg, e2, he]
           · simp at hv
         · simp at hv)
  · simp at h

end
end Go.Am

/- All operations that touch no memory: what compact code says is what the machine does. -/
namespace Go.Am

section
variable {c : Ctx} {env vals : List AV} {Φ : Phi} {ρ : Operand → Value} {w : World}

theorem unA_ok {op : UnOp} {a v : AV} {x : Value} (ha : R Φ a x) (h : unA op a = some v) : ∃ v', (Op.unary op x).run c.P w = .ok v' w ∧ R Φ v v' := by
  unfold unA at h
  split at h
  · rename_i k n
    simp only [R] at ha; subst ha
    split at h
    · simp only [Option.some.injEq] at h; subst h
      exact ⟨.int k (k.wrap (0 - n)), by simp [Op.unary, Op.intArith], by simp only [R]⟩
    · simp only [bitsA, Option.some.injEq] at h; subst h
      exact ⟨_, rfl, by simp only [R]⟩
    · simp at h
  · simp only [R] at ha; subst ha
    split at h
    · simp only [Option.some.injEq] at h; subst h
      exact ⟨_, rfl, by simp only [R]⟩
    · simp at h
  · simp at h

theorem bound_ok {x : Option Operand} {a : Option AV} {dflt lo hi n : Nat} (hx : (x = none ∧ a = none) ∨ ∃ x' a', x = some x' ∧ a = some a' ∧ R Φ a' (ρ x'))
    (h : bound a dflt lo hi = some n) (h0 : lo = 0) :
    (x = none ∧ n = dflt ∧ n ≤ hi) ∨ ∃ x' k m, x = some x' ∧ ρ x' = .int k m ∧ 0 ≤ m ∧ m ≤ hi ∧ n = m.toNat := by
  subst h0
  rcases hx with ⟨rfl, rfl⟩ | ⟨x', a', rfl, rfl, hR⟩
  · simp only [bound] at h
    split at h
    · rename_i hc; simp only [Option.some.injEq] at h; exact .inl ⟨rfl, h.symm, by omega⟩
    · simp at h
  · cases a' <;> simp only [bound, reduceCtorEq] at h
    split at h
    · rename_i k m hc
      simp only [Option.some.injEq] at h
      simp only [R] at hR
      exact .inr ⟨x', k, m, rfl, hR, by simpa using hc.1, hc.2, h.symm⟩
    · simp at h

theorem run_sliceBound {k : IntKind} {m : Int} {y : Nat} {code : BoundsCode} (h0 : 0 ≤ m) (h1 : m ≤ y) :
    (Instr.sliceBound (.int k m) y code).run c.P w = .ok m.toNat w := by
  simp [Instr.sliceBound, asIntOf, h0, h1]

theorem sliceS_ok {s : List UInt8} {t : TypeId} {lo hi : Option Operand} {l h : Option AV} {v : AV} (hu : c.P.underlying t = some .string)
    (hl : (lo = none ∧ l = none) ∨ ∃ x' a', lo = some x' ∧ l = some a' ∧ R Φ a' (ρ x')) (hh : (hi = none ∧ h = none) ∨ ∃ x' a', hi = some x' ∧ h = some a' ∧ R Φ a' (ρ x'))
    (hv : sliceS s l h = some v) : ∃ v', (Instr.slice t (.string ⟨s.toArray⟩) (lo.map ρ) (hi.map ρ) none).run c.P w = .ok v' w ∧ R Φ v v' := by
  unfold sliceS at hv
  split at hv
  · simp at hv
  · rename_i n hn
    split at hv
    · simp at hv
    · rename_i m hm
      simp only [Option.some.injEq] at hv; subst hv
      have b1 := bound_ok hh hn rfl
      have b2 := bound_ok hl hm rfl
      have hsz : (ByteArray.mk s.toArray).size = s.length := by simp [ByteArray.size]
      have key : (Instr.sliceBounds false s.length s.length (lo.map ρ) (hi.map ρ) none).run c.P w = .ok (m, n, s.length) w := by
        rcases b1 with ⟨rfl, rfl, hle⟩ | ⟨x', k, q, rfl, hx, h0, h1, rfl⟩
        · rcases b2 with ⟨rfl, rfl, hle2⟩ | ⟨x2, k2, q2, rfl, hx2, h02, h12, rfl⟩
          · simp [Instr.sliceBounds]
          · simp [Instr.sliceBounds, hx2, run_sliceBound h02 h12]
        · rcases b2 with ⟨rfl, rfl, hle2⟩ | ⟨x2, k2, q2, rfl, hx2, h02, h12, rfl⟩
          · simp [Instr.sliceBounds, hx, run_sliceBound h0 h1]
          · simp [Instr.sliceBounds, hx, hx2, run_sliceBound h0 h1, run_sliceBound h02 h12]
      refine ⟨.string ⟨((s.take n).drop m).toArray⟩, ?_, by simp only [R]⟩
      simp only [Instr.slice, Sem.run_bind, run_underlying hu, Result.andThen_ok, Option.isSome_none, Bool.false_eq_true, if_false, hsz, key, Sem.run_pure]
      rw [ByteArray.extract_mk]
      congr 3
      rw [List.drop_take]

theorem sliceA_ok {sz : Nat} {a : AV} {x : Value} {t e : TypeId} {lo hi mx : Option Operand} {l h m : Option AV} {v : AV} (hu : c.P.underlying t = some (.slice e)) (hs : sizeP c.P e = some sz)
    (ha : R Φ a x) (hl : (lo = none ∧ l = none) ∨ ∃ x' a', lo = some x' ∧ l = some a' ∧ R Φ a' (ρ x')) (hh : (hi = none ∧ h = none) ∨ ∃ x' a', hi = some x' ∧ h = some a' ∧ R Φ a' (ρ x'))
    (hm : (mx = none ∧ m = none) ∨ ∃ x' a', mx = some x' ∧ m = some a' ∧ R Φ a' (ρ x')) (hmh : ¬ (mx.isSome = true ∧ hi.isNone = true)) (hszl : ∀ i o n, a = .sl i o n → ∀ l', Φ i = some l' → l'.sz = sz)
    (hv : sliceA sz a l h m = some v) : ∃ v', (Instr.slice t x (lo.map ρ) (hi.map ρ) (mx.map ρ)).run c.P w = .ok v' w ∧ R Φ v v' := by
  unfold sliceA at hv
  -- the slice's length and capacity
  have hshape : ∃ b len cap, x = .slice b len cap ∧ len ≤ cap ∧ slLen a = len ∨ (∀ i o n, a ≠ .sl i o n) ∧ a ≠ .nilsl ∧ a ≠ .esl := by
    cases a <;> simp only [R] at ha
    case sl => obtain ⟨_, b, cc, _, rfl, hle, _⟩ := ha; exact ⟨some b, _, cc, .inl ⟨rfl, hle, rfl⟩⟩
    case nilsl => exact ⟨none, 0, 0, .inl ⟨ha, Nat.le_refl _, rfl⟩⟩
    case esl => obtain ⟨b, rfl⟩ := ha; exact ⟨some b, 0, 0, .inl ⟨rfl, Nat.le_refl _, rfl⟩⟩
    all_goals exact ⟨none, 0, 0, .inr ⟨by simp, by simp, by simp⟩⟩
  obtain ⟨b, len, cap, hshape⟩ := hshape
  generalize slLen a = nn at hv hshape
  split at hv
  · simp at hv
  · rename_i n hn
    split at hv
    · simp at hv
    · rename_i k hk
      have b1 := bound_ok hh hn rfl
      have b2 := bound_ok hl hk rfl
      have hkn : k ≤ n := by
        rcases b2 with ⟨_, rfl, h⟩ | ⟨_, _, q, _, _, h0, h1, rfl⟩ <;> omega
      have hnl : n ≤ nn := by
        rcases b1 with ⟨_, rfl, h⟩ | ⟨_, _, q, _, _, h0, h1, rfl⟩ <;> omega
      rcases hshape with ⟨rfl, hle, rfl⟩ | ⟨h1, h2, h3⟩
      · split at hv
        · -- without a bound of the capacity
          have hmx : mx = none := by rcases hm with ⟨h, _⟩ | ⟨_, _, _, h, _⟩ <;> simp_all
          subst hmx
          have key : (Instr.sliceBounds true nn cap (lo.map ρ) (hi.map ρ) none).run c.P w = .ok (k, n, cap) w := by
            rcases b1 with ⟨rfl, rfl, hle1⟩ | ⟨x', kk, q, rfl, hx, h0, h1, rfl⟩
            · rcases b2 with ⟨rfl, rfl, hle2⟩ | ⟨x2, k2, q2, rfl, hx2, h02, h12, rfl⟩
              · simp [Instr.sliceBounds]
              · simp [Instr.sliceBounds, hx2, run_sliceBound h02 h12]
            · have hq : q ≤ (cap : Int) := by omega
              rcases b2 with ⟨rfl, rfl, hle2⟩ | ⟨x2, k2, q2, rfl, hx2, h02, h12, rfl⟩
              · simp [Instr.sliceBounds, hx, run_sliceBound h0 hq]
              · simp [Instr.sliceBounds, hx, hx2, run_sliceBound h0 hq, run_sliceBound h02 h12]
          have run : (Instr.slice t (.slice b nn cap) (lo.map ρ) (hi.map ρ) none).run c.P w = .ok (.slice (if cap = k then b else b.map (·.add (k * sz))) (n - k) (cap - k)) w := by
            simp only [Instr.slice, Sem.run_bind, run_underlying hu, Result.andThen_ok, key, run_size hs, Sem.run_pure]
          refine ⟨_, run, ?_⟩
          cases a <;> simp at hv
          case sl i o n' =>
            subst hv
            simp only [R] at ha
            obtain ⟨l', b', c', hΦ, hx, hle', hcap⟩ := ha
            simp only [Value.slice.injEq] at hx
            obtain ⟨rfl, rfl, rfl⟩ := hx
            have hsz := hszl i o _ rfl l' hΦ
            simp only [R]
            by_cases hck : cap = k
            · refine ⟨l', b', cap - k, hΦ, by simp [hck], by omega, .inl (by omega)⟩
            · rcases hcap with h0 | ⟨rfl, hlim⟩
              · exact absurd h0 (by omega)
              · refine ⟨l', ⟨l'.b, l'.base + (o + k * sz), none⟩, cap - k, hΦ, ?_, by omega, .inr ⟨rfl, fun hrw => ?_⟩⟩
                · simp only [hck, if_false, Option.map_some, Addr.add]
                  by_cases h0 : k * sz = 0
                  · simp [h0]
                  · simp [h0, Nat.add_assoc]
                · have := hlim hrw
                  rw [hsz] at this ⊢
                  have e : (cap - k) * sz + k * sz = cap * sz := by rw [← Nat.add_mul]; congr 1; omega
                  omega
          case nilsl =>
            subst hv
            simp only [R] at ha ⊢
            simp only [Value.slice.injEq] at ha
            obtain ⟨rfl, rfl, rfl⟩ := ha
            have : n = 0 ∧ k = 0 := by simp at hnl; omega
            simp [this.1, this.2]
          case esl =>
            subst hv
            simp only [R] at ha ⊢
            obtain ⟨b', hx⟩ := ha
            simp only [Value.slice.injEq] at hx
            obtain ⟨rfl, rfl, rfl⟩ := hx
            have : n = 0 ∧ k = 0 := by simp at hnl; omega
            exact ⟨b', by simp [this.1, this.2]⟩
        · -- with one
          rename_i mv
          split at hv
          · rename_i mm hmm
            split at hv
            · rename_i hmk
              subst hmk
              obtain ⟨x3, a3, rfl, ha3, hR3⟩ : ∃ x' a', mx = some x' ∧ some mv = some a' ∧ R Φ a' (ρ x') := by
                rcases hm with ⟨_, h⟩ | h
                · simp at h
                · exact h
              simp only [Option.some.injEq] at ha3; subst ha3
              have hh' : hi ≠ none := fun e => hmh ⟨rfl, by simp [e]⟩
              obtain ⟨x', kk, q, rfl, hx, h0, h1, rfl⟩ := b1.resolve_left (fun e => hh' e.1)
              have h3 : ∃ k3 q3, ρ x3 = .int k3 q3 ∧ (q.toNat : Int) ≤ q3 ∧ q3 ≤ nn ∧ mm = q3.toNat := by
                cases mv <;> simp only [bound, reduceCtorEq] at hmm
                split at hmm
                · rename_i k3 q3 hc
                  simp only [Option.some.injEq] at hmm
                  simp only [R] at hR3
                  exact ⟨k3, q3, hR3, hc.1, hc.2, hmm.symm⟩
                · simp at hmm
              obtain ⟨k3, q3, hx3, h30, h31, rfl⟩ := h3
              have hq3 : q3 ≤ (cap : Int) := by omega
              have hq30 : 0 ≤ q3 := Int.le_trans (Int.natCast_nonneg _) h30
              have hqq : q ≤ (q3.toNat : Int) := Int.le_trans (Int.le_trans (Int.self_le_toNat q) h30) (Int.self_le_toNat q3)
              have s1 := run_sliceBound (c := c) (w := w) (k := k3) (code := .slice3Acap) hq30 hq3
              have s2 := run_sliceBound (c := c) (w := w) (k := kk) (code := .slice3B) h0 hqq
              have hz : q.toNat - q3.toNat = 0 := Nat.sub_eq_zero_of_le (Int.toNat_le.mpr hqq)
              have key : (Instr.sliceBounds true nn cap (lo.map ρ) (some (ρ x')) (some (ρ x3))).run c.P w = .ok (q3.toNat, q.toNat, q3.toNat) w := by
                rcases b2 with ⟨rfl, h02, hle2⟩ | ⟨x2, k2, q2, rfl, hx2, h02, h12, h22⟩
                · generalize q3.toNat = Z at *
                  subst h02
                  simp [Instr.sliceBounds, hx, hx3, s1, s2]
                · have s3 := run_sliceBound (c := c) (w := w) (k := k2) (code := .slice3C) h02 h12
                  rw [← h22] at s3
                  generalize q3.toNat = Z at *
                  simp [Instr.sliceBounds, hx, hx3, hx2, s1, s2, s3]
              have run : (Instr.slice t (.slice b nn cap) (lo.map ρ) (some (ρ x')) (some (ρ x3))).run c.P w = .ok (.slice b (q.toNat - q3.toNat) 0) w := by
                simp only [Instr.slice, Sem.run_bind, run_underlying hu, Result.andThen_ok, key, run_size hs, Sem.run_pure]
                simp
              refine ⟨_, run, ?_⟩
              rw [hz]
              cases a <;> simp at hv
              case sl i o n' =>
                subst hv
                simp only [R] at ha ⊢
                obtain ⟨l', b', c', hΦ, hx', _⟩ := ha
                simp only [Value.slice.injEq] at hx'
                exact ⟨b', by rw [hx'.1]⟩
              case nilsl =>
                subst hv
                simp only [R] at ha ⊢
                simp only [Value.slice.injEq] at ha
                rw [ha.1]
              case esl =>
                subst hv
                simp only [R] at ha ⊢
                obtain ⟨b', hx'⟩ := ha
                simp only [Value.slice.injEq] at hx'
                exact ⟨b', by rw [hx'.1]⟩
            · simp at hv
          · simp at hv
      · exfalso
        split at hv
        · cases a <;> simp_all
        · split at hv
          · split at hv
            · cases a <;> simp_all
            · simp at hv
          · simp at hv

end
end Go.Am

/- All operations that touch no memory: what compact code says is what the machine does. -/
namespace Go.Am

section
variable {c : Ctx} {env vals : List AV} {Φ : Phi} {ρ : Operand → Value} {w : World}

theorem getD_toList_get {α : Type} {l : List α} {k : Nat} {v : α} (h : l[k]? = some v) : l.toArray[k]? = some v := by simpa using h

/-- Every operation that touches no memory. -/
theorem pure_ok (H : HO c env vals Φ ρ) (o : Oper) {ao : AOp} {v : AV} (h : trOp c o.op = some ao) (hv : aPure env vals ao = some v) : Yields c Φ ρ w o v := by
  obtain ⟨dst, op, ty, pos, after, guard⟩ := o
  simp only at h
  cases op with
  | move x =>
    simp only [trOp] at h
    split at h <;> simp only [Option.some.injEq, reduceCtorEq] at h
    rename_i a ha; subst h
    exact ⟨_, rfl, H _ _ _ ha hv⟩
  | assign x =>
    simp only [trOp] at h
    split at h <;> simp only [Option.some.injEq, reduceCtorEq] at h
    rename_i a ha; subst h
    exact ⟨_, rfl, H _ _ _ ha hv⟩
  | pick x y z =>
    simp only [trOp] at h
    split at h <;> simp only [Option.some.injEq, reduceCtorEq] at h
    rename_i p q r hp hq hr; subst h
    simp only [aPure] at hv
    split at hv
    · rename_i t ht
      have h1 := H _ _ _ hp ht
      simp only [R] at h1
      cases t with
      | true => exact ⟨ρ y, by simp [execOp, h1, asBool], H _ _ _ hq hv⟩
      | false => exact ⟨ρ z, by simp [execOp, h1, asBool], H _ _ _ hr hv⟩
    · simp at hv
  | alloc e => simp only [trOp] at h; split at h <;> simp only [Option.some.injEq, reduceCtorEq] at h; subst h; simp [aPure] at hv
  | box e x => simp only [trOp] at h; split at h <;> simp only [Option.some.injEq, reduceCtorEq] at h; subst h; simp [aPure] at hv
  | build t parts =>
    simp only [trOp] at h
    split at h
    · rename_i z fs hz hu
      obtain ⟨i, zv, hi, hzv, hlen, _, hR⟩ := zeroP_info hz
      split at h
      · rename_i ps hps
        split at h
        · rename_i hall
          simp only [Option.some.injEq] at h; subst h
          simp only [aPure] at hv
          split at hv
          · rename_i uas has
            split at hv
            · rename_i cs hcs
              simp only [Option.some.injEq] at hv; subst hv
              have hm : ∃ places : Array (Nat × Nat), (fs.mapM (fun (f : Field) => (do pure (f.offset, ← sizeOf f.type) : Sem (Nat × Nat)))).run c.P w = .ok places w ∧
                  ∀ j : Nat, places[j]? = (match fs[j]? with | some f => (match c.P.info? f.type with | some k => some (f.offset, k.size) | none => none) | none => none) := by
                have gen : ∀ l : List Field, (∀ f ∈ l, (c.P.info? f.type).isSome) → ∃ ps : List (Nat × Nat), (l.mapM (fun (f : Field) => (do pure (f.offset, ← sizeOf f.type) : Sem (Nat × Nat)))).run c.P w = .ok ps w ∧
                    ∀ j : Nat, ps[j]? = (match l[j]? with | some f => (match c.P.info? f.type with | some k => some (f.offset, k.size) | none => none) | none => none) := by
                  intro l
                  induction l with
                  | nil => intro _; exact ⟨[], by simp, by simp⟩
                  | cons f l ih =>
                    intro hl
                    obtain ⟨ps, h1, h2⟩ := ih (fun g hg => hl g (by simp [hg]))
                    have hf := hl f (by simp)
                    rw [Option.isSome_iff_exists] at hf
                    obtain ⟨k, hk⟩ := hf
                    have hs : (sizeOf f.type).run c.P w = .ok k.size w := by simp [sizeOf, run_info hk]
                    refine ⟨(f.offset, k.size) :: ps, by simp only [List.mapM_cons, Sem.run_bind, hs, Result.andThen_ok, Sem.run_pure, h1], fun j => ?_⟩
                    cases j with
                    | zero => simp [hk]
                    | succ j => simpa using h2 j
                obtain ⟨ps, h1, h2⟩ := gen fs.toList (fun f hf => by
                  have := Array.all_eq_true_iff_forall_mem.1 hall f (by simpa using hf)
                  simpa using this)
                refine ⟨ps.toArray, ?_, fun j => by simpa using h2 j⟩
                rw [← Array.toArray_toList (xs := fs)]
                simp only [List.mapM_toArray, Sem.run_map, h1, Result.andThen_ok]
              obtain ⟨places, hpl, hplj⟩ := hm
              obtain ⟨vs, hvs, hRv⟩ := fill_ok (fun j => places[j]?) H parts.toList (by rw [show (fun j => places[j]?) = _ from funext hplj]; exact hps) has hcs (hR Φ)
              refine ⟨.agg vs.toArray, ?_, by simp only [R]; exact ⟨vs, rfl, hRv⟩⟩
              have hparts : (parts.map fun p => (p.1, ρ p.2)).toList = parts.toList.map fun p => (p.1, ρ p.2) := by simp
              have hzz : (zv.cells.toList).toArray = zv.cells := by simp
              rw [hzz] at hvs
              simp only [execOp, Instr.build, Sem.run_bind, run_zero hi hzv, Result.andThen_ok, run_underlying hu, hpl, hparts, hvs, Sem.run_pure]
            · simp at hv
          · simp at hv
        · simp at h
      · simp at h
    · rename_i z n e hz hu
      obtain ⟨i, zv, hi, hzv, hlen, _, hR⟩ := zeroP_info hz
      split at h
      · rename_i m hm
        split at h
        · rename_i ps hps
          simp only [Option.some.injEq] at h; subst h
          simp only [aPure] at hv
          split at hv
          · rename_i uas has
            split at hv
            · rename_i cs hcs
              simp only [Option.some.injEq] at hv; subst hv
              obtain ⟨vs, hvs, hRv⟩ := fill_ok (fun j => some (j * m, m)) H parts.toList hps has hcs (hR Φ)
              refine ⟨.agg vs.toArray, ?_, by simp only [R]; exact ⟨vs, rfl, hRv⟩⟩
              have hparts : (parts.map fun p => (p.1, ρ p.2)).toList = parts.toList.map fun p => (p.1, ρ p.2) := by simp
              have hzz : (zv.cells.toList).toArray = zv.cells := by simp
              rw [hzz] at hvs
              simp only [execOp, Instr.build, Sem.run_bind, run_zero hi hzv, Result.andThen_ok, run_underlying hu, run_size hm, hparts, hvs, Sem.run_pure]
            · simp at hv
          · simp at hv
        · simp at h
      · simp at h
    · simp at h
  | buildSlice t n parts =>
    simp only [trOp] at h
    (repeat' split at h) <;> simp only [Option.some.injEq, reduceCtorEq] at h
    subst h; simp [aPure] at hv
  | load t a => simp only [trOp] at h; (repeat' split at h) <;> simp only [Option.some.injEq, reduceCtorEq] at h; subst h; simp [aPure] at hv
  | store t a x => simp only [trOp] at h; (repeat' split at h) <;> simp only [Option.some.injEq, reduceCtorEq] at h; subst h; simp [aPure] at hv
  | nilCheck x =>
    simp only [trOp] at h
    split at h <;> simp only [Option.some.injEq, reduceCtorEq] at h
    rename_i a ha; subst h
    simp only [aPure] at hv
    split at hv <;> simp only [Option.some.injEq, reduceCtorEq] at hv
    rename_i i k hk; subst hv
    have h1 := H _ _ _ ha hk
    have h2 := h1
    simp only [R] at h1
    obtain ⟨l, _, hl⟩ := h1
    exact ⟨ρ x, by simp [execOp, hl], h2⟩
  | binOp op t x y yt =>
    cases op
    case eql => simp only [trOp] at h; exact eq_ok H (neg := false) rfl t yt _ rfl h hv
    case neq => simp only [trOp] at h; exact eq_ok H (neg := true) rfl t yt _ rfl h hv
    all_goals
      simp only [trOp] at h
      split at h <;> simp only [Option.some.injEq, reduceCtorEq] at h
      rename_i a b ha hb; subst h
      exact bin_ok H t yt _ rfl ha hb hv
  | unOp op t x =>
    simp only [trOp] at h
    split at h <;> simp only [Option.some.injEq, reduceCtorEq] at h
    rename_i a ha; subst h
    simp only [aPure] at hv
    split at hv
    · rename_i u hu
      obtain ⟨v', h1, h2⟩ := unA_ok (c := c) (w := w) (H _ _ _ ha hu) hv
      exact ⟨v', by simp [execOp, h1], h2⟩
    · simp at hv
  | convert s d x =>
    simp only [trOp] at h
    split at h
    · rename_i k1 k a hu1 hu2 ha
      simp only [Option.some.injEq] at h; subst h
      simp only [aPure] at hv
      split at hv <;> simp only [Option.some.injEq, reduceCtorEq] at hv
      rename_i kk n hn; subst hv
      have h1 := H _ _ _ ha hn
      simp only [R] at h1
      exact ⟨.int k (k.wrap n), by simp [execOp, convert, run_underlying hu1, run_underlying hu2, h1, Conv.intToInt], by simp only [R]⟩
    · rename_i a hu1 hu2 ha
      simp only [Option.some.injEq] at h; subst h
      simp only [aPure] at hv
      split at hv <;> simp only [Option.some.injEq, reduceCtorEq] at hv
      rename_i s hn; subst hv
      have h1 := H _ _ _ ha hn
      simp only [R] at h1
      exact ⟨_, by simp [execOp, convert, run_underlying hu1, run_underlying hu2, h1]; rfl, by simp only [R]⟩
    · split at h <;> simp only [Option.some.injEq, reduceCtorEq] at h
      subst h; simp [aPure] at hv
    · split at h <;> simp only [Option.some.injEq, reduceCtorEq] at h
      subst h; simp [aPure] at hv
    · simp at h
  | sliceToArrayPointer t x => simp [trOp] at h
  | makeInterface t x =>
    simp only [trOp] at h
    split at h
    · simp at h
    · rename_i d a hd hu ha
      simp only [Option.some.injEq] at h; subst h
      simp only [aPure] at hv
      split at hv <;> simp only [Option.some.injEq, reduceCtorEq] at hv
      rename_i u _ hu'; subst hv
      refine ⟨.iface t (ρ x), ?_, by simp only [R]; exact ⟨_, rfl, H _ _ _ ha hu'⟩⟩
      simp only [execOp, Instr.makeInterface, Sem.run_bind, run_underlying hu, Result.andThen_ok]
      cases d <;> first | rfl | exact absurd rfl (hd _)
    · simp at h
  | makeFunc f first caps =>
    cases f with
    | func f =>
      simp only [trOp] at h
      split at h <;> simp only [Option.some.injEq, reduceCtorEq] at h
      rename_i a b ha hb; subst h
      simp only [aPure] at hv
      split at hv <;> simp only [Option.some.injEq, reduceCtorEq] at hv
      rename_i p q hp hq; subst hv
      refine ⟨_, rfl, ?_⟩
      simp only [R]
      exact ⟨first.toList.map ρ, caps.toList.map ρ, by rw [← List.map_toArray, ← List.map_toArray, Array.toArray_toList, Array.toArray_toList], H.list ha hp, H.list hb hq⟩
    | _ => simp [trOp] at h
  | makeMap t r =>
    cases r with
    | none => simp only [trOp, Option.some.injEq] at h; subst h; simp [aPure] at hv
    | some r => simp [trOp] at h
  | makeChan t x => simp [trOp] at h
  | makeSlice t l k => simp only [trOp] at h; (repeat' split at h) <;> simp only [Option.some.injEq, reduceCtorEq] at h; subst h; simp [aPure] at hv
  | slice t x lo hi mx =>
    simp only [trOp] at h
    split at h
    · rename_i a l hh hu ha hl hhi hmx
      simp only [Option.some.injEq] at h; subst h
      simp only [aPure] at hv
      split at hv
      · rename_i s l' h' hs hl' hh'
        have h1 := H _ _ _ ha hs
        simp only [R] at h1
        have hm : mx = none := by cases mx with
          | none => rfl
          | some m => simp only [trOptd] at hmx; split at hmx <;> simp at hmx
        subst hm
        obtain ⟨v', hr, hR⟩ := sliceS_ok (w := w) hu (H.opt hl hl') (H.opt hhi hh') hv
        refine ⟨v', ?_, hR⟩
        simp only [execOp, Instr.sliceAt, Sem.run_bind, run_underlying hu, Result.andThen_ok, h1, Option.map_none, hr, Sem.run_pure]
      · simp at hv
    · split at h
      · simp at h
      · split at h <;> simp only [Option.some.injEq, reduceCtorEq] at h
        subst h; simp [aPure] at hv
    · simp at h
  | fieldAddr s x f =>
    simp only [trOp] at h
    split at h
    · rename_i fs a hu ha
      split at h
      · rename_i fd hfd
        split at h <;> simp only [Option.some.injEq, reduceCtorEq] at h
        rename_i n hn; subst h
        simp only [aPure] at hv
        split at hv <;> simp only [Option.some.injEq, reduceCtorEq] at hv
        rename_i i k hk; subst hv
        have h1 := H _ _ _ ha hk
        simp only [R] at h1
        obtain ⟨l, hl, hx⟩ := h1
        obtain ⟨j, hj, hjn, hjz⟩ := sizeP_info hn
        refine ⟨.pointer (some ⟨l.b, l.base + (k + fd.offset), none⟩), ?_, by simp only [R]; exact ⟨l, hl, rfl⟩⟩
        simp only [execOp, Instr.fieldAt, Sem.run_bind, run_underlying hu, Result.andThen_ok, hfd, hx, Instr.sureAddr, Sem.run_pure, fieldPlace, run_size hn, if_neg hjz, Addr.add]
        by_cases h0 : fd.offset = 0
        · simp [h0]
        · simp [h0, Nat.add_assoc]
      · simp at h
    · simp at h
  | field s x f =>
    simp only [trOp] at h
    split at h
    · rename_i fs a hu ha
      split at h
      · rename_i fd hfd
        split at h
        · rename_i n g hn hg
          split at h <;> simp only [Option.some.injEq, reduceCtorEq] at h
          subst h
          simp only [aPure] at hv
          split at hv
          · rename_i cs hcs
            split at hv
            · have h1 := H _ _ _ ha hcs
              simp only [R] at h1
              obtain ⟨vs, hx, hR⟩ := h1
              obtain ⟨v', hr, hRv⟩ := run_part' (w := w) hn hg hR fd.offset hv
              exact ⟨v', by simp [execOp, Instr.field, run_underlying hu, hfd, hx, asAgg, hr], hRv⟩
            · simp at hv
          · simp at hv
        · simp at h
      · simp at h
    · simp at h
  | indexAddr t x i =>
    simp only [trOp] at h
    split at h
    · rename_i e a b hu ha hb
      split at h <;> simp only [Option.some.injEq, reduceCtorEq] at h
      rename_i n hn; subst h
      simp only [aPure] at hv
      split at hv
      · rename_i j o m kk k hs hk
        split at hv <;> simp only [Option.some.injEq, reduceCtorEq] at hv
        rename_i hc; subst hv
        have h1 := H _ _ _ ha hs
        have h2 := H _ _ _ hb hk
        simp only [R] at h1 h2
        obtain ⟨l, aa, cc, hl, hx, hle, hcap⟩ := h1
        have hc0 : cc ≠ 0 := by omega
        rcases hcap with h0 | ⟨rfl, _⟩
        · exact absurd h0 hc0
        · refine ⟨.pointer (some ⟨l.b, l.base + (o + k.toNat * n), none⟩), ?_, by simp only [R]; exact ⟨l, hl, rfl⟩⟩
          simp only [execOp, Instr.indexAt, Sem.run_bind, h2, asIntOf, Sem.run_pure, run_underlying hu, Result.andThen_ok, hx, run_size hn, Sem.run_ite, hc.1, hc.2, and_self, if_true, Addr.add]
          by_cases h0 : k.toNat * n = 0
          · simp [h0]
          · simp [h0, Nat.add_assoc]
      · simp at hv
    · rename_i len e a b hu ha hb
      split at h <;> simp only [Option.some.injEq, reduceCtorEq] at h
      rename_i n hn; subst h
      simp only [aPure] at hv
      split at hv
      · rename_i j o kk k hs hk
        split at hv <;> simp only [Option.some.injEq, reduceCtorEq] at hv
        rename_i hc; subst hv
        have h1 := H _ _ _ ha hs
        have h2 := H _ _ _ hb hk
        simp only [R] at h1 h2
        obtain ⟨l, hl, hx⟩ := h1
        refine ⟨.pointer (some ⟨l.b, l.base + (o + k.toNat * n), none⟩), ?_, by simp only [R]; exact ⟨l, hl, rfl⟩⟩
        simp only [execOp, Instr.indexAt, Sem.run_bind, h2, asIntOf, Sem.run_pure, run_underlying hu, Result.andThen_ok, hx, Instr.sureAddr, run_size hn, Sem.run_ite, hc.1, hc.2, and_self, if_true, Addr.add]
        by_cases h0 : k.toNat * n = 0
        · simp [h0]
        · simp [h0, Nat.add_assoc]
      · simp at hv
    · simp at h
  | index t x i =>
    simp only [trOp] at h
    split at h
    · rename_i a b hu ha hb
      simp only [Option.some.injEq] at h; subst h
      simp only [aPure] at hv
      split at hv
      · rename_i s kk k hs hk
        split at hv
        · rename_i h0
          split at hv <;> simp only [Option.some.injEq, reduceCtorEq] at hv
          rename_i ch hch; subst hv
          have h1 := H _ _ _ ha hs
          have h2 := H _ _ _ hb hk
          simp only [R] at h1 h2
          have hlt : k.toNat < s.length := by
            rcases Nat.lt_or_ge k.toNat s.length with h | h
            · exact h
            · rw [List.getElem?_eq_none h] at hch; simp at hch
          have hget : (⟨s.toArray⟩ : ByteArray)[k.toNat]? = some ch := by
            rw [ByteArray.getElem?_lt' _ _ (by simpa [ByteArray.size] using hlt)]
            rw [List.getElem?_eq_getElem hlt] at hch
            simp only [Option.some.injEq] at hch
            rw [← hch]
            rfl
          exact ⟨.int .u8 ch.toNat, by simp [execOp, Instr.index, h2, asIntOf, run_underlying hu, h1, h0, hget], by simp only [R]⟩
        · simp at hv
      · simp at hv
    · rename_i len e a b hu ha hb
      split at h
      · rename_i n g hn hg
        split at h <;> simp only [Option.some.injEq, reduceCtorEq] at h
        subst h
        simp only [aPure] at hv
        split at hv
        · rename_i cs kk k hs hk
          split at hv
          · rename_i hc
            have h1 := H _ _ _ ha hs
            have h2 := H _ _ _ hb hk
            simp only [R] at h1 h2
            obtain ⟨vs, hx, hR⟩ := h1
            obtain ⟨v', hr, hRv⟩ := run_part' (w := w) hn hg hR (k.toNat * n) hv
            exact ⟨v', by simp [execOp, Instr.index, h2, asIntOf, run_underlying hu, hx, hc.1, hc.2.1, run_size hn, hr], hRv⟩
          · simp at hv
        · simp at hv
      · simp at h
    · simp at h
  | lookup t m k ok => simp only [trOp] at h; (repeat' split at h) <;> simp only [Option.some.injEq, reduceCtorEq] at h <;> subst h <;> simp [aPure] at hv
  | mapUpdate t m k x => simp only [trOp] at h; (repeat' split at h) <;> simp only [Option.some.injEq, reduceCtorEq] at h <;> subst h <;> simp [aPure] at hv
  | insert t m k x => simp only [trOp] at h; (repeat' split at h) <;> simp only [Option.some.injEq, reduceCtorEq] at h <;> subst h <;> simp [aPure] at hv
  | extract x k =>
    simp only [trOp] at h
    split at h <;> simp only [Option.some.injEq, reduceCtorEq] at h
    rename_i a ha; subst h
    simp only [aPure] at hv
    split at hv
    · rename_i vs hvs
      have h1 := H _ _ _ ha hvs
      simp only [R] at h1
      obtain ⟨xs, hx, hR⟩ := h1
      obtain ⟨u, hu, hRu⟩ := hR.get hv
      exact ⟨u, by simp [execOp, Instr.extract, hx, hu], hRu⟩
    · simp at hv
  | call k =>
    simp only [trOp, trCall] at h
    obtain ⟨callee, args, ats⟩ := k
    split at h
    · split at h <;> simp only [Option.some.injEq, reduceCtorEq] at h
      subst h; simp [aPure] at hv
    · split at h <;> simp only [Option.some.injEq, reduceCtorEq] at h
      subst h; simp [aPure] at hv
    · simp at h
    · rename_i b hcal
      simp only at hcal; subst hcal
      split at h
      · -- len
        rename_i x t hargs hats
        have ea : args = #[x] := by apply Array.ext'; simpa using hargs
        have et : ats = #[t] := by apply Array.ext'; simpa using hats
        subst ea; subst et
        have run : ∀ v', (Builtin.len_ #[t] ty #[ρ x]).run c.P w = .ok v' w → (execOp ρ { dst, op := .call { callee := .builtin .len, args := #[x], argTypes := #[t] }, type := ty, pos, after, guard }).run c.P w = .ok (.value v') w := by
          intro v' hr
          simp [execOp, resolve, invoke, builtin, hr]
        split at h
        · rename_i a hu ha
          simp only [Option.some.injEq] at h; subst h
          simp only [aPure] at hv
          split at hv <;> simp only [Option.some.injEq, reduceCtorEq] at hv
          rename_i s hs; subst hv
          have := H _ _ _ ha hs; simp only [R] at this
          have hsz : (ByteArray.mk s.toArray).size = s.length := by simp [ByteArray.size]
          exact ⟨.int .i64 s.length, run _ (by simp [Builtin.len_, run_underlying hu, this, goInt, hsz]), by simp only [R]⟩
        · rename_i e a hu ha
          simp only [Option.some.injEq] at h; subst h
          simp only [aPure] at hv
          split at hv <;> simp only [Option.some.injEq, reduceCtorEq] at hv
          · rename_i hs; subst hv
            have := H _ _ _ ha hs; simp only [R] at this
            obtain ⟨_, _, _, _, hx, _⟩ := this
            exact ⟨_, run _ (by simp [Builtin.len_, run_underlying hu, hx, goInt]; rfl), by simp only [R]⟩
          · rename_i hs; subst hv
            have := H _ _ _ ha hs; simp only [R] at this
            exact ⟨_, run _ (by simp [Builtin.len_, run_underlying hu, this, goInt]; rfl), by simp only [R]⟩
          · rename_i hs; subst hv
            have := H _ _ _ ha hs; simp only [R] at this
            obtain ⟨_, hx⟩ := this
            exact ⟨_, run _ (by simp [Builtin.len_, run_underlying hu, hx, goInt]; rfl), by simp only [R]⟩
        · simp only [Option.some.injEq] at h; subst h; simp [aPure] at hv
        · rename_i n e a hu ha
          simp only [Option.some.injEq] at h; subst h
          simp only [aPure, aval, Option.some.injEq] at hv; subst hv
          exact ⟨_, run _ (by simp [Builtin.len_, run_underlying hu, goInt]; rfl), by simp only [R]⟩
        · simp at h
      · -- cap
        rename_i x t hargs hats
        have ea : args = #[x] := by apply Array.ext'; simpa using hargs
        have et : ats = #[t] := by apply Array.ext'; simpa using hats
        subst ea; subst et
        split at h <;> simp only [Option.some.injEq, reduceCtorEq] at h
        rename_i e a hu ha; subst h
        simp only [aPure] at hv
        split at hv <;> simp only [Option.some.injEq, reduceCtorEq] at hv
        · rename_i hs; subst hv
          have := H _ _ _ ha hs; simp only [R] at this
          exact ⟨.int .i64 0, by simp [execOp, resolve, invoke, builtin, Builtin.cap_, run_underlying hu, this, goInt], by simp only [R]⟩
        · rename_i hs; subst hv
          have := H _ _ _ ha hs; simp only [R] at this
          obtain ⟨_, hx⟩ := this
          exact ⟨.int .i64 0, by simp [execOp, resolve, invoke, builtin, Builtin.cap_, run_underlying hu, hx, goInt], by simp only [R]⟩
      · (repeat' split at h) <;> simp only [Option.some.injEq, reduceCtorEq] at h <;> subst h <;> simp [aPure] at hv
      · (repeat' split at h) <;> simp only [Option.some.injEq, reduceCtorEq] at h <;> subst h <;> simp [aPure] at hv
      · (repeat' split at h) <;> simp only [Option.some.injEq, reduceCtorEq] at h <;> subst h <;> simp [aPure] at hv
      · -- min
        rename_i x y hargs
        have ea : args = #[x, y] := by apply Array.ext'; simpa using hargs
        subst ea
        split at h <;> simp only [Option.some.injEq, reduceCtorEq] at h
        rename_i a b ha hb; subst h
        simp only [aPure] at hv
        split at hv
        · rename_i k m k' n hm hn
          split at hv <;> simp only [Bool.false_eq_true, if_false, Option.some.injEq, reduceCtorEq] at hv
          rename_i hk; subst hk; subst hv
          have h1 := H _ _ _ ha hm
          have h2 := H _ _ _ hb hn
          simp only [R] at h1 h2
          exact ⟨_, by simp [execOp, resolve, invoke, builtin, Builtin.min_, Builtin.min2, h1, h2]; rfl, by simp only [R]⟩
        · simp at hv
      · -- max
        rename_i x y hargs
        have ea : args = #[x, y] := by apply Array.ext'; simpa using hargs
        subst ea
        split at h <;> simp only [Option.some.injEq, reduceCtorEq] at h
        rename_i a b ha hb; subst h
        simp only [aPure] at hv
        split at hv
        · rename_i k m k' n hm hn
          split at hv <;> simp only [if_true, Option.some.injEq, reduceCtorEq] at hv
          rename_i hk; subst hk; subst hv
          have h1 := H _ _ _ ha hm
          have h2 := H _ _ _ hb hn
          simp only [R] at h1 h2
          exact ⟨_, by simp [execOp, resolve, invoke, builtin, Builtin.max_, Builtin.max2, h1, h2]; rfl, by simp only [R]⟩
        · simp at hv
      · (repeat' split at h) <;> simp only [Option.some.injEq, reduceCtorEq] at h <;> subst h <;> simp [aPure] at hv
      · simp at h
  | panic x => simp only [trOp, Option.some.injEq] at h; subst h; simp [aPure] at hv
  | defer x => simp only [trOp, Option.some.injEq] at h; subst h; simp [aPure] at hv
  | _ => simp [trOp] at h

end
end Go.Am

/- Operations that read memory: what compact code says is what the machine does. -/
namespace Go.Am

section
variable {c : Ctx} {env vals : List AV} {Φ : Phi} {ρ : Operand → Value} {w : World} {H : AHeap}

theorem add_flat (b o n : Nat) : (⟨b, o, none⟩ : Addr).add n = ⟨b, o + n, none⟩ := by
  unfold Addr.add; split <;> simp_all

/-- Cells as they lie in memory, as a list of values. -/
theorem cells_read {b base : Nat} : ∀ (cs : List AV), (∀ (k : Nat) (x : AV), cs[k]? = some x → ∃ v, w.cell? ⟨b, base + k, none⟩ = some v ∧ R Φ x v) →
    ∃ vs, Rs Φ cs vs ∧ ∀ (k : Nat) (v : Value), vs[k]? = some v → w.cell? ((⟨b, base, none⟩ : Addr).add k) = some v := by
  intro cs
  induction cs generalizing base with
  | nil => intro _; exact ⟨[], .nil, by simp⟩
  | cons x r ih =>
    intro h
    obtain ⟨v, hv, hR⟩ := h 0 x (by simp)
    obtain ⟨vs, h1, h2⟩ := ih (base := base + 1) (fun k y hk => by
      obtain ⟨u, hu, hRu⟩ := h (k + 1) y (by simpa using hk)
      exact ⟨u, by rw [← hu]; congr 2; omega, hRu⟩)
    refine ⟨v :: vs, .cons hR h1, fun k u hk => ?_⟩
    cases k with
    | zero => simp at hk; subst hk; rw [add_flat]; simpa using hv
    | succ k =>
      have := h2 k u (by simpa using hk)
      rw [add_flat] at this ⊢
      rw [← this]; congr 2; omega

theorem loadA_cells (S : Sim Φ (getB H) w) {i o n : Nat} {cs : List AV} (h : loadA H i o n = some cs) {l : Loc} (hl : Φ i = some l) :
    cs.length = n ∧ ∃ vs, Rs Φ cs vs ∧ vs.length = n ∧ ∀ (k : Nat) (v : Value), vs[k]? = some v → w.cell? ((⟨l.b, l.base + o, none⟩ : Addr).add k) = some v := by
  unfold loadA at h
  split at h
  · rename_i sz rw' cs0 hB
    split at h
    · rename_i hle
      simp only [Option.some.injEq] at h; subst h
      obtain ⟨l', hl', hok⟩ := S.ok i _ hB
      rw [hl] at hl'; simp only [Option.some.injEq] at hl'; subst hl'
      obtain ⟨_, _, _, h4, _⟩ := hok
      have hlen : ((cs0.drop o).take n).length = n := by simp; omega
      obtain ⟨vs, h1, h2⟩ := cells_read (w := w) (Φ := Φ) (b := l.b) (base := l.base + o) ((cs0.drop o).take n) (fun k x hk => by
        have hk' : k < n := by
          rcases Nat.lt_or_ge k n with h | h
          · exact h
          · rw [List.getElem?_eq_none (by omega)] at hk; simp at hk
        rw [List.getElem?_take_of_lt hk', List.getElem?_drop] at hk
        obtain ⟨v, hv, hR⟩ := h4 (o + k) x hk
        exact ⟨v, by rw [← hv]; congr 2; omega, hR⟩)
      exact ⟨hlen, vs, h1, by rw [h1.len, hlen], h2⟩
    · simp at h
  · simp at h

theorem load_ok (S : Sim Φ (getB H) w) {t : TypeId} {n : Nat} {g : Bool} (hn : sizeP c.P t = some n) (hg : aggP c.P t = some g) {i o : Nat} {cs : List AV} {v : AV}
    (h : loadA H i o n = some cs) (hv : mkv g cs = some v) {l : Loc} (hl : Φ i = some l) :
    ∃ v', (loadVar t ⟨l.b, l.base + o, none⟩).run c.P w = .ok v' w ∧ R Φ v v' := by
  obtain ⟨hlen, vs, hR, hvl, hcell⟩ := loadA_cells S h hl
  have hload := run_loadCells_list (P := c.P) w ⟨l.b, l.base + o, none⟩ vs hcell
  rw [hvl] at hload
  cases g with
  | true =>
    simp only [mkv, if_true, Option.some.injEq] at hv
    subst hv
    exact ⟨.agg vs.toArray, by simp [loadVar, run_agg hg, run_size hn, hload], by simp only [R]; exact ⟨vs, rfl, hR⟩⟩
  | false =>
    simp only [mkv, Bool.false_eq_true, if_false] at hv
    split at hv <;> simp only [Option.some.injEq, reduceCtorEq] at hv
    rename_i x
    subst hv
    obtain ⟨u, hu, hRu⟩ := hR.get (k := 0) (c := x) (by simp)
    have := hcell 0 u hu
    rw [add_flat] at this
    refine ⟨u, ?_, hRu⟩
    simp only [loadVar, Sem.run_bind, run_agg hg, Result.andThen_ok, Bool.false_eq_true, if_false, run_load]
    simp only [Nat.add_zero] at this
    rw [this]

/-- The kind of a map's keys. -/
def keyDesc (kk : EqK) (d : TypeDesc) : Prop :=
  match kk with
  | .int => ∃ k, d = .int k
  | .str => d = .string
  | .bool => d = .bool

theorem keyP_desc {P : Program} {t : TypeId} {kk : EqK} (h : keyP P t = some kk) : ∃ d, P.underlying t = some d ∧ keyDesc kk d := by
  unfold keyP at h
  split at h <;> simp only [Option.some.injEq, reduceCtorEq] at h <;> subst h
  · rename_i k hu; exact ⟨_, hu, k, rfl⟩
  · rename_i hu; exact ⟨_, hu, rfl⟩
  · rename_i hu; exact ⟨_, hu, rfl⟩

theorem checkKey_ok {P : Program} {kk : EqK} {t : TypeId} {d : TypeDesc} (hu : P.underlying t = some d) (hd : keyDesc kk d) (e : Bool) (n : Nat) (x : Value) :
    (Instr.checkKey e (n + 1) t x).run P w = .ok () w := by
  cases kk
  · obtain ⟨k, rfl⟩ := hd; simp [Instr.checkKey, run_underlying hu]
  · simp only [keyDesc] at hd; subst hd; simp [Instr.checkKey, run_underlying hu]
  · simp only [keyDesc] at hd; subst hd; simp [Instr.checkKey, run_underlying hu]

theorem keyEq_now {kk : EqK} {d : TypeDesc} (hd : keyDesc kk d) {a b : AV} {x y : Value} (ha : R Φ a x) (hb : R Φ b y) {r : Bool} (h : keyEq kk a b = some r) :
    Instr.sameNow d x y = some r := by
  unfold keyEq at h
  split at h
  · obtain ⟨k, rfl⟩ := hd
    simp only [R] at ha hb; subst ha; subst hb
    simpa [Instr.sameNow] using h
  · simp only [keyDesc] at hd; subst hd
    simp only [R] at ha hb; subst ha; subst hb
    simp only [Option.some.injEq] at h
    simp only [Instr.sameNow, Option.some.injEq]
    rw [beq_toListBytes, ByteArray.toList_mk, ByteArray.toList_mk]; exact h
  · simp only [keyDesc] at hd; subst hd
    simp only [R] at ha hb; subst ha; subst hb
    simpa [Instr.sameNow] using h
  · simp at h

theorem findI_now {kk : EqK} {d : TypeDesc} (hd : keyDesc kk d) {k : AV} {x : Value} (hk : R Φ k x) : ∀ (es : List (AV × AV)) (en : List MapEntry) (i : Nat) {r : Option Nat},
    Rs Φ (es.map (·.1)) (en.map (·.key)) → findI kk k es i = some r →
    Instr.findNow d x en i = some (r.bind fun j => (en[j - i]?).map fun e => (j, e.val)) ∧ (∀ j, r = some j → i ≤ j ∧ j - i < es.length)
  | [], en, i, r, hR, h => by
    simp only [List.map_nil, Rs, List.map_eq_nil_iff] at hR; subst hR
    simp only [findI, Option.some.injEq] at h; subst h
    exact ⟨by simp [Instr.findNow], by simp⟩
  | (a, b) :: es, en, i, r, hR, h => by
    simp only [List.map_cons, Rs] at hR
    obtain ⟨v, vs, he, hRa, hRr⟩ := hR
    cases en with
    | nil => simp at he
    | cons e en =>
      simp only [List.map_cons, List.cons.injEq] at he
      obtain ⟨rfl, rfl⟩ := he
      simp only [findI] at h
      split at h
      · rename_i hq
        simp only [Option.some.injEq] at h; subst h
        have := keyEq_now hd hk hRa hq
        refine ⟨by simp [Instr.findNow, this], fun j hj => ?_⟩
        simp only [Option.some.injEq] at hj; subst hj
        simp
      · rename_i hq
        have := keyEq_now hd hk hRa hq
        obtain ⟨h1, h2⟩ := findI_now hd hk es en (i + 1) hRr h
        refine ⟨?_, fun j hj => ?_⟩
        · simp only [Instr.findNow, this, h1]
          cases r with
          | none => rfl
          | some j =>
            have := h2 j rfl
            simp only [Option.bind_some]
            have e1 : j - i = (j - (i + 1)) + 1 := by omega
            rw [e1, List.getElem?_cons_succ]
        · have := h2 j hj
          simp only [List.length_cons]; omega
      · simp at h

theorem bytesOf_ok : ∀ {cs : List AV} {s : List UInt8} {vs : List Value}, bytesOf cs = some s → Rs Φ cs vs →
    ∃ ns : List Int, vs = ns.map (Value.int .u8) ∧ s = ns.map fun n => UInt8.ofNat n.toNat
  | [], s, vs, h, hR => by
    simp only [bytesOf, Option.some.injEq] at h; subst h
    simp only [Rs] at hR; subst hR
    exact ⟨[], rfl, rfl⟩
  | a :: r, s, vs, h, hR => by
    simp only [Rs] at hR
    obtain ⟨v, vs', rfl, hRa, hRr⟩ := hR
    cases a with
    | int k n =>
      cases k <;> simp only [bytesOf, reduceCtorEq] at h
      split at h <;> simp only [Option.some.injEq, reduceCtorEq] at h
      rename_i l hl; subst h
      simp only [R] at hRa; subst hRa
      obtain ⟨ns, rfl, rfl⟩ := bytesOf_ok hl hRr
      exact ⟨n :: ns, rfl, rfl⟩
    | _ => simp [bytesOf] at h

theorem push_fold : ∀ (ns : List Int) (acc : ByteArray), ns.foldl (fun r n => r.push (UInt8.ofNat n.toNat)) acc = ⟨(acc.data.toList ++ ns.map fun n => UInt8.ofNat n.toNat).toArray⟩
  | [], acc => by simp
  | n :: ns, acc => by
    simp only [List.foldl_cons, push_fold ns, List.map_cons]
    simp [ByteArray.push]

theorem read_ok (O : HO c env vals Φ ρ) (S : Sim Φ (getB H) w) (o : Oper) {ao : AOp} {v : AV} (h : trOp c o.op = some ao) (hv : aRead env vals H ao = some v) : Yields c Φ ρ w o v := by
  obtain ⟨dst, op, ty, pos, after, guard⟩ := o
  simp only at h
  cases op with
  | load t a =>
    simp only [trOp] at h
    split at h
    · rename_i n g x hn hg hx
      split at h <;> simp only [Option.some.injEq, reduceCtorEq] at h
      subst h
      simp only [aRead] at hv
      split at hv
      · rename_i i k hk
        split at hv
        · rename_i cs hcs
          have h1 := O _ _ _ hx hk
          simp only [R] at h1
          obtain ⟨l, hl, hp⟩ := h1
          obtain ⟨v', hr, hR⟩ := load_ok S hn hg hcs hv hl
          exact ⟨v', by simp [execOp, Instr.loadAt, hp, Instr.sureAddr, hr], hR⟩
        · simp at hv
      · simp at hv
    · simp at h
  | lookup t m k ok =>
    simp only [trOp] at h
    split at h
    · rename_i kt et a b hu ha hb
      split at h
      · rename_i kk iz hkk hz
        split at h <;> (try (simp at h; done))
        rename_i z hzz
        split at h <;> simp only [Option.some.injEq, reduceCtorEq] at h
        rename_i zv hzv
        subst h
        simp only [aRead] at hv
        split at hv
        · rename_i mv kv hm hk
          obtain ⟨kd, hkd, hkdd⟩ := keyP_desc hkk
          have hRm := O _ _ _ ha hm
          have hRk := O _ _ _ hb hk
          -- what the map holds
          have hmap : ∀ es, (match mv with
              | .nilmap => some []
              | .map i => match getB H i with
                | some (.map es) => some es
                | _ => none
              | _ => none) = some es → ∃ en : Array MapEntry, Rs Φ (es.map (·.1)) (en.toList.map (·.key)) ∧ Rs Φ (es.map (·.2)) (en.toList.map (·.val)) ∧
                ((ρ m = .map none ∧ en = #[]) ∨ ∃ r cl, ρ m = .map (some r) ∧ w.heap[r]? = some (.map en cl)) := by
            intro es hes
            split at hes
            · simp only [Option.some.injEq] at hes; subst hes
              simp only [R] at hRm
              exact ⟨#[], .nil, .nil, .inl ⟨hRm, rfl⟩⟩
            · rename_i i
              split at hes <;> simp only [Option.some.injEq, reduceCtorEq] at hes
              rename_i es' hB; subst hes
              simp only [R] at hRm
              obtain ⟨l, hl, hmv⟩ := hRm
              obtain ⟨l', hl', hok⟩ := S.ok i _ hB
              rw [hl] at hl'; simp only [Option.some.injEq] at hl'; subst hl'
              obtain ⟨_, _, en, cl, hh, h1, h2⟩ := hok
              exact ⟨en, h1, h2, .inr ⟨_, cl, hmv, hh⟩⟩
            · simp at hes
          have run : ∀ (en : Array MapEntry), ((ρ m = .map none ∧ en = #[]) ∨ ∃ r cl, ρ m = .map (some r) ∧ w.heap[r]? = some (.map en cl)) →
              ∀ q, Instr.findNow kd (ρ k) en.toList 0 = some q → (Instr.lookup t (ρ m) (ρ k) ok).run c.P w =
                .ok (if ok then .tuple #[(match q with | some p => p.2 | none => z), .bool q.isSome] else (match q with | some p => p.2 | none => z)) w := by
            intro en hen q hq
            have hg : ∀ r cl, w.heap[r]? = some (.map en cl) → (getObj r).run c.P w = .ok (.map en cl) w := by
              intro r cl hh; simp [getObj, Sem.run, hh]
            have hz' := run_zero (w := w) hz hzz
            rcases hen with ⟨h1, rfl⟩ | ⟨r, cl, h1, h2⟩
            · unfold Instr.lookup
              simp only [Sem.run_bind, run_underlying hu, Result.andThen_ok, h1, Sem.run_pure, checkKey_ok hkd hkdd _ 9999, Instr.findKey, run_underlying hkd, hq]
              cases q with
              | none => simp [hz']
              | some p => simp
            · unfold Instr.lookup
              simp only [Sem.run_bind, run_underlying hu, Result.andThen_ok, h1, hg r cl h2, Sem.run_pure, checkKey_ok hkd hkdd _ 9999, Instr.findKey, run_underlying hkd, hq]
              cases q with
              | none => simp [hz']
              | some p => simp
          split at hv
          · simp at hv
          · rename_i es hes
            obtain ⟨en, he1, he2, hen⟩ := hmap es hes
            split at hv
            · split at hv
              · -- found
                rename_i j hj
                split at hv <;> simp only [Option.some.injEq, reduceCtorEq] at hv
                rename_i e hej
                obtain ⟨hf1, hf2⟩ := findI_now hkdd hRk es en.toList 0 he1 hj
                simp only [Option.bind_some, Nat.sub_zero] at hf1
                obtain ⟨u, hu', hRu⟩ := he2.get (k := j) (c := e.2) (by simp [hej])
                obtain ⟨en', hen1, hen2⟩ : ∃ en', en.toList[j]? = some en' ∧ en'.val = u := by
                  simp only [List.getElem?_map, Option.map_eq_some_iff] at hu'
                  exact hu'
                rw [hen1] at hf1
                have hr := run en hen _ hf1
                refine ⟨_, by simp only [execOp, Sem.run_bind, hr, Result.andThen_ok, Sem.run_pure]; rfl, ?_⟩
                subst hv
                cases ok with
                | true =>
                  simp only [if_true, R]
                  exact ⟨[u, .bool true], by simp [hen2], .cons hRu (.cons (by simp only [R]) .nil)⟩
                | false => simpa [hen2] using hRu
              · -- not found
                rename_i hj
                simp only [Option.some.injEq] at hv
                obtain ⟨hf1, hf2⟩ := findI_now hkdd hRk es en.toList 0 he1 hj
                simp only [Option.bind_none] at hf1
                have hzu : R Φ zv z := trConst_R z hzv
                have hr := run en hen _ hf1
                refine ⟨_, by simp only [execOp, Sem.run_bind, hr, Result.andThen_ok, Sem.run_pure]; rfl, ?_⟩
                subst hv
                cases ok with
                | true =>
                  simp only [if_true, R]
                  exact ⟨[z, .bool false], by simp, .cons hzu (.cons (by simp only [R]) .nil)⟩
                | false => simpa using hzu
              · simp at hv
            · simp at hv
        · simp at hv
      · simp at h
    · simp at h
  | convert s d x =>
    simp only [trOp] at h
    split at h
    · simp only [Option.some.injEq] at h; subst h; simp [aRead] at hv
    · simp only [Option.some.injEq] at h; subst h; simp [aRead] at hv
    · split at h <;> simp only [Option.some.injEq, reduceCtorEq] at h
      subst h; simp [aRead] at hv
    · rename_i e a hu1 hu2 ha
      split at h <;> simp only [Option.some.injEq, reduceCtorEq] at h
      rename_i hue; subst h
      simp only [aRead] at hv
      split at hv
      · rename_i hs
        simp only [Option.some.injEq] at hv; subst hv
        have := O _ _ _ ha hs; simp only [R] at this
        exact ⟨.string .empty, by simp [execOp, convert, run_underlying hu1, run_underlying hu2, run_underlying hue, this, Conv.bytesToString], by simp only [R]; rfl⟩
      · rename_i hs
        simp only [Option.some.injEq] at hv; subst hv
        have := O _ _ _ ha hs; simp only [R] at this
        obtain ⟨b, hb⟩ := this
        exact ⟨.string .empty, by simp [execOp, convert, run_underlying hu1, run_underlying hu2, run_underlying hue, hb, Conv.bytesToString, loadCells, loadCellsFrom], by simp only [R]; rfl⟩
      · rename_i i k n hs
        split at hv
        · rename_i cs hcs
          split at hv <;> simp only [Option.some.injEq, reduceCtorEq] at hv
          rename_i s hs'; subst hv
          have := O _ _ _ ha hs; simp only [R] at this
          obtain ⟨l, aa, cc, hl, hx, hle, hcap⟩ := this
          obtain ⟨hlen, vs, hR, hvl, hcell⟩ := loadA_cells S hcs hl
          have hlc : (loadCells aa n).run c.P w = .ok vs.toArray w := by
            rcases hcap with h0 | ⟨rfl, _⟩
            · have h0 : n = 0 := by omega
              subst h0
              have : vs = [] := by simpa using hvl
              subst this
              simp [loadCells, loadCellsFrom]
            · have := run_loadCells_list (P := c.P) w _ vs hcell
              rw [hvl] at this; exact this
          obtain ⟨ns, rfl, rfl⟩ := bytesOf_ok hs' hR
          refine ⟨.string ⟨(ns.map fun n => UInt8.ofNat n.toNat).toArray⟩, ?_, by simp only [R]⟩
          have hb := run_bytesToString w aa n cc ns hlc
          rw [push_fold] at hb
          simp only [execOp, hx, run_convert_bytes_string w s d e _ _ _ hu1 hue hu2, hb, Sem.run_bind, Result.andThen_ok, Sem.run_pure]
          rfl
        · simp at hv
      · simp at hv
    · simp at h
  | slice t x lo hi mx =>
    simp only [trOp] at h
    split at h
    · simp only [Option.some.injEq] at h; subst h; simp [aRead] at hv
    · rename_i e a l hh m hu ha hl hhi hmx
      split at h
      · simp at h
      · rename_i hmh
        split at h <;> simp only [Option.some.injEq, reduceCtorEq] at h
        rename_i n hn; subst h
        simp only [aRead] at hv
        split at hv
        · rename_i v0 l' h' m' hs hl' hh' hm'
          have h1 := O _ _ _ ha hs
          have q1 := O.opt hl hl'
          have q2 := O.opt hhi hh'
          have q3 := O.opt hmx hm'
          have hmh' : ¬ (mx.isSome = true ∧ hi.isNone = true) := by
            rintro ⟨e1, e2⟩
            apply hmh
            cases mx with
            | none => simp at e1
            | some mo => cases hi with
              | some ho => simp at e2
              | none =>
                simp only [trOptd, Option.some.injEq] at hhi
                simp only [trOptd] at hmx
                split at hmx <;> simp at hmx
                subst hhi; subst hmx; rfl
          split at hv
          · rename_i hok
            obtain ⟨v', hr, hR⟩ := sliceA_ok (w := w) hu hn h1 q1 q2 q3 hmh' (fun i o' n' e l'' hl'' => by
              subst e
              simp only [szOk] at hok
              split at hok
              · rename_i sz' rw' cs' hB
                obtain ⟨l3, hl3, hok3⟩ := S.ok i _ hB
                rw [hl''] at hl3; simp only [Option.some.injEq] at hl3; subst hl3
                rw [hok3.2.1]; simpa using hok
              · simp at hok) hv
            refine ⟨v', ?_, hR⟩
            simp only [execOp, Instr.sliceAt, Sem.run_bind, run_underlying hu, Result.andThen_ok, hr, Sem.run_pure]
          · simp at hv
        · simp at hv
    · simp at h
  | call k =>
    simp only [trOp, trCall] at h
    obtain ⟨callee, args, ats⟩ := k
    split at h
    · split at h <;> simp only [Option.some.injEq, reduceCtorEq] at h
      subst h; simp [aRead] at hv
    · split at h <;> simp only [Option.some.injEq, reduceCtorEq] at h
      subst h; simp [aRead] at hv
    · simp at h
    · rename_i b hcal
      simp only at hcal; subst hcal
      split at h
      · -- len
        rename_i x t hargs hats
        have ea : args = #[x] := by apply Array.ext'; simpa using hargs
        have et : ats = #[t] := by apply Array.ext'; simpa using hats
        subst ea; subst et
        split at h
        · simp only [Option.some.injEq] at h; subst h; simp [aRead] at hv
        · simp only [Option.some.injEq] at h; subst h; simp [aRead] at hv
        · rename_i kt et a hu ha
          simp only [Option.some.injEq] at h; subst h
          simp only [aRead] at hv
          split at hv
          · rename_i hs
            simp only [Option.some.injEq] at hv; subst hv
            have := O _ _ _ ha hs; simp only [R] at this
            exact ⟨.int .i64 0, by simp [execOp, resolve, invoke, builtin, Builtin.len_, run_underlying hu, this, goInt], by simp only [R]⟩
          · rename_i i hs
            split at hv <;> simp only [Option.some.injEq, reduceCtorEq] at hv
            rename_i es hB; subst hv
            have := O _ _ _ ha hs; simp only [R] at this
            obtain ⟨l, hl, hmv⟩ := this
            obtain ⟨l', hl', hok⟩ := S.ok i _ hB
            rw [hl] at hl'; simp only [Option.some.injEq] at hl'; subst hl'
            obtain ⟨_, _, en, cl, hh, h1, h2⟩ := hok
            have hg : (getObj l.b).run c.P w = .ok (.map en cl) w := by simp [getObj, Sem.run, hh]
            have hlen : en.size = es.length := by
              have := h1.len; simpa using this
            exact ⟨.int .i64 es.length, by simp [execOp, resolve, invoke, builtin, Builtin.len_, run_underlying hu, hmv, hg, goInt, hlen], by simp only [R]⟩
          · simp at hv
        · simp only [Option.some.injEq] at h; subst h; simp [aRead] at hv
        · simp at h
      all_goals (exfalso; revert h; (repeat' split) <;> intro h <;> simp only [Option.some.injEq, reduceCtorEq] at h <;> subst h <;> simp [aRead] at hv)
  | binOp op t x y yt =>
    exfalso
    cases op
    case eql => simp only [trOp, trEq] at h; (repeat' split at h) <;> simp only [Option.some.injEq, reduceCtorEq] at h <;> subst h <;> simp [aRead] at hv
    case neq => simp only [trOp, trEq] at h; (repeat' split at h) <;> simp only [Option.some.injEq, reduceCtorEq] at h <;> subst h <;> simp [aRead] at hv
    all_goals (simp only [trOp] at h; (repeat' split at h) <;> simp only [Option.some.injEq, reduceCtorEq] at h <;> subst h <;> simp [aRead] at hv)
  | makeFunc f first caps =>
    exfalso
    cases f <;> simp only [trOp, reduceCtorEq] at h
    (repeat' split at h) <;> simp only [Option.some.injEq, reduceCtorEq] at h
    subst h; simp [aRead] at hv
  | makeMap t r =>
    exfalso
    cases r <;> simp only [trOp, Option.some.injEq, reduceCtorEq] at h
    subst h; simp [aRead] at hv
  | _ =>
    exfalso
    simp only [trOp, reduceCtorEq] at h
    all_goals ((repeat' split at h) <;> simp only [Option.some.injEq, reduceCtorEq] at h <;> subst h <;> simp [aRead] at hv)

end
end Go.Am

/- Operations that make a block: what compact code says is what the machine does. -/
namespace Go.Am

structure NewAt (w w' : World) : Prop where
  os : w'.os = w.os
  tape : w'.tape = w.tape
  output : w'.output = w.output
  size : w'.heap.size = w.heap.size + 1
  old : ∀ b, b < w.heap.size → w'.heap[b]? = w.heap[b]?

theorem NewAt.alloc (w : World) (o : Obj) : NewAt w (w.alloc o) :=
  ⟨rfl, rfl, rfl, by simp, fun b hb => by simp only [World.alloc]; rw [Array.getElem?_push_lt hb, Array.getElem?_eq_getElem hb]⟩

theorem NewAt.drew {w w' : World} (h : NewAt w.drew w') : NewAt w w' := ⟨h.os, h.tape, h.output, h.size, h.old⟩

theorem alloc_new (w : World) (o : Obj) : (w.alloc o).heap[w.heap.size]? = some o := by simp [World.alloc, -World.alloc_eq]

/-- A new row of cells. -/
theorem fresh_ok {Φ : Phi} {w' : World} {n : Nat} {arr : Array Value} {T : TypeId} {fr : Nat × Nat} (hh : w'.heap[n]? = some (.cells arr T fr)) (hfr : fr = (0, 0) ∨ arr.size ≤ fr.1)
    {cs : List AV} {vs rest : List Value} (ha : arr.toList = vs ++ rest) (hR : Rs Φ cs vs) (sz : Nat) : BlkOk Φ w' ⟨n, 0, arr.size, sz, true⟩ (.cells sz true cs) := by
  have hn : n < w'.heap.size := by
    rcases Nat.lt_or_ge n w'.heap.size with h | h
    · exact h
    · rw [Array.getElem?_eq_none h] at hh; simp at hh
  have hcell : ∀ k, w'.cell? ⟨n, k, none⟩ = arr[k]? := by intro k; simp [World.cell?, hh]
  have hl := hR.len
  have hsz : arr.size = vs.length + rest.length := by rw [← Array.length_toList, ha, List.length_append]
  refine ⟨hn, rfl, rfl, fun k c hk => ?_, fun _ => ⟨by simp only [Nat.zero_add]; omega, fun k hk => ⟨⟨arr[k], by rw [hcell]; simp [hk]⟩, ?_⟩⟩⟩
  · obtain ⟨v, hv, hRv⟩ := hR.get hk
    refine ⟨v, ?_, hRv⟩
    have hlt : k < vs.length := by
      rcases Nat.lt_or_ge k vs.length with h | h
      · exact h
      · rw [List.getElem?_eq_none h] at hv; simp at hv
    rw [Nat.zero_add, hcell, ← Array.getElem?_toList, ha, List.getElem?_append_left hlt, hv]
  · simp only [World.frozen?, hh]
    rcases hfr with rfl | hfr
    · simp
    · simp only [Bool.and_eq_false_iff, decide_eq_false_iff_not]; left; simp only at hk; omega

section
variable {c : Ctx} {env vals : List AV} {Φ : Phi} {ρ : Operand → Value} {w : World}

def NewOk (P : Program) (Φ : Phi) (ρ : Operand → Value) (w : World) (o : Oper) (mk : Nat → AV) (blk : Blk) : Prop :=
  ∃ v' w' l, (execOp ρ o).run P w = .ok (.value v') w' ∧ NewAt w w' ∧ l.b = w.heap.size ∧ l.rw = true ∧
    ∀ i Φ', (∀ j l, Φ j = some l → Φ' j = some l) → Φ' i = some l → BlkOk Φ' w' l blk ∧ R Φ' (mk i) v'

theorem rows_R {zero : List AV} {zs : List Value} (h : Rs Φ zero zs) : ∀ n, Rs Φ (rows n zero) ((List.replicate n zs).flatten)
  | 0 => by simpa [rows] using Rs.nil
  | n + 1 => by
    have := (h.append (rows_R h n))
    simpa [rows, List.replicate_succ] using this

theorem range_mod (zs : List Value) (n : Nat) (hz : zs.length ≠ 0) :
    ((Array.range (n * zs.length)).map (fun i => zs.toArray[i % zs.toArray.size]!)).toList = (List.replicate n zs).flatten := by
  apply List.ext_getElem?
  intro i
  have hl : ((List.replicate n zs).flatten).length = n * zs.length := by simp
  by_cases hi : i < n * zs.length
  · have e1 : ((Array.range (n * zs.length)).map (fun i => zs.toArray[i % zs.toArray.size]!)).toList[i]? = zs[i % zs.length]? := by
      have hm : i % zs.length < zs.length := Nat.mod_lt _ (by omega)
      simp [hi, hm]
    rw [e1]
    clear e1 hl
    induction n generalizing i with
    | zero => simp at hi
    | succ n ih =>
      rw [List.replicate_succ, List.flatten_cons]
      by_cases h2 : i < zs.length
      · rw [List.getElem?_append_left h2, Nat.mod_eq_of_lt h2]
      · rw [List.getElem?_append_right (by omega), ← ih (i - zs.length) (by rw [Nat.add_mul] at hi; omega)]
        congr 1
        rw [← Nat.mod_eq_sub_mod (by omega)]
  · rw [List.getElem?_eq_none (by simp; omega), List.getElem?_eq_none (by omega)]

theorem fillA_len : ∀ {ps : List (Nat × Nat × AV)} {zero cs : List AV}, fillA zero ps = some cs → cs.length = zero.length
  | [], zero, cs, h => by simp only [fillA, Option.some.injEq] at h; rw [h]
  | (o, n, v) :: r, zero, cs, h => by
    simp only [fillA] at h
    split at h
    · rename_i hc
      simp only [Bool.and_eq_true, Bool.not_eq_true', beq_iff_eq, decide_eq_true_eq] at hc
      rw [fillA_len h]
      simp [splice]; omega
    · simp at h

theorem new_ok (O : HO c env vals Φ ρ) (o : Oper) {ao : AOp} {mk : Nat → AV} {blk : Blk} (h : trOp c o.op = some ao) (hv : aNew env vals ao = some (mk, blk)) : NewOk c.P Φ ρ w o mk blk := by
  obtain ⟨dst, op, ty, pos, after, guard⟩ := o
  simp only at h
  cases op with
  | alloc e =>
    simp only [trOp] at h
    split at h <;> simp only [Option.some.injEq, reduceCtorEq] at h
    rename_i z hz; subst h
    simp only [aNew, Option.some.injEq, Prod.mk.injEq] at hv
    obtain ⟨rfl, rfl⟩ := hv
    obtain ⟨i, zv, hi, hzv, hlen, hne, hR⟩ := zeroP_info hz
    refine ⟨_, w.alloc (.cells zv.cells e), ⟨w.heap.size, 0, zv.cells.size, z.length, true⟩, by simp [execOp, Instr.alloc, run_zero hi hzv, newVar, newRow]; rfl, NewAt.alloc _ _, rfl, rfl, fun j Φ' hm hj => ⟨?_, ?_⟩⟩
    · exact fresh_ok (alloc_new w _) (.inl rfl) (rest := []) (by simp) (Rs.mono hm z (hR Φ)) _
    · simp only [R]; exact ⟨_, hj, rfl⟩
  | box e x =>
    simp only [trOp] at h
    split at h <;> simp only [Option.some.injEq, reduceCtorEq] at h
    rename_i a ha; subst h
    simp only [aNew] at hv
    split at hv <;> simp only [Option.some.injEq, reduceCtorEq, Prod.mk.injEq] at hv
    rename_i u hnj hu
    obtain ⟨rfl, rfl⟩ := hv
    have h1 := O _ _ _ ha hu
    have hj : u.isJunk = false := by cases u <;> first | rfl | exact absurd rfl hnj
    refine ⟨_, w.alloc (.cells (ρ x).cells e), ⟨w.heap.size, 0, (ρ x).cells.size, u.cells.length, true⟩, by simp [execOp, Instr.box, newVar, newRow]; rfl, NewAt.alloc _ _, rfl, rfl, fun j Φ' hm hj' => ⟨?_, ?_⟩⟩
    · exact fresh_ok (alloc_new w _) (.inl rfl) (rest := []) (by simp) (Rs.mono hm _ (R.cells h1 hj)) _
    · simp only [R]; exact ⟨_, hj', rfl⟩
  | buildSlice t n parts =>
    simp only [trOp] at h
    split at h
    · rename_i e he
      split at h
      · rename_i sz z hsz hz
        split at h
        · rename_i hle
          split at h <;> simp only [Option.some.injEq, reduceCtorEq] at h
          rename_i ps hps; subst h
          simp only [aNew] at hv
          split at hv
          · rename_i uas has
            split at hv <;> simp only [Option.some.injEq, reduceCtorEq, Prod.mk.injEq] at hv
            rename_i cs hcs
            obtain ⟨rfl, rfl⟩ := hv
            obtain ⟨i, zv, hi, hzv, hlen, hne, hR⟩ := zeroP_info hz
            obtain ⟨i', hi', hszi, hsz0⟩ := sizeP_info hsz
            rw [hi] at hi'; simp only [Option.some.injEq] at hi'; subst hi'
            have hu : c.P.underlying t = some (.slice e) := by
              unfold elemP at he; split at he <;> simp at he; subst he; assumption
            have hzl : zv.cells.toList.length = sz := by rw [(hR Φ).len, hlen, hszi]
            have hRr := rows_R (hR Φ) n
            rw [← range_mod _ n (by omega), hzl] at hRr
            obtain ⟨vs, hvs, hRv⟩ := fill_ok (fun j => some (j * sz, sz)) O parts.toList hps has hcs hRr
            have hparts : (parts.map fun p => (p.1, ρ p.2)).toList = parts.toList.map fun p => (p.1, ρ p.2) := by simp
            simp only [Array.toArray_toList] at hvs
            have hbig : ¬ n * sz > 2 ^ 24 := by omega
            refine ⟨.slice (some ⟨w.heap.size, 0, none⟩) n n, w.alloc (.cells vs.toArray e), ⟨w.heap.size, 0, vs.toArray.size, sz, true⟩, ?_, NewAt.alloc _ _, rfl, rfl, fun j Φ' hm hj => ⟨?_, ?_⟩⟩
            · simp only [execOp, Instr.buildSlice, Sem.run_bind, run_underlying hu, Result.andThen_ok, run_size hsz, Sem.run_ite, if_neg hbig, Result.andThen_ite, Sem.run_pure, run_zero hi hzv, hparts]
              by_cases h0 : n * sz = 0
              · rw [if_pos h0]
                have e0 : (Array.range (n * sz)).map (fun i => (#[] : Array Value)[i % (#[] : Array Value).size]!) = (Array.range (n * sz)).map (fun i => zv.cells[i % zv.cells.size]!) := by simp [h0]
                rw [e0, hvs]
                rfl
              · rw [if_neg h0, hvs]
                rfl
            · exact fresh_ok (alloc_new w _) (.inl rfl) (rest := []) (by simp) (Rs.mono hm _ hRv) _
            · simp only [R]
              refine ⟨_, _, _, hj, rfl, Nat.le_refl _, .inr ⟨rfl, fun _ => ?_⟩⟩
              have : vs.length = n * sz := by
                rw [hRv.len, fillA_len hcs]; simp [rows]; rw [hlen, hszi]
              simp [this]
          · simp at hv
        · simp at h
      · simp at h
    · simp at h
  | convert s d x =>
    simp only [trOp] at h
    split at h
    · simp only [Option.some.injEq] at h; subst h; simp [aNew] at hv
    · simp only [Option.some.injEq] at h; subst h; simp [aNew] at hv
    · rename_i e a hu1 hu2 ha
      split at h <;> simp only [Option.some.injEq, reduceCtorEq] at h
      rename_i hue; subst h
      simp only [aNew] at hv
      split at hv <;> simp only [Option.some.injEq, reduceCtorEq, Prod.mk.injEq] at hv
      rename_i s' hs
      obtain ⟨rfl, rfl⟩ := hv
      have h1 := O _ _ _ ha hs
      simp only [R] at h1
      have hsz : (ByteArray.mk s'.toArray).size = s'.length := by simp [ByteArray.size]
      have hcap : s'.length ≤ grownCap w s'.length 0 e := by
        simp [grownCap, Question.cut]
      have hcs : (Lib.bytesCells w e ⟨s'.toArray⟩).size = grownCap w s'.length 0 e := by
        simp [Lib.bytesCells, hsz]; omega
      refine ⟨_, Lib.bytesWorld w e ⟨s'.toArray⟩, ⟨w.heap.size, 0, (Lib.bytesCells w e ⟨s'.toArray⟩).size, 1, true⟩, by simp only [execOp, h1, Sem.run_bind, Lib.run_convert_string_bytes w s d e _ hu1 hu2 hue, Result.andThen_ok, Sem.run_pure]; rfl,
        ⟨rfl, rfl, rfl, Lib.bytesWorld_size w e _, fun b hb => Lib.bytesWorld_at_old w e _ b hb⟩, rfl, rfl, fun j Φ' hm hj => ⟨?_, ?_⟩⟩
      · refine fresh_ok (Lib.bytesWorld_at_new w e _) (.inr (Nat.le_refl _)) (vs := (ofBytes s').map fun x => match x with | .int k n => .int k n | _ => undef) (rest := List.replicate (grownCap w s'.length 0 e - s'.length) (.int .u8 0)) ?_ ?_ 1
        · simp [Lib.bytesCells, ofBytes, hsz]
        · refine Rs.mk (by simp) fun k x hk => ?_
          simp only [ofBytes, List.getElem?_map, Option.map_eq_some_iff] at hk
          obtain ⟨b, hb, rfl⟩ := hk
          exact ⟨.int .u8 b.toNat, by simp [ofBytes, hb], by simp only [R]⟩
      · simp only [R]
        refine ⟨_, _, _, hj, by rw [hsz], hcap, .inr ⟨rfl, fun _ => by simp [hcs]⟩⟩
    · split at h <;> simp only [Option.some.injEq, reduceCtorEq] at h
      subst h; simp [aNew] at hv
    · simp at h
  | makeMap t r =>
    cases r <;> simp only [trOp, Option.some.injEq, reduceCtorEq] at h
    subst h
    simp only [aNew, Option.some.injEq, Prod.mk.injEq] at hv
    obtain ⟨rfl, rfl⟩ := hv
    refine ⟨_, w.alloc (.map #[] 0), ⟨w.heap.size, 0, 0, 0, true⟩, by simp [execOp, Instr.makeMap]; rfl, NewAt.alloc _ _, rfl, rfl, fun j Φ' hm hj => ⟨?_, ?_⟩⟩
    · exact ⟨by simp, rfl, #[], 0, alloc_new w _, by simpa using Rs.nil, by simpa using Rs.nil⟩
    · simp only [R]; exact ⟨_, hj, rfl⟩
  | makeSlice t l k =>
    simp only [trOp] at h
    split at h
    · rename_i e he
      split at h
      · rename_i sz m z a b hsz hm hz ha hb
        split at h <;> simp only [Option.some.injEq, reduceCtorEq] at h
        rename_i hm0; subst h
        simp only [aNew] at hv
        split at hv
        · rename_i k1 n k2 n2 hn hn2
          split at hv <;> simp only [Option.some.injEq, reduceCtorEq, Prod.mk.injEq] at hv
          rename_i hc
          obtain ⟨rfl, rfl, rfl, h0, hby, hbig⟩ := hc
          obtain ⟨rfl, rfl⟩ := hv
          have h1 := O _ _ _ ha hn
          have h2 := O _ _ _ hb hn2
          simp only [R] at h1 h2
          obtain ⟨i, zv, hi, hzv, hlen, hne, hR⟩ := zeroP_info hz
          obtain ⟨i', hi', hszi, hsz0⟩ := sizeP_info hsz
          rw [hi] at hi'; simp only [Option.some.injEq] at hi'; subst hi'
          have hu : c.P.underlying t = some (.slice e) := by
            unfold elemP at he; split at he <;> simp at he; subst he; assumption
          have hbytes : i.bytes = m := by
            unfold bytesP at hm; rw [hi] at hm; simpa using hm
          have hzl : zv.cells.toList.length = sz := by rw [(hR Φ).len, hlen, hszi]
          have hRr := rows_R (hR Φ) n.toNat
          have hmul : (i.bytes : Int) * n ≤ 281474976710656 := by
            rw [hbytes, Int.mul_comm]; simp only [maxRoom] at hby; omega
          have hrun := run_make (P := c.P) w t e i zv hu hi hzv .i64 .i64 n n h0 (Int.le_refl _) hmul (by omega)
          have hcells : (madeCells zv.cells (n.toNat * i.size)).toList = (List.replicate n.toNat zv.cells.toList).flatten := by
            rw [← range_mod _ n.toNat (by omega), hzl, ← hszi]; simp [madeCells]
          refine ⟨_, w.alloc (.cells (madeCells zv.cells (n.toNat * i.size)) e), ⟨w.heap.size, 0, (madeCells zv.cells (n.toNat * i.size)).size, sz, true⟩, by simp only [execOp, h1, h2, Sem.run_bind, hrun, Result.andThen_ok, Sem.run_pure]; rfl, NewAt.alloc _ _, rfl, rfl, fun j Φ' hm hj => ⟨?_, ?_⟩⟩
          · exact fresh_ok (alloc_new w _) (.inl rfl) (rest := []) (by rw [hcells]; simp) (Rs.mono hm _ hRr) _
          · simp only [R]
            refine ⟨_, _, _, hj, rfl, Nat.le_refl _, .inr ⟨rfl, fun _ => ?_⟩⟩
            rw [size_madeCells, hszi]; simp
        · simp at hv
      · simp at h
    · simp at h
  | call k =>
    exfalso
    simp only [trOp, trCall] at h
    obtain ⟨callee, args, ats⟩ := k
    revert h; (repeat' split) <;> intro h <;> simp only [Option.some.injEq, reduceCtorEq] at h <;> subst h <;> simp [aNew] at hv
  | binOp op t x y yt =>
    exfalso
    cases op
    case eql => simp only [trOp, trEq] at h; (repeat' split at h) <;> simp only [Option.some.injEq, reduceCtorEq] at h <;> subst h <;> simp [aNew] at hv
    case neq => simp only [trOp, trEq] at h; (repeat' split at h) <;> simp only [Option.some.injEq, reduceCtorEq] at h <;> subst h <;> simp [aNew] at hv
    all_goals (simp only [trOp] at h; (repeat' split at h) <;> simp only [Option.some.injEq, reduceCtorEq] at h <;> subst h <;> simp [aNew] at hv)
  | makeFunc f first caps =>
    exfalso
    cases f <;> simp only [trOp, reduceCtorEq] at h
    (repeat' split at h) <;> simp only [Option.some.injEq, reduceCtorEq] at h
    subst h; simp [aNew] at hv
  | _ =>
    exfalso
    simp only [trOp, reduceCtorEq] at h
    all_goals ((repeat' split at h) <;> simp only [Option.some.injEq, reduceCtorEq] at h <;> subst h <;> simp [aNew] at hv)

end
end Go.Am

/- Operations that change memory: what compact code says is what the machine does. -/
namespace Go.Am

def upd {α : Type} (f : Nat → Option α) (i : Nat) (x : Option α) : Nat → Option α := fun j => if j = i then x else f j

theorem upd_self {α : Type} (f : Nat → Option α) (i : Nat) (x : Option α) : upd f i x i = x := by simp [upd]
theorem upd_other {α : Type} {f : Nat → Option α} {i j : Nat} {x : Option α} (h : j ≠ i) : upd f i x j = f j := by simp [upd, h]

theorem getB_append (H : AHeap) (x : Option Blk) : getB (H ++ [x]) = upd (getB H) H.length x := by
  funext j
  unfold getB upd
  by_cases h : j = H.length
  · subst h; simp
  · rw [if_neg h]
    rcases Nat.lt_or_ge j H.length with h' | h'
    · rw [List.getElem?_append_left h']
    · rw [List.getElem?_eq_none (by simp; omega)]
      show none = (H[j]?).join
      rw [List.getElem?_eq_none h']
      rfl

theorem getB_set (H : AHeap) (i : Nat) (x : Option Blk) (h : i < H.length) : getB (H.set i x) = upd (getB H) i x := by
  funext j
  unfold getB upd
  by_cases hj : j = i
  · subst hj; simp [h]
  · rw [if_neg hj, List.getElem?_set_ne (fun e => hj e.symm)]

theorem getB_lt {H : AHeap} {i : Nat} {b : Blk} (h : getB H i = some b) : i < H.length := by
  unfold getB at h
  rcases Nat.lt_or_ge i H.length with h' | h'
  · exact h'
  · rw [List.getElem?_eq_none h'] at h; simp at h

theorem setCells_facts (b : Nat) : ∀ (vs : List Value) (o : Nat) (w : World), (w.setCells b o vs).os = w.os ∧ (w.setCells b o vs).tape = w.tape ∧ (w.setCells b o vs).output = w.output ∧
    (w.setCells b o vs).heap.size = w.heap.size ∧ ∀ k, k ≠ b → (w.setCells b o vs).heap[k]? = w.heap[k]?
  | [], _, _ => ⟨rfl, rfl, rfl, rfl, fun _ _ => rfl⟩
  | v :: r, o, w => by
    obtain ⟨h1, h2, h3, h4, h5⟩ := setCells_facts b r (o + 1) (w.setCell ⟨b, o, none⟩ v)
    refine ⟨h1, h2, h3, by rw [World.setCells, h4]; simp, fun k hk => ?_⟩
    rw [World.setCells, h5 k hk]
    simp [World.setCell, Array.getElem?_modify, Ne.symm hk]

section
variable {Φ : Phi} {G : Nat → Option Blk} {w w' : World}

/-- A new block. -/
theorem new_step (S : Sim Φ G w) (N : NewAt w w') {i : Nat} {l : Loc} {blk : Blk} (hb : l.b = w.heap.size) (hr : l.rw = true) (hf : Φ i = none) (hok : BlkOk (upd Φ i (some l)) w' l blk) :
    Sim (upd Φ i (some l)) (upd G i (some blk)) w' ∧ Ext Φ G w (upd Φ i (some l)) (upd G i (some blk)) w' := by
  have mono : ∀ j q, Φ j = some q → upd Φ i (some l) j = some q := by
    intro j q hj
    rw [upd_other (fun e => by subst e; rw [hf] at hj; simp at hj)]; exact hj
  have hlt : ∀ j b, G j = some b → ∃ q, Φ j = some q ∧ BlkOk Φ w q b := S.ok
  refine ⟨⟨fun j b hj => ?_, fun j k bj bk lj lk hne hj hk hlj hlk hrw => ?_⟩, ⟨mono, N.os, N.tape, N.output, by rw [N.size]; omega, fun b hb' _ => N.old b hb', fun b hb' => ?_, fun j blk' l' h1 h2 h3 => ?_⟩⟩
  · by_cases e : j = i
    · subst e; rw [upd_self] at hj ⊢; simp only [Option.some.injEq] at hj; subst hj; exact ⟨l, rfl, hok⟩
    · rw [upd_other e] at hj
      obtain ⟨q, hq, hq2⟩ := S.ok j b hj
      exact ⟨q, mono _ _ hq, hq2.keep mono (by rw [N.size]; omega) (N.old _ hq2.lt)⟩
  · by_cases e : j = i
    · subst e
      rw [upd_self] at hlj; simp only [Option.some.injEq] at hlj; subst hlj
      have hk' : k ≠ j := fun e => hne e.symm
      rw [upd_other hk'] at hk hlk
      obtain ⟨q, hq, hq2⟩ := S.ok k bk hk
      rw [hlk] at hq; simp only [Option.some.injEq] at hq; subst hq
      have := hq2.lt; omega
    · rw [upd_other e] at hj hlj
      by_cases e2 : k = i
      · subst e2
        rw [upd_self] at hlk; simp only [Option.some.injEq] at hlk; subst hlk
        obtain ⟨q, hq, hq2⟩ := S.ok j bj hj
        rw [hlj] at hq; simp only [Option.some.injEq] at hq; subst hq
        have := hq2.lt; omega
      · rw [upd_other e2] at hk hlk
        exact S.apart j k bj bk lj lk hne hj hk hlj hlk hrw
  · obtain ⟨j, bb, q, hj, hq, hrw, hqb⟩ := hb'
    by_cases e : j = i
    · subst e; rw [upd_self] at hq; simp only [Option.some.injEq] at hq; subst hq; right; omega
    · rw [upd_other e] at hj hq; exact .inl ⟨j, bb, q, hj, hq, hrw, hqb⟩
  · by_cases e : j = i
    · subst e; rw [upd_self] at h2; simp only [Option.some.injEq] at h2; subst h2; rw [hr] at h3; simp at h3
    · rw [upd_other e] at h1 h2; exact ⟨h2, blk', h1⟩

/-- A block that is written. -/
theorem write_step (S : Sim Φ G w) {i : Nat} {l : Loc} {old blk : Blk} (hi : G i = some old) (hl : Φ i = some l) (hr : l.rw = true)
    (hos : w'.os = w.os) (htp : w'.tape = w.tape) (hou : w'.output = w.output) (hsz : w'.heap.size = w.heap.size) (hoth : ∀ b, b ≠ l.b → w'.heap[b]? = w.heap[b]?) (hok : BlkOk Φ w' l blk) :
    Sim Φ (upd G i (some blk)) w' ∧ Ext Φ G w Φ (upd G i (some blk)) w' := by
  have back : ∀ j b, upd G i (some blk) j = some b → ∃ b', G j = some b' := by
    intro j b hj
    by_cases e : j = i
    · subst e; exact ⟨old, hi⟩
    · rw [upd_other e] at hj; exact ⟨b, hj⟩
  refine ⟨⟨fun j b hj => ?_, fun j k bj bk lj lk hne hj hk hlj hlk hrw => ?_⟩, ⟨fun _ _ h => h, hos, htp, hou, by omega, fun b hb' hn => hoth b (fun e => hn ⟨i, old, l, hi, hl, hr, e.symm⟩), fun b hb' => ?_, fun j blk' l' h1 h2 h3 => ⟨h2, back j blk' h1⟩⟩⟩
  · by_cases e : j = i
    · subst e; rw [upd_self] at hj; simp only [Option.some.injEq] at hj; subst hj; exact ⟨l, hl, hok⟩
    · rw [upd_other e] at hj
      obtain ⟨q, hq, hq2⟩ := S.ok j b hj
      exact ⟨q, hq, hq2.keep (fun _ _ h => h) (by omega) (hoth _ (fun e2 => S.apart i j old b l q (fun e3 => e e3.symm) hi hj hl hq hr e2.symm))⟩
  · obtain ⟨bj', hj'⟩ := back j bj hj
    obtain ⟨bk', hk'⟩ := back k bk hk
    exact S.apart j k bj' bk' lj lk hne hj' hk' hlj hlk hrw
  · obtain ⟨j, bb, q, hj, hq, hrw, hqb⟩ := hb'
    obtain ⟨bj', hj'⟩ := back j bb hj
    exact .inl ⟨j, bj', q, hj', hq, hrw, hqb⟩

/-- A block that goes on, written, under a new number. -/
theorem move_step (S : Sim Φ G w) {i n : Nat} {l l' : Loc} {old blk : Blk} (hi : G i = some old) (hl : Φ i = some l) (hr : l.rw = true) (hf : Φ n = none) (hb : l'.b = l.b) (hr' : l'.rw = true)
    (hos : w'.os = w.os) (htp : w'.tape = w.tape) (hou : w'.output = w.output) (hsz : w'.heap.size = w.heap.size) (hoth : ∀ b, b ≠ l.b → w'.heap[b]? = w.heap[b]?) (hok : BlkOk (upd Φ n (some l')) w' l' blk) :
    Sim (upd Φ n (some l')) (upd (upd G i none) n (some blk)) w' ∧ Ext Φ G w (upd Φ n (some l')) (upd (upd G i none) n (some blk)) w' := by
  have mono : ∀ j q, Φ j = some q → upd Φ n (some l') j = some q := by
    intro j q hj
    rw [upd_other (fun e => by subst e; rw [hf] at hj; simp at hj)]; exact hj
  have hin : i ≠ n := fun e => by subst e; rw [hf] at hl; simp at hl
  have back : ∀ j b q, upd (upd G i none) n (some blk) j = some b → upd Φ n (some l') j = some q → (j = n ∧ q = l' ∧ b = blk) ∨ (j ≠ n ∧ j ≠ i ∧ G j = some b ∧ Φ j = some q) := by
    intro j b q hj hq
    by_cases e : j = n
    · subst e; rw [upd_self] at hj hq; simp only [Option.some.injEq] at hj hq; exact .inl ⟨rfl, hq.symm, hj.symm⟩
    · rw [upd_other e] at hj hq
      by_cases e2 : j = i
      · subst e2; rw [upd_self] at hj; simp at hj
      · rw [upd_other e2] at hj; exact .inr ⟨e, e2, hj, hq⟩
  refine ⟨⟨fun j b hj => ?_, fun j k bj bk lj lk hne hj hk hlj hlk hrw => ?_⟩, ⟨mono, hos, htp, hou, by omega, fun b hb' hn => hoth b (fun e => hn ⟨i, old, l, hi, hl, hr, e.symm⟩), fun b hb' => ?_, fun j blk' l'' h1 h2 h3 => ?_⟩⟩
  · by_cases e : j = n
    · subst e; rw [upd_self] at hj; simp only [Option.some.injEq] at hj; subst hj; exact ⟨l', upd_self _ _ _, hok⟩
    · rw [upd_other e] at hj
      by_cases e2 : j = i
      · subst e2; rw [upd_self] at hj; simp at hj
      · rw [upd_other e2] at hj
        obtain ⟨q, hq, hq2⟩ := S.ok j b hj
        exact ⟨q, mono _ _ hq, hq2.keep mono (by omega) (hoth _ (fun e3 => S.apart i j old b l q (fun e4 => e2 e4.symm) hi hj hl hq hr e3.symm))⟩
  · rcases back j bj lj hj hlj with ⟨rfl, rfl, rfl⟩ | ⟨e1, e2, hj', hlj'⟩ <;> rcases back k bk lk hk hlk with ⟨rfl, rfl, rfl⟩ | ⟨e3, e4, hk', hlk'⟩
    · exact absurd rfl hne
    · rw [hb]; exact S.apart i k old bk l lk (fun e => e4 e.symm) hi hk' hl hlk' hr
    · rw [hb]; exact S.apart j i bj old lj l e2 hj' hi hlj' hl hrw
    · exact S.apart j k bj bk lj lk hne hj' hk' hlj' hlk' hrw
  · obtain ⟨j, bb, q, hj, hq, hrw, hqb⟩ := hb'
    rcases back j bb q hj hq with ⟨rfl, rfl, rfl⟩ | ⟨e1, e2, hj', hlj'⟩
    · exact .inl ⟨i, old, l, hi, hl, hr, by omega⟩
    · exact .inl ⟨j, bb, q, hj', hlj', hrw, hqb⟩
  · rcases back j blk' l'' h1 h2 with ⟨rfl, rfl, rfl⟩ | ⟨e1, e2, hj', hlj'⟩
    · rw [hr'] at h3; simp at h3
    · exact ⟨hlj', blk', hj'⟩

/-- Fewer blocks own less. -/
theorem Ext.less {Φ' : Phi} {G' G'' : Nat → Option Blk} (h : Ext Φ G w Φ' G' w') (hl : ∀ i b, G'' i = some b → G' i = some b) : Ext Φ G w Φ' G'' w' :=
  ⟨h.mono, h.os, h.tape, h.output, h.size, h.frame, fun b ⟨i, bb, l, hi, hrest⟩ => h.own b ⟨i, bb, l, hl i bb hi, hrest⟩, fun j blk l h1 h2 h3 => h.ro j blk l (hl j blk h1) h2 h3⟩

end

section
variable {c : Ctx} {env vals : List AV} {Φ : Phi} {ρ : Operand → Value} {w : World} {H : AHeap}

def EffOk (P : Program) (Φ : Phi) (H : AHeap) (w : World) (ρ : Operand → Value) (o : Oper) (v : AV) (H' : AHeap) : Prop :=
  ∃ Φ' nx w', (execOp ρ o).run P w = .ok nx w' ∧ ((∃ v', nx = .value v' ∧ R Φ' v v') ∨ (nx = .skip ∧ v = .junk)) ∧
    Sim Φ' (getB H') w' ∧ Ext Φ (getB H) w Φ' (getB H') w' ∧ (∀ i, Φ' i ≠ Φ i → H.length ≤ i ∧ i < H'.length)

/-- Cells that are written into a block. -/
theorem store_world (S : Sim Φ (getB H) w) {i o : Nat} {cs : List AV} {H' : AHeap} (h : storeA H i o cs = some H') {vs : List Value} (hR : Rs Φ cs vs) {l : Loc} (hl : Φ i = some l) :
    (∀ P : Program, (storeCells ⟨l.b, l.base + o, none⟩ vs).run P w = .ok () (w.setCells l.b (l.base + o) vs)) ∧
      Sim Φ (getB H') (w.setCells l.b (l.base + o) vs) ∧ Ext Φ (getB H) w Φ (getB H') (w.setCells l.b (l.base + o) vs) ∧ H'.length = H.length := by
  unfold storeA at h
  split at h
  · rename_i sz cs0 hB
    split at h <;> simp only [Option.some.injEq, reduceCtorEq] at h
    rename_i hc
    simp only [Bool.and_eq_true, decide_eq_true_eq] at hc
    subst h
    obtain ⟨l', hl', hok⟩ := S.ok i _ hB
    rw [hl] at hl'; simp only [Option.some.injEq] at hl'; subst hl'
    have hok0 := hok
    obtain ⟨h1, h2, h3, h4, h5⟩ := hok
    obtain ⟨h6, h7⟩ := h5 rfl
    have hlen := hR.len
    have hin : ∀ j, j < vs.length → l.base + o + j < l.lim := by intro j hj; omega
    have hsome : ∀ j, j < vs.length → (w.cell? ⟨l.b, l.base + o + j, none⟩).isSome = true := by
      intro j hj; obtain ⟨v, hv⟩ := (h7 _ (hin j hj)).1; simp [hv]
    have hone : ∀ v ∈ vs, v.oneCell' = true := by
      intro v hv
      obtain ⟨k, hk, rfl⟩ := List.getElem_of_mem hv
      have hk' : k < cs.length := by omega
      obtain ⟨u, hu, hRu⟩ := hR.get (k := k) (c := cs[k]) (by simp [hk'])
      rw [List.getElem?_eq_getElem hk] at hu
      simp only [Option.some.injEq] at hu
      rw [hu]
      exact hRu.one (List.all_eq_true.1 hc.2 _ (List.getElem_mem hk'))
    refine ⟨fun P => ?_, ?_⟩
    · have := run_storeCells_cells (P := P) l.b (l.base + o) vs 0 w (by simpa using hsome) (fun j hj => by simpa using (h7 _ (hin j hj)).2) hone
      simpa using this
    · have hsp : (splice cs0 o cs).length = cs0.length := by simp [splice]; omega
      have hnew : BlkOk Φ (w.setCells l.b (l.base + o) vs) l (.cells sz true (splice cs0 o cs)) := by
        have hfr := World.frozen?_setCells l.b vs (l.base + o) w
        have hcell : ∀ k, k < l.lim → ∃ v, (w.setCells l.b (l.base + o) vs).cell? ⟨l.b, k, none⟩ = some v := by
          intro k hk
          by_cases hr : l.base + o ≤ k ∧ k < l.base + o + vs.length
          · have := World.cell?_setCells_in l.b vs (l.base + o) w hsome (k - (l.base + o)) (by omega)
            rw [show l.base + o + (k - (l.base + o)) = k by omega] at this
            exact ⟨_, this⟩
          · rw [World.cell?_setCells_out l.b vs (l.base + o) w ⟨l.b, k, none⟩ (fun _ _ => by simp only; omega)]
            exact (h7 k hk).1
        have hsize := (setCells_facts l.b vs (l.base + o) w).2.2.2.1
        refine ⟨by rw [hsize]; exact h1, h2, h3, fun k x hk => ?_, fun _ => ⟨by rw [hsp]; exact h6, fun k hk => ⟨hcell k hk, by rw [hfr]; exact (h7 k hk).2⟩⟩⟩
        unfold splice at hk
        by_cases ha : k < o
        · rw [List.append_assoc, List.getElem?_append_left (by simp; omega), List.getElem?_take_of_lt ha] at hk
          obtain ⟨v, hv, hRv⟩ := h4 k x hk
          exact ⟨v, by rw [World.cell?_setCells_out l.b vs (l.base + o) w _ (fun _ _ => by simp only; omega)]; exact hv, hRv⟩
        · by_cases hb : k < o + cs.length
          · rw [List.append_assoc, List.getElem?_append_right (by simp; omega), List.getElem?_append_left (by simp; omega)] at hk
            rw [List.length_take, Nat.min_eq_left (by omega)] at hk
            obtain ⟨u, hu, hRu⟩ := hR.get hk
            have hlt : k - o < vs.length := by omega
            have := World.cell?_setCells_in l.b vs (l.base + o) w hsome (k - o) hlt
            rw [show l.base + o + (k - o) = l.base + k by omega] at this
            rw [List.getElem?_eq_getElem hlt] at hu
            exact ⟨u, by rw [this, hu], hRu⟩
          · rw [List.append_assoc, List.getElem?_append_right (by simp; omega), List.getElem?_append_right (by simp; omega)] at hk
            rw [List.length_take, Nat.min_eq_left (by omega), List.getElem?_drop] at hk
            obtain ⟨v, hv, hRv⟩ := h4 k x (by rw [← hk]; congr 1; omega)
            exact ⟨v, by rw [World.cell?_setCells_out l.b vs (l.base + o) w _ (fun _ _ => by simp only; omega)]; exact hv, hRv⟩
      obtain ⟨q1, q2, q3, q4, q5⟩ := setCells_facts l.b vs (l.base + o) w
      obtain ⟨s1, s2⟩ := write_step S hB hl h3 q1 q2 q3 q4 q5 hnew
      rw [← getB_set H i _ (getB_lt hB)] at s1 s2
      exact ⟨s1, s2, by simp⟩
  · simp at h
end
end Go.Am

/- append, copy, clear: what compact code says is what the machine does. -/
namespace Go.Am

section
variable {c : Ctx} {env vals : List AV} {Φ : Phi} {ρ : Operand → Value} {w : World} {H : AHeap}

/-- What is appended or copied. -/
theorem src_ok (S : Sim Φ (getB H) w) {sz n : Nat} {x : AV} {cs : List AV} {v : Value} (h : cellsOfSrc H sz x = some (n, cs)) (hR : R Φ x v) (hstr : ∀ s, x = .str s → sz = 1) :
    ∃ vs : List Value, Rs Φ cs vs ∧ vs.length = n * sz ∧
      (∀ P : Program, (Builtin.lenOf v).run P w = .ok n w) ∧
      (∀ (P : Program) (m : Nat), m ≤ n → (Builtin.firstCells sz m v).run P w = .ok (vs.take (m * sz)).toArray w) ∧
      (∀ (P : Program) (m : Nat), m ≤ n → (Builtin.firstCells sz m v).run P w.drew = .ok (vs.take (m * sz)).toArray w.drew) := by
  cases x <;> simp only [cellsOfSrc, reduceCtorEq] at h
  case nilsl =>
    simp only [Option.some.injEq, Prod.mk.injEq] at h
    obtain ⟨rfl, rfl⟩ := h
    simp only [R] at hR; subst hR
    exact ⟨[], .nil, by simp, by simp [Builtin.lenOf], by simp [Builtin.firstCells], by simp [Builtin.firstCells]⟩
  case esl =>
    simp only [Option.some.injEq, Prod.mk.injEq] at h
    obtain ⟨rfl, rfl⟩ := h
    simp only [R] at hR
    obtain ⟨a, rfl⟩ := hR
    refine ⟨[], .nil, by simp, by simp [Builtin.lenOf], fun P m hm => ?_, fun P m hm => ?_⟩
    · have : m = 0 := by omega
      subst this; simp [Builtin.firstCells, loadCells, loadCellsFrom]
    · have : m = 0 := by omega
      subst this; simp [Builtin.firstCells, loadCells, loadCellsFrom]
  case str s =>
    simp only [Option.some.injEq, Prod.mk.injEq] at h
    obtain ⟨rfl, rfl⟩ := h
    have h1 := hstr s rfl
    subst h1
    simp only [R] at hR; subst hR
    have hsz : (ByteArray.mk s.toArray).size = s.length := by simp [ByteArray.size]
    have key : ∀ (P : Program) (w : World) (m : Nat), m ≤ s.length → (Builtin.firstCells 1 m (.string ⟨s.toArray⟩)).run P w = .ok ((s.map fun b => Value.int .u8 b.toNat).take (m * 1)).toArray w := by
      intro P w m hm
      simp only [Builtin.firstCells, Sem.run_pure, ByteArray.extract_mk]
      congr 1
      apply Array.ext'
      simp [List.map_take]
    refine ⟨s.map fun b => .int .u8 b.toNat, ?_, by simp, by intro P; simp [Builtin.lenOf, hsz], fun P m hm => key P w m hm, fun P m hm => key P w.drew m hm⟩
    refine Rs.mk (by simp [ofBytes]) fun k x hk => ?_
    simp only [ofBytes, List.getElem?_map, Option.map_eq_some_iff] at hk
    obtain ⟨b, hb, rfl⟩ := hk
    exact ⟨.int .u8 b.toNat, by simp [hb], by simp only [R]⟩
  case sl j o n' =>
    split at h
    · rename_i sz' rw' cs0 hB
      split at h <;> simp only [Option.some.injEq, reduceCtorEq, Prod.mk.injEq] at h
      rename_i hc
      obtain ⟨rfl, hle⟩ := hc
      obtain ⟨rfl, rfl⟩ := h
      simp only [R] at hR
      obtain ⟨l, a, cc, hl, rfl, hlc, hcap⟩ := hR
      have hload : loadA H j o (n' * sz') = some ((cs0.drop o).take (n' * sz')) := by simp [loadA, hB, hle]
      obtain ⟨h1, vs, h2, h3, h4⟩ := loadA_cells S hload hl
      have cell : ∀ (w' : World) (hw : ∀ a, w'.cell? a = w.cell? a) (P : Program) (m : Nat), m ≤ n' → (Builtin.firstCells sz' m (.slice (some a) n' cc)).run P w' = .ok (vs.take (m * sz')).toArray w' := by
        intro w' hw P m hm
        rcases hcap with h0 | ⟨rfl, _⟩
        · have hm0 : m = 0 := by omega
          subst hm0; simp [Builtin.firstCells, loadCells, loadCellsFrom]
        · refine run_firstCells_some w' sz' m _ n' cc (vs.take (m * sz')) ?_ (fun k v hk => ?_)
          · have := Nat.mul_le_mul_right sz' hm
            simp; omega
          · rw [hw]
            refine h4 k v ?_
            rcases Nat.lt_or_ge k (m * sz') with h | h
            · rwa [List.getElem?_take_of_lt h] at hk
            · rw [List.getElem?_eq_none (by simp; omega)] at hk; simp at hk
      exact ⟨vs, h2, h3, by intro P; simp [Builtin.lenOf], cell w (fun _ => rfl), cell w.drew (fun _ => rfl)⟩
    · simp at h

theorem run_append_in {P : Program} {t u ty e : TypeId} {d : TypeDesc} {sz : Nat} (ht : P.underlying t = some (.slice e)) (hu : P.underlying u = some d) (hd : (∃ e, d = .slice e) ∨ d = .string) (hs : (sizeOf e).run P w = .ok sz w)
    {base : Option Addr} {sLen sCap n : Nat} {x : Value} {vs : List Value} (hl : (Builtin.lenOf x).run P w = .ok n w) (hf : (Builtin.firstCells sz n x).run P w = .ok vs.toArray w) (hle : sLen + n ≤ sCap) :
    (Builtin.append_ #[t, u] ty #[.slice base sLen sCap, x]).run P w =
      (match base with
        | some a => ((storeCells (a.add (sLen * sz)) vs).run P w).andThen fun _ w' => .ok (.slice base (sLen + n) sCap) w'
        | none => .ok (.slice base (sLen + n) sCap) w) := by
  rcases hd with ⟨e', rfl⟩ | rfl
  · cases base <;> simp [Builtin.append_, run_underlying ht, run_underlying hu, hs, hl, hle, hf]
  · cases base <;> simp [Builtin.append_, run_underlying ht, run_underlying hu, hs, hl, hle, hf]

theorem run_append_out {P : Program} {t u ty e : TypeId} {d : TypeDesc} {i : TypeInfo} {z : Value} (ht : P.underlying t = some (.slice e)) (hu : P.underlying u = some d) (hd : (∃ e, d = .slice e) ∨ d = .string)
    (hi : P.info? e = some i) (hz : i.zero = some z) (hb0 : i.bytes ≠ 0)
    {base : Option Addr} {sLen sCap n : Nat} {x : Value} {vs olds : List Value} (hl : (Builtin.lenOf x).run P w = .ok n w) (hf : (Builtin.firstCells i.size n x).run P w.drew = .ok vs.toArray w.drew)
    (ho : (Builtin.firstCells i.size sLen (.slice base sLen sCap)).run P w.drew = .ok olds.toArray w.drew) (hlt : sCap < sLen + n) (hfit : (sLen + n) * i.bytes ≤ 140737488355328) :
    (Builtin.append_ #[t, u] ty #[.slice base sLen sCap, x]).run P w =
      .ok (.slice (some ⟨w.heap.size, 0, none⟩) (sLen + n) (grownCap w (sLen + n) sCap e))
        (w.drew.alloc (.cells (olds.toArray ++ vs.toArray ++ Builtin.zeroCells z.cells (grownCap w (sLen + n) sCap e - (sLen + n))) e)) := by
  have hn : ¬ (sLen + n ≤ sCap) := by omega
  have h48 : ¬ (281474976710656 < Builtin.nextslicecap (sLen + n) sCap * i.bytes) := by
    have := growslice_fits hlt hfit; omega
  rcases hd with ⟨e', rfl⟩ | rfl
  · simp [Builtin.append_, run_underlying ht, run_underlying hu, sizeOf, typeInfo, zeroValue, hi, hz, hl, hn, hb0, h48, Question.forced, hf, ho, newRow, grownCap]
    congr 2
    apply Array.ext'
    simp [List.append_assoc]
  · simp [Builtin.append_, run_underlying ht, run_underlying hu, sizeOf, typeInfo, zeroValue, hi, hz, hl, hn, hb0, h48, Question.forced, hf, ho, newRow, grownCap]
    congr 2
    apply Array.ext'
    simp [List.append_assoc]

theorem append_ok (S : Sim Φ (getB H) w) {t u ty e : TypeId} {d : TypeDesc} {sz m : Nat} (ht : c.P.underlying t = some (.slice e)) (hu : c.P.underlying u = some d) (hd : (∃ e, d = .slice e) ∨ d = .string)
    (hsz : sizeP c.P e = some sz) (hby : bytesP c.P e = some m) (hm0 : m ≠ 0) {z0 : List AV} (hz0 : zeroP c.P e = some z0) {a x v : AV} {p q : Value} {H' : AHeap}
    (ha : R Φ a p) (hx : R Φ x q) (hstr : ∀ s, x = .str s → sz = 1) (h : appendA H sz m a x = some (v, H')) (hfree : ∀ i, H.length ≤ i → i < H'.length → Φ i = none) :
    ∃ Φ' v' w', (Builtin.append_ #[t, u] ty #[p, q]).run c.P w = .ok v' w' ∧ R Φ' v v' ∧ Sim Φ' (getB H') w' ∧ Ext Φ (getB H) w Φ' (getB H') w' ∧ (∀ i, Φ' i ≠ Φ i → H.length ≤ i ∧ i < H'.length) := by
  obtain ⟨zi, zv, hi, hzv, hzl, hzne, hzR⟩ := zeroP_info hz0
  obtain ⟨i', hi', hszi, hsz0⟩ := sizeP_info hsz
  rw [hi] at hi'; simp only [Option.some.injEq] at hi'; subst hi'
  have hbytes : zi.bytes = m := by unfold bytesP at hby; rw [hi] at hby; simpa using hby
  unfold appendA at h
  split at h
  · simp at h
  · rename_i k xs hsrc
    obtain ⟨vs, hvR, hvl, hlen, hfc, hfcd⟩ := src_ok S hsrc hx hstr
    have hfull : vs.take (k * sz) = vs := List.take_of_length_le (by omega)
    have hf := hfc c.P k (Nat.le_refl _)
    have hfd := hfcd c.P k (Nat.le_refl _)
    rw [hfull] at hf hfd
    -- nothing is appended
    have none_case : ∀ (base : Option Addr) (n cc : Nat), k = 0 → n ≤ cc → p = .slice base n cc →
        (Builtin.append_ #[t, u] ty #[p, q]).run c.P w = .ok p w := by
      intro base n cc hk hle hp
      subst hk
      have hv0 : vs = [] := by simpa using hvl
      subst hv0
      rw [hp, run_append_in ht hu hd (run_size hsz) (hlen c.P) hf (by omega)]
      cases base <;> simp [storeCells]
    -- a new row
    have new_case : ∀ (base : Option Addr) (n cc : Nat) (cs0 : List AV) (olds : List Value), p = .slice base n cc → cc < n + k → (n + k) * m ≤ maxRoom →
        Rs Φ cs0 olds → olds.length = n * sz → (∀ P : Program, (Builtin.firstCells sz n (.slice base n cc)).run P w.drew = .ok olds.toArray w.drew) →
        ∃ v' w' l, (Builtin.append_ #[t, u] ty #[p, q]).run c.P w = .ok v' w' ∧ NewAt w w' ∧ l.b = w.heap.size ∧ l.rw = true ∧
          ∀ i Φ', (∀ j l, Φ j = some l → Φ' j = some l) → Φ' i = some l → BlkOk Φ' w' l (.cells sz true (cs0 ++ xs)) ∧ R Φ' (.sl i 0 (n + k)) v' := by
      intro base n cc cs0 olds hp hlt hroom hoR hol hof
      have hrun := run_append_out (P := c.P) (ty := ty) (w := w) ht hu hd hi hzv (by rw [hbytes]; exact hm0) (base := base) (sLen := n) (sCap := cc) (n := k) (x := q) (vs := vs) (olds := olds) (hlen c.P)
        (by rw [hszi]; exact hfd) (by rw [hszi]; exact hof c.P) hlt (by rw [hbytes]; exact hroom)
      have hcap : n + k ≤ grownCap w (n + k) cc e := by simp [grownCap, Question.cut]
      have hzs : zv.cells.size = sz := by rw [← Array.length_toList, (hzR Φ).len, hzl, hszi]
      refine ⟨_, _, ⟨w.heap.size, 0, (olds.toArray ++ vs.toArray ++ Builtin.zeroCells zv.cells (grownCap w (n + k) cc e - (n + k))).size, sz, true⟩, by rw [hp]; exact hrun,
        NewAt.drew (NewAt.alloc w.drew _), rfl, rfl, fun j Φ' hm' hj => ⟨?_, ?_⟩⟩
      · refine fresh_ok (alloc_new w.drew _) (.inl rfl) (vs := olds ++ vs) (rest := (Builtin.zeroCells zv.cells (grownCap w (n + k) cc e - (n + k))).toList) ?_ ((Rs.mono hm' _ hoR).append (Rs.mono hm' _ hvR)) sz
        simp
      · simp only [R]
        refine ⟨_, _, _, hj, rfl, hcap, .inr ⟨rfl, fun _ => ?_⟩⟩
        simp only [Array.size_append, List.size_toArray, size_zeroCells, hzs, hol, hvl]
        rw [← Nat.add_mul, ← Nat.add_mul]
        rw [show n + k + (grownCap w (n + k) cc e - (n + k)) = grownCap w (n + k) cc e by omega]
        omega
    have new_fin : ∀ (cs1 : List AV) (nn : Nat) (G1 : Nat → Option Blk), (∀ i b, G1 i = some b → getB H i = some b) → v = .sl H.length 0 nn → getB H' = upd G1 H.length (some (.cells sz true cs1)) → H'.length = H.length + 1 →
        (∃ v' w' l, (Builtin.append_ #[t, u] ty #[p, q]).run c.P w = .ok v' w' ∧ NewAt w w' ∧ l.b = w.heap.size ∧ l.rw = true ∧
          ∀ i Φ', (∀ j l, Φ j = some l → Φ' j = some l) → Φ' i = some l → BlkOk Φ' w' l (.cells sz true cs1) ∧ R Φ' (.sl i 0 nn) v') →
        ∃ Φ' v' w', (Builtin.append_ #[t, u] ty #[p, q]).run c.P w = .ok v' w' ∧ R Φ' v v' ∧ Sim Φ' (getB H') w' ∧ Ext Φ (getB H) w Φ' (getB H') w' ∧ (∀ i, Φ' i ≠ Φ i → H.length ≤ i ∧ i < H'.length) := by
      intro cs1 nn G1 hG1 hv hgH hlH ⟨v', w', l, hrun, hN, hlb, hlr, hall⟩
      have hnone : Φ H.length = none := hfree _ (Nat.le_refl _) (by omega)
      have mono : ∀ j q, Φ j = some q → upd Φ H.length (some l) j = some q := by
        intro j q hj
        rw [upd_other (fun e => by subst e; rw [hnone] at hj; simp at hj)]; exact hj
      obtain ⟨hok, hRv⟩ := hall H.length (upd Φ H.length (some l)) mono (upd_self _ _ _)
      obtain ⟨s1, s2⟩ := new_step S hN hlb hlr hnone hok
      have hsub : ∀ i b, getB H' i = some b → upd (getB H) H.length (some (.cells sz true cs1)) i = some b := by
        intro i b hb
        rw [hgH] at hb
        by_cases e : i = H.length
        · subst e; rw [upd_self] at hb ⊢; exact hb
        · rw [upd_other e] at hb ⊢; exact hG1 i b hb
      refine ⟨upd Φ H.length (some l), v', w', hrun, by rw [hv]; exact hRv, s1.less hsub, s2.less hsub, fun i hne => ?_⟩
      by_cases e : i = H.length
      · subst e; exact ⟨Nat.le_refl _, by omega⟩
      · exact absurd (upd_other e) hne
    split at h
    · -- of nil
      simp only [R] at ha
      split at h
      · rename_i hk
        simp only [Option.some.injEq, Prod.mk.injEq] at h
        obtain ⟨rfl, rfl⟩ := h
        exact ⟨Φ, p, w, none_case none 0 0 hk (Nat.le_refl _) ha, by simpa only [R] using ha, S, Ext.refl _ _ _, fun i hi => absurd rfl hi⟩
      · rename_i hk
        split at h <;> simp only [Option.some.injEq, Prod.mk.injEq, reduceCtorEq] at h
        rename_i hroom
        obtain ⟨rfl, rfl⟩ := h
        have := new_case none 0 0 [] [] ha (by omega) (by simpa using hroom) .nil (by simp) (by intro P; simp [Builtin.firstCells])
        simp only [Nat.zero_add, List.nil_append] at this
        exact new_fin xs k (getB H) (fun _ _ h => h) rfl (getB_append _ _) (by simp) this
    · -- of an empty slice
      simp only [R] at ha
      obtain ⟨a0, ha⟩ := ha
      split at h
      · rename_i hk
        simp only [Option.some.injEq, Prod.mk.injEq] at h
        obtain ⟨rfl, rfl⟩ := h
        exact ⟨Φ, p, w, none_case (some a0) 0 0 hk (Nat.le_refl _) ha, by simp only [R]; exact ⟨a0, ha⟩, S, Ext.refl _ _ _, fun i hi => absurd rfl hi⟩
      · rename_i hk
        split at h <;> simp only [Option.some.injEq, Prod.mk.injEq, reduceCtorEq] at h
        rename_i hroom
        obtain ⟨rfl, rfl⟩ := h
        have := new_case (some a0) 0 0 [] [] ha (by omega) (by simpa using hroom) .nil (by simp) (by intro P; simp [Builtin.firstCells, loadCells, loadCellsFrom])
        simp only [Nat.zero_add, List.nil_append] at this
        exact new_fin xs k (getB H) (fun _ _ h => h) rfl (getB_append _ _) (by simp) this
    · -- of a slice
      rename_i i o n
      have ha0 := ha
      simp only [R] at ha
      obtain ⟨l, b0, cc, hl, hp, hncc, hcap⟩ := ha
      split at h
      · rename_i hk
        simp only [Option.some.injEq, Prod.mk.injEq] at h
        obtain ⟨rfl, rfl⟩ := h
        exact ⟨Φ, p, w, none_case (some b0) n cc hk hncc hp, ha0, S, Ext.refl _ _ _, fun i hi => absurd rfl hi⟩
      · rename_i hk
        split at h
        · rename_i sz' cs0 hB
          split at h <;> simp only [Option.some.injEq, Prod.mk.injEq, reduceCtorEq] at h
          rename_i hc
          obtain ⟨rfl, hle, hroom, hone⟩ := hc
          obtain ⟨rfl, rfl⟩ := h
          obtain ⟨l', hl', hok⟩ := S.ok i _ hB
          rw [hl] at hl'; simp only [Option.some.injEq] at hl'; subst hl'
          obtain ⟨q1, q2, q3, q4, q5⟩ := hok
          obtain ⟨q6, q7⟩ := q5 rfl
          have hload : loadA H i o (n * sz') = some ((cs0.drop o).take (n * sz')) := by simp [loadA, hB, hle]
          obtain ⟨e1, olds, e2, e3, e4⟩ := loadA_cells S hload hl
          by_cases hroomy : n + k ≤ cc
          · -- there is room
            rcases hcap with h0 | ⟨rfl, hlim⟩
            · exact absurd h0 (by omega)
            · have hlim' := hlim q3
              rw [q2] at hlim'
              have hmul : (n + k) * sz' ≤ cc * sz' := Nat.mul_le_mul_right _ hroomy
              have hnk : (n + k) * sz' = n * sz' + k * sz' := Nat.add_mul _ _ _
              have hin : ∀ j, j < vs.length → l.base + o + n * sz' + j < l.lim := by intro j hj; omega
              have hsome : ∀ j, j < vs.length → (w.cell? ⟨l.b, l.base + o + n * sz' + j, none⟩).isSome = true := by
                intro j hj; obtain ⟨v, hv⟩ := (q7 _ (hin j hj)).1; simp [hv]
              have hone' : ∀ v ∈ vs, v.oneCell' = true := by
                intro v hv
                obtain ⟨kk, hkk, rfl⟩ := List.getElem_of_mem hv
                have hk' : kk < xs.length := by have := hvR.len; omega
                obtain ⟨uu, hu', hRu⟩ := hvR.get (k := kk) (c := xs[kk]) (by simp [hk'])
                rw [List.getElem?_eq_getElem hkk] at hu'
                simp only [Option.some.injEq] at hu'
                rw [hu']
                exact hRu.one (List.all_eq_true.1 hone _ (List.getElem_mem hk'))
              have hst := run_storeCells_cells (P := c.P) l.b (l.base + o + n * sz') vs 0 w (by simpa using hsome) (fun j hj => by simpa using (q7 _ (hin j hj)).2) hone'
              have hrun := run_append_in (P := c.P) (ty := ty) (w := w) ht hu hd (run_size hsz) (base := some ⟨l.b, l.base + o, none⟩) (sLen := n) (sCap := cc) (hlen c.P) hf hroomy
              simp only [add_flat] at hrun
              rw [hst] at hrun
              simp only [Nat.add_zero, Result.andThen_ok] at hrun
              obtain ⟨f1, f2, f3, f4, f5⟩ := setCells_facts l.b vs (l.base + o + n * sz') w
              have hnone : Φ H.length = none := hfree _ (Nat.le_refl _) (by simp)
              have mono : ∀ j q, Φ j = some q → upd Φ H.length (some ⟨l.b, l.base + o, l.lim, l.sz, true⟩) j = some q := by
                intro j q hj
                rw [upd_other (fun e => by subst e; rw [hnone] at hj; simp at hj)]; exact hj
              have hcell : ∀ kk, kk < l.lim → ∃ v, (w.setCells l.b (l.base + o + n * sz') vs).cell? ⟨l.b, kk, none⟩ = some v := by
                intro kk hkk
                by_cases hr : l.base + o + n * sz' ≤ kk ∧ kk < l.base + o + n * sz' + vs.length
                · have := World.cell?_setCells_in l.b vs (l.base + o + n * sz') w hsome (kk - (l.base + o + n * sz')) (by omega)
                  rw [show l.base + o + n * sz' + (kk - (l.base + o + n * sz')) = kk by omega] at this
                  exact ⟨_, this⟩
                · rw [World.cell?_setCells_out l.b vs _ w ⟨l.b, kk, none⟩ (fun _ _ => by simp only; omega)]
                  exact (q7 kk hkk).1
              have hlx : xs.length = k * sz' := by rw [← hvR.len]; exact hvl
              have hnew : BlkOk (upd Φ H.length (some ⟨l.b, l.base + o, l.lim, l.sz, true⟩)) (w.setCells l.b (l.base + o + n * sz') vs) ⟨l.b, l.base + o, l.lim, l.sz, true⟩ (.cells sz' true ((cs0.drop o).take (n * sz') ++ xs)) := by
                refine ⟨by rw [f4]; exact q1, q2, rfl, fun kk x hkx => ?_, fun _ => ⟨by simp only [List.length_append, e1, hlx]; omega, fun kk hkk => ⟨hcell kk hkk, by rw [World.frozen?_setCells]; exact (q7 kk hkk).2⟩⟩⟩
                by_cases hkn : kk < n * sz'
                · rw [List.getElem?_append_left (by omega)] at hkx
                  obtain ⟨uu, hu1, hu2⟩ := e2.get hkx
                  have := e4 kk uu hu1
                  rw [add_flat] at this
                  refine ⟨uu, ?_, R.mono mono _ hu2⟩
                  rw [World.cell?_setCells_out l.b vs _ w _ (fun _ _ => by simp only; omega)]
                  exact this
                · rw [List.getElem?_append_right (by omega), e1] at hkx
                  obtain ⟨uu, hu1, hu2⟩ := hvR.get hkx
                  have hlt : kk - n * sz' < vs.length := by
                    rcases Nat.lt_or_ge (kk - n * sz') vs.length with h | h
                    · exact h
                    · rw [List.getElem?_eq_none h] at hu1; simp at hu1
                  have := World.cell?_setCells_in l.b vs (l.base + o + n * sz') w hsome (kk - n * sz') hlt
                  rw [show l.base + o + n * sz' + (kk - n * sz') = l.base + o + kk by omega] at this
                  rw [List.getElem?_eq_getElem hlt] at hu1
                  exact ⟨uu, by rw [this, hu1], R.mono mono _ hu2⟩
              obtain ⟨s1, s2⟩ := move_step S hB hl q3 hnone (l' := ⟨l.b, l.base + o, l.lim, l.sz, true⟩) rfl rfl f1 f2 f3 f4 f5 hnew
              have hg : getB (H.set i none ++ [some (.cells sz' true ((cs0.drop o).take (n * sz') ++ xs))]) = upd (upd (getB H) i none) H.length (some (.cells sz' true ((cs0.drop o).take (n * sz') ++ xs))) := by
                rw [getB_append, getB_set H i none (getB_lt hB)]; simp
              refine ⟨_, _, _, by rw [hp]; exact hrun, ?_, by rw [hg]; exact s1, by rw [hg]; exact s2, fun j hne => ?_⟩
              · simp only [R]
                exact ⟨_, _, cc, upd_self _ _ _, rfl, hroomy, .inr ⟨rfl, fun _ => by simp only [q2]; omega⟩⟩
              · by_cases e : j = H.length
                · subst e; exact ⟨Nat.le_refl _, by simp⟩
                · exact absurd (upd_other e) hne
          · -- it grows
            have hof : ∀ P : Program, (Builtin.firstCells sz' n (.slice (some b0) n cc)).run P w.drew = .ok olds.toArray w.drew := by
              intro P
              rcases hcap with h0 | ⟨rfl, _⟩
              · have hn0 : n = 0 := by omega
                subst hn0
                have : olds = [] := by simpa using e3
                subst this
                simp [Builtin.firstCells, loadCells, loadCellsFrom]
              · exact run_firstCells_some w.drew sz' n _ n cc olds e3 (fun kk v hk => e4 kk v hk)
            have := new_case (some b0) n cc _ olds hp (by omega) hroom e2 e3 hof
            refine new_fin _ (n + k) (upd (getB H) i none) (fun j b hj => ?_) (by simp) ?_ (by simp) this
            · by_cases e : j = i
              · subst e; rw [upd_self] at hj; simp at hj
              · rwa [upd_other e] at hj
            · rw [getB_append, getB_set H i none (getB_lt hB)]; simp
        · simp at h
    · simp at h
end
end Go.Am

/- Operations that change memory: what compact code says is what the machine does. -/
namespace Go.Am

/-- A call, in compact code. -/
def AOp.isCall : AOp → Bool
  | .call _ _ | .callv _ _ => true
  | _ => false

section
variable {c : Ctx} {env vals : List AV} {Φ : Phi} {ρ : Operand → Value} {w : World} {H : AHeap}

theorem clear_cells {zs : List Value} (hne : zs.length ≠ 0) (n : Nat) : (Builtin.zeroCells zs.toArray n).toList = (List.replicate n zs).flatten := by
  rw [← range_mod zs n hne]
  simp [Builtin.zeroCells]

/-- A map that is written. -/
theorem map_step (S : Sim Φ (getB H) w) {i : Nat} {es es' : List (AV × AV)} (hB : getB H i = some (.map es)) {l : Loc} (hl : Φ i = some l) {en : Array MapEntry} {cl : Nat}
    (h1 : Rs Φ (es'.map (·.1)) (en.toList.map (·.key))) (h2 : Rs Φ (es'.map (·.2)) (en.toList.map (·.val))) :
    Sim Φ (getB (H.set i (some (.map es')))) { w with heap := w.heap.setIfInBounds l.b (.map en cl) } ∧
      Ext Φ (getB H) w Φ (getB (H.set i (some (.map es')))) { w with heap := w.heap.setIfInBounds l.b (.map en cl) } := by
  obtain ⟨l', hl', hok⟩ := S.ok i _ hB
  rw [hl] at hl'; simp only [Option.some.injEq] at hl'; subst hl'
  obtain ⟨q1, q2, en0, cl0, q3, q4, q5⟩ := hok
  rw [getB_set H i _ (getB_lt hB)]
  refine write_step S hB hl q2 rfl rfl rfl (by simp) (fun b hb => by simp [Ne.symm hb]) ?_
  exact ⟨by simpa using q1, q2, en, cl, by simp [q1], h1, h2⟩

theorem Rs.set {a : List AV} {x : List Value} (h : Rs Φ a x) (i : Nat) {b : AV} {y : Value} (hb : R Φ b y) : Rs Φ (a.set i b) (x.set i y) := by
  refine Rs.mk (by simp [h.len]) fun k c hk => ?_
  by_cases e : i = k
  · subst e
    have hlt : i < a.length := by
      rcases Nat.lt_or_ge i a.length with h | h
      · exact h
      · rw [List.getElem?_eq_none (by simp; omega)] at hk; simp at hk
    rw [List.getElem?_set_self hlt] at hk
    simp only [Option.some.injEq] at hk; subst hk
    exact ⟨y, by rw [List.getElem?_set_self (by rw [h.len]; exact hlt)], hb⟩
  · rw [List.getElem?_set_ne e] at hk
    obtain ⟨v, hv, hR⟩ := h.get hk
    exact ⟨v, by rw [List.getElem?_set_ne e]; exact hv, hR⟩

theorem Rs.erase {a : List AV} {x : List Value} (h : Rs Φ a x) (i : Nat) : Rs Φ (a.eraseIdx i) (x.eraseIdx i) := by
  refine Rs.mk (by simp [List.length_eraseIdx, h.len]) fun k c hk => ?_
  rw [List.getElem?_eraseIdx] at hk
  split at hk
  · rename_i hlt
    obtain ⟨v, hv, hR⟩ := h.get hk
    exact ⟨v, by rw [List.getElem?_eraseIdx, if_pos hlt]; exact hv, hR⟩
  · rename_i hlt
    obtain ⟨v, hv, hR⟩ := h.get hk
    exact ⟨v, by rw [List.getElem?_eraseIdx, if_neg hlt]; exact hv, hR⟩

theorem map_erase {α β : Type} (f : α → β) : ∀ (l : List α) (i : Nat), (l.map f).eraseIdx i = (l.eraseIdx i).map f
  | [], _ => rfl
  | _ :: _, 0 => rfl
  | x :: r, i + 1 => by simp [map_erase f r i]

theorem keyEq_same {kk : EqK} {a b : AV} {x y : Value} (ha : R Φ a x) (hb : R Φ b y) (h : keyEq kk a b = some true) (n : Nat) : Instr.sameBits n y x = true := by
  unfold keyEq at h
  split at h
  · simp only [R] at ha hb; subst ha; subst hb
    split at h <;> simp at h
    rename_i hk; subst hk; subst h
    simp [Instr.sameBits]
  · simp only [R] at ha hb; subst ha; subst hb
    simp at h; subst h
    simp only [Instr.sameBits]
    rw [beq_toListBytes]; simp
  · simp only [R] at ha hb; subst ha; subst hb
    simp at h; subst h
    simp [Instr.sameBits]
  · simp at h

theorem findI_key {kk : EqK} {k : AV} : ∀ (es : List (AV × AV)) (i j : Nat), findI kk k es i = some (some j) → ∃ e, i ≤ j ∧ es[j - i]? = some e ∧ keyEq kk k e.1 = some true
  | [], i, j, h => by simp [findI] at h
  | (a, b) :: r, i, j, h => by
    simp only [findI] at h
    split at h
    · rename_i hq
      simp only [Option.some.injEq] at h; subst h
      exact ⟨(a, b), Nat.le_refl _, by simp, hq⟩
    · obtain ⟨e, h1, h2, h3⟩ := findI_key r (i + 1) j h
      refine ⟨e, by omega, ?_, h3⟩
      rw [show j - i = (j - (i + 1)) + 1 by omega]
      simpa using h2
    · simp at h

theorem run_setObj_map {P : Program} {r : Nat} {en0 : Array MapEntry} {cl0 : Nat} {o : Obj} (h : w.heap[r]? = some (.map en0 cl0)) :
    (setObj r o).run P w = .ok () { w with heap := w.heap.setIfInBounds r o } := by
  simp [setObj, Sem.run, h]

theorem mapset_ok (S : Sim Φ (getB H) w) {t kt et : TypeId} {kk : EqK} (hu : c.P.underlying t = some (.map kt et)) (hkk : keyP c.P kt = some kk) {i : Nat} {kv vv : AV} {mv kx vx : Value} {es : List (AV × AV)}
    (hm : R Φ (.map i) mv) (hk : R Φ kv kx) (hv : R Φ vv vx) (hB : getB H i = some (.map es)) {r : Option Nat} (hf : findI kk kv es 0 = some r) :
    ∃ w', (Instr.mapUpdate t mv kx vx).run c.P w = .ok () w' ∧
      Sim Φ (getB (H.set i (some (.map (match r with | some j => es.set j (kv, vv) | none => es ++ [(kv, vv)]))))) w' ∧
      Ext Φ (getB H) w Φ (getB (H.set i (some (.map (match r with | some j => es.set j (kv, vv) | none => es ++ [(kv, vv)]))))) w' := by
  simp only [R] at hm
  obtain ⟨l, hl, rfl⟩ := hm
  obtain ⟨l', hl', hok⟩ := S.ok i _ hB
  rw [hl] at hl'; simp only [Option.some.injEq] at hl'; subst hl'
  obtain ⟨q1, q2, en, cl, q3, q4, q5⟩ := hok
  obtain ⟨kd, hkd, hkdd⟩ := keyP_desc hkk
  have hg : (getObj l.b).run c.P w = .ok (.map en cl) w := by simp [getObj, Sem.run, q3]
  obtain ⟨hn1, hn2⟩ := findI_now hkdd hk es en.toList 0 q4 hf
  cases r with
  | none =>
    simp only [Option.bind_none] at hn1
    obtain ⟨s1, s2⟩ := map_step S (es' := es ++ [(kv, vv)]) hB hl (en := en.push { key := kx, val := vx, born := cl }) (cl := cl + 1)
      (by simpa using q4.append (.cons hk .nil)) (by simpa using q5.append (.cons hv .nil))
    refine ⟨_, ?_, s1, s2⟩
    simp only [Instr.mapUpdate, Sem.run_bind, run_underlying hu, Result.andThen_ok, hg, checkKey_ok hkd hkdd _ 9999, Instr.findKey, run_underlying hkd, hn1, Sem.run_pure, run_setObj_map q3]
  | some j =>
    simp only [Option.bind_some, Nat.sub_zero] at hn1
    have hj := (hn2 j rfl).2
    simp only [Nat.sub_zero] at hj
    obtain ⟨e, _, he1, he2⟩ := findI_key es 0 j hf
    simp only [Nat.sub_zero] at he1
    obtain ⟨ky, hky1, hky2⟩ := q4.get (k := j) (c := e.1) (by simp [he1])
    have hen : ∃ e', en.toList[j]? = some e' ∧ e'.key = ky := by
      simp only [List.getElem?_map, Option.map_eq_some_iff] at hky1
      exact hky1
    obtain ⟨e', hen1, hen2⟩ := hen
    rw [hen1] at hn1
    simp only [Option.map_some] at hn1
    have hsb : Instr.sameBits 10000 e'.key kx = true := by rw [hen2]; exact keyEq_same hk hky2 he2 _
    have hjen : j < en.size := by have := q4.len; simp at this; omega
    have hmod : (en.modify j fun x => { x with key := kx, val := vx }).toList.map (·.key) = (en.toList.map (·.key)).set j kx ∧
        (en.modify j fun x => { x with key := kx, val := vx }).toList.map (·.val) = (en.toList.map (·.val)).set j vx := by
      constructor
      · apply List.ext_getElem?; intro q
        by_cases e : j = q
        · subst e; simp [hjen]
        · simp [e]
      · apply List.ext_getElem?; intro q
        by_cases e : j = q
        · subst e; simp [hjen]
        · simp [e]
    obtain ⟨s1, s2⟩ := map_step S (es' := es.set j (kv, vv)) hB hl (en := en.modify j fun x => { x with key := kx, val := vx }) (cl := cl)
      (by rw [hmod.1, List.map_set]; exact q4.set j hk) (by rw [hmod.2, List.map_set]; exact q5.set j hv)
    refine ⟨_, ?_, s1, s2⟩
    have hgk : (((en[j]?).map (·.key)).getD kx) = e'.key := by
      have : en[j]? = some e' := by simpa using hen1
      simp [this]
    simp only [Instr.mapUpdate, Sem.run_bind, run_underlying hu, Result.andThen_ok, hg, checkKey_ok hkd hkdd _ 9999, Instr.findKey, run_underlying hkd, hn1, Sem.run_pure, hgk, Instr.keyThatStays, hsb, if_true, run_setObj_map q3]

theorem delete_ok (S : Sim Φ (getB H) w) {t kt et u ty : TypeId} {kk : EqK} (hu : c.P.underlying t = some (.map kt et)) (hkk : keyP c.P kt = some kk) {i : Nat} {kv : AV} {mv kx : Value} {es : List (AV × AV)}
    (hm : R Φ (.map i) mv) (hk : R Φ kv kx) (hB : getB H i = some (.map es)) {r : Option Nat} (hf : findI kk kv es 0 = some r) :
    ∃ w', (Builtin.delete_ #[t, u] ty #[mv, kx]).run c.P w = .ok (.tuple #[]) w' ∧
      Sim Φ (getB (match r with | some j => H.set i (some (.map (es.eraseIdx j))) | none => H)) w' ∧
      Ext Φ (getB H) w Φ (getB (match r with | some j => H.set i (some (.map (es.eraseIdx j))) | none => H)) w' := by
  simp only [R] at hm
  obtain ⟨l, hl, rfl⟩ := hm
  obtain ⟨l', hl', hok⟩ := S.ok i _ hB
  rw [hl] at hl'; simp only [Option.some.injEq] at hl'; subst hl'
  obtain ⟨q1, q2, en, cl, q3, q4, q5⟩ := hok
  obtain ⟨kd, hkd, hkdd⟩ := keyP_desc hkk
  have hg : (getObj l.b).run c.P w = .ok (.map en cl) w := by simp [getObj, Sem.run, q3]
  obtain ⟨hn1, hn2⟩ := findI_now hkdd hk es en.toList 0 q4 hf
  cases r with
  | none =>
    simp only [Option.bind_none] at hn1
    have hsame : ({ w with heap := w.heap.setIfInBounds l.b (.map en cl) } : World) = w := by
      have : w.heap.setIfInBounds l.b (.map en cl) = w.heap := by
        apply Array.ext_getElem?; intro q
        by_cases e : l.b = q
        · subst e; rw [Array.getElem?_setIfInBounds_self_of_lt q1, q3]
        · rw [Array.getElem?_setIfInBounds_ne e]
      rw [this]
    refine ⟨w, ?_, S, Ext.refl _ _ _⟩
    simp [Builtin.delete_, run_underlying hu, hg, checkKey_ok hkd hkdd _ 9999, Instr.findKey, run_underlying hkd, hn1, run_setObj_map q3, hsame]
  | some j =>
    simp only [Option.bind_some, Nat.sub_zero] at hn1
    have hj := (hn2 j rfl).2
    simp only [Nat.sub_zero] at hj
    have hel : en.toList.length = es.length := by have := q4.len; simpa using this
    obtain ⟨e', hen1⟩ : ∃ e', en.toList[j]? = some e' := ⟨_, List.getElem?_eq_getElem (by omega)⟩
    rw [hen1] at hn1
    simp only [Option.map_some] at hn1
    obtain ⟨s1, s2⟩ := map_step S (es' := es.eraseIdx j) hB hl (en := en.eraseIdxIfInBounds j) (cl := cl)
      (by have := q4.erase j; simpa [map_erase] using this) (by have := q5.erase j; simpa [map_erase] using this)
    refine ⟨_, ?_, s1, s2⟩
    simp [Builtin.delete_, run_underlying hu, hg, checkKey_ok hkd hkdd _ 9999, Instr.findKey, run_underlying hkd, hn1, run_setObj_map q3]

/-- Every operation that changes memory, but calls. -/
theorem eff_ok (O : HO c env vals Φ ρ) (S : Sim Φ (getB H) w) (o : Oper) {call : CallT} {ao : AOp} {v : AV} {H' : AHeap} (h : trOp c o.op = some ao) (hc : ao.isCall = false)
    (hv : aEff call env vals H ao = some (v, H')) (hfree : ∀ i, H.length ≤ i → i < H'.length → Φ i = none) : EffOk c.P Φ H w ρ o v H' ∧ H.length ≤ H'.length := by
  obtain ⟨dst, op, ty, pos, after, guard⟩ := o
  simp only at h
  cases op with
  | store t a x =>
    simp only [trOp] at h
    split at h <;> simp only [Option.some.injEq, reduceCtorEq] at h
    rename_i n p q hn hp hq; subst h
    simp only [aEff] at hv
    split at hv
    · rename_i i k u hi hu
      split at hv
      · rename_i hlen
        split at hv <;> simp only [Option.some.injEq, Prod.mk.injEq, reduceCtorEq] at hv
        rename_i H1 hst
        obtain ⟨rfl, rfl⟩ := hv
        have h1 := O _ _ _ hp hi
        have h2 := O _ _ _ hq hu
        simp only [R] at h1
        obtain ⟨l, hl, hpv⟩ := h1
        have hnj : u.isJunk = false := by
          cases u <;> first | rfl | skip
          unfold storeA at hst
          split at hst
          · split at hst
            · rename_i hcc
              simp [AV.cells, AV.one] at hcc
            · simp at hst
          · simp at hst
        have hcR := R.cells h2 hnj
        obtain ⟨s1, s2, s3, s4⟩ := store_world S hst hcR hl
        refine ⟨⟨Φ, .skip, _, ?_, .inr ⟨rfl, rfl⟩, s2, s3, fun i hi => absurd rfl hi⟩, by omega⟩
        have hsz : (ρ x).cells.size = n := by rw [← hlen, ← hcR.len]; simp
        simp [execOp, Instr.storeAt, hpv, Instr.sureAddr, storeVar, run_size hn, hsz, s1 c.P]
      · simp at hv
    · simp at hv
  | mapUpdate t m k x =>
    simp only [trOp] at h
    split at h
    · rename_i kt et p q r hu hp hq hr
      split at h <;> simp only [Option.some.injEq, reduceCtorEq] at h
      rename_i kk hkk; subst h
      simp only [aEff] at hv
      split at hv
      · rename_i i kv vv hm hk hx
        split at hv
        · split at hv
          · rename_i es hB
            have hm' := O _ _ _ hp hm
            have hk' := O _ _ _ hq hk
            have hx' := O _ _ _ hr hx
            split at hv <;> simp only [Option.some.injEq, Prod.mk.injEq, reduceCtorEq] at hv
            · rename_i j hf
              obtain ⟨rfl, rfl⟩ := hv
              obtain ⟨w', h1, h2, h3⟩ := mapset_ok S hu hkk hm' hk' hx' hB hf
              exact ⟨⟨Φ, .skip, w', by simp [execOp, h1], .inr ⟨rfl, rfl⟩, h2, h3, fun i hi => absurd rfl hi⟩, by simp⟩
            · rename_i hf
              obtain ⟨rfl, rfl⟩ := hv
              obtain ⟨w', h1, h2, h3⟩ := mapset_ok S hu hkk hm' hk' hx' hB hf
              exact ⟨⟨Φ, .skip, w', by simp [execOp, h1], .inr ⟨rfl, rfl⟩, h2, h3, fun i hi => absurd rfl hi⟩, by simp⟩
          · simp at hv
        · simp at hv
      · simp at hv
    · simp at h
  | insert t m k x =>
    simp only [trOp] at h
    split at h
    · rename_i kt et p q r hu hp hq hr
      split at h <;> simp only [Option.some.injEq, reduceCtorEq] at h
      rename_i kk hkk; subst h
      simp only [aEff] at hv
      split at hv
      · rename_i i kv vv hm hk hx
        split at hv
        · split at hv
          · rename_i es hB
            have hm' := O _ _ _ hp hm
            have hk' := O _ _ _ hq hk
            have hx' := O _ _ _ hr hx
            split at hv <;> simp only [Option.some.injEq, Prod.mk.injEq, reduceCtorEq] at hv
            · rename_i j hf
              obtain ⟨rfl, rfl⟩ := hv
              obtain ⟨w', h1, h2, h3⟩ := mapset_ok S hu hkk hm' hk' hx' hB hf
              exact ⟨⟨Φ, .skip, w', by simp [execOp, h1], .inr ⟨rfl, rfl⟩, h2, h3, fun i hi => absurd rfl hi⟩, by simp⟩
            · rename_i hf
              obtain ⟨rfl, rfl⟩ := hv
              obtain ⟨w', h1, h2, h3⟩ := mapset_ok S hu hkk hm' hk' hx' hB hf
              exact ⟨⟨Φ, .skip, w', by simp [execOp, h1], .inr ⟨rfl, rfl⟩, h2, h3, fun i hi => absurd rfl hi⟩, by simp⟩
          · simp at hv
        · simp at hv
      · simp at hv
    · simp at h
  | call k =>
    simp only [trOp, trCall] at h
    obtain ⟨callee, args, ats⟩ := k
    split at h
    · split at h <;> simp only [Option.some.injEq, reduceCtorEq] at h
      subst h; simp [AOp.isCall] at hc
    · split at h <;> simp only [Option.some.injEq, reduceCtorEq] at h
      subst h; simp [AOp.isCall] at hc
    · simp at h
    · rename_i b hcal
      simp only at hcal; subst hcal
      split at h
      · exfalso; revert h; (repeat' split) <;> intro h <;> simp only [Option.some.injEq, reduceCtorEq] at h <;> subst h <;> simp [aEff] at hv
      · exfalso; revert h; (repeat' split) <;> intro h <;> simp only [Option.some.injEq, reduceCtorEq] at h <;> subst h <;> simp [aEff] at hv
      · -- append
        rename_i s x t u hargs hats
        have ea : args = #[s, x] := by apply Array.ext'; simpa using hargs
        have et : ats = #[t, u] := by apply Array.ext'; simpa using hats
        subst ea; subst et
        split at h
        · rename_i e e' p q he hu hp hq
          split at h
          · rename_i sz m z0 hsz hby hz0
            split at h <;> simp only [Option.some.injEq, reduceCtorEq] at h
            rename_i hm0; subst h
            simp only [aEff] at hv
            split at hv
            · rename_i a y ha hy
              have ht : c.P.underlying t = some (.slice e) := by
                unfold elemP at he; split at he <;> simp at he; subst he; assumption
              have hyR := O _ _ _ hq hy
              split at hv
              · rename_i hns
                have hstr : ∀ s, y = .str s → sz = 1 := by
                  intro s e; subst e; simp [AV.isStr] at hns
                have hlen : H.length ≤ H'.length := by
                  unfold appendA at hv
                  split at hv
                  · simp at hv
                  · (repeat' split at hv) <;> simp only [Option.some.injEq, Prod.mk.injEq, reduceCtorEq] at hv <;> (obtain ⟨_, rfl⟩ := hv) <;> simp
                obtain ⟨Φ', v', w', h1, h2, h3, h4, h5⟩ := append_ok (ty := ty) S ht hu (.inl ⟨_, rfl⟩) hsz hby hm0 hz0 (O _ _ _ hp ha) hyR hstr hv hfree
                exact ⟨⟨Φ', .value v', w', by simp [execOp, resolve, invoke, builtin, h1], .inl ⟨v', rfl, h2⟩, h3, h4, h5⟩, hlen⟩
              · simp at hv
            · simp at hv
          · simp at h
        · rename_i e p q he hu hp hq
          split at h
          · rename_i m z0 hsz hby hue hz0
            split at h <;> simp only [Option.some.injEq, reduceCtorEq] at h
            rename_i hm0; subst h
            simp only [aEff] at hv
            split at hv
            · rename_i a y ha hy
              have ht : c.P.underlying t = some (.slice e) := by
                unfold elemP at he; split at he <;> simp at he; subst he; assumption
              split at hv
              · have hlen : H.length ≤ H'.length := by
                  unfold appendA at hv
                  split at hv
                  · simp at hv
                  · (repeat' split at hv) <;> simp only [Option.some.injEq, Prod.mk.injEq, reduceCtorEq] at hv <;> (obtain ⟨_, rfl⟩ := hv) <;> simp
                obtain ⟨Φ', v', w', h1, h2, h3, h4, h5⟩ := append_ok (ty := ty) S ht hu (.inr rfl) hsz hby hm0 hz0 (O _ _ _ hp ha) (O _ _ _ hq hy) (fun _ _ => rfl) hv hfree
                exact ⟨⟨Φ', .value v', w', by simp [execOp, resolve, invoke, builtin, h1], .inl ⟨v', rfl, h2⟩, h3, h4, h5⟩, hlen⟩
              · simp at hv
            · simp at hv
          · simp at h
        · simp at h
      · -- copy
        rename_i d s t u hargs hats
        have ea : args = #[d, s] := by apply Array.ext'; simpa using hargs
        have et : ats = #[t, u] := by apply Array.ext'; simpa using hats
        subst ea; subst et
        split at h
        · rename_i e e' p q he hu hp hq
          split at h <;> simp only [Option.some.injEq, reduceCtorEq] at h
          rename_i sz hsz; subst h
          have ht : c.P.underlying t = some (.slice e) := by
            unfold elemP at he; split at he <;> simp at he; subst he; assumption
          simp only [aEff] at hv
          split at hv
          · rename_i a y ha hy
            split at hv
            · simp at hv
            · rename_i hns
              have h1 := O _ _ _ hp ha
              have h2 := O _ _ _ hq hy
              unfold copyA at hv
              split at hv
              · -- into a slice
                rename_i k xs i o n hsrc
                obtain ⟨vs, hvR, hvl, hlen, hfc, hfcd⟩ := src_ok S hsrc h2 (fun s e => by subst e; simp [AV.isStr] at hns)
                split at hv <;> simp only [Option.some.injEq, Prod.mk.injEq, reduceCtorEq] at hv
                rename_i H1 hst
                obtain ⟨rfl, rfl⟩ := hv
                simp only [R] at h1
                obtain ⟨l, b0, cc, hl, hpv, hncc, hcap⟩ := h1
                have hmin : Nat.min k n = min k n := rfl
                have hf := hfc c.P (min k n) (Nat.min_le_left _ _)
                obtain ⟨s1, s2, s3, s4⟩ := store_world S hst (hvR.take (min k n * sz)) hl
                rcases hcap with h0 | ⟨rfl, _⟩
                · have hn0 : n = 0 := by omega
                  subst hn0
                  have e0 : min k 0 = 0 := by omega
                  rw [e0] at hf s2 s3 hst ⊢
                  simp only [Nat.zero_mul, List.take_zero] at hf s2 s3
                  refine ⟨⟨Φ, .value (.int .i64 (0 : Nat)), w, ?_, .inl ⟨_, rfl, by simp only [R]⟩, by simpa [World.setCells] using s2, by simpa [World.setCells] using s3, fun i hi => absurd rfl hi⟩, by omega⟩
                  simp [execOp, resolve, invoke, builtin, Builtin.copy_, run_underlying ht, hpv, hlen c.P, run_size hsz, hf, storeCells, goInt]
                · refine ⟨⟨Φ, .value (.int .i64 (min k n : Nat)), _, ?_, .inl ⟨_, rfl, by simp only [R]⟩, s2, s3, fun i hi => absurd rfl hi⟩, by omega⟩
                  simp [execOp, resolve, invoke, builtin, Builtin.copy_, run_underlying ht, hpv, hlen c.P, run_size hsz, hmin, hf, s1 c.P, goInt]
              · rename_i xs hsrc
                simp only [Option.some.injEq, Prod.mk.injEq] at hv
                obtain ⟨rfl, rfl⟩ := hv
                obtain ⟨vs, hvR, hvl, hlen, hfc, hfcd⟩ := src_ok S hsrc h2 (fun s e => by subst e; simp [AV.isStr] at hns)
                have hf := hfc c.P 0 (Nat.zero_le _)
                simp only [Nat.zero_mul, List.take_zero] at hf
                simp only [R] at h1
                refine ⟨⟨Φ, .value (.int .i64 0), w, ?_, .inl ⟨_, rfl, by simp only [R]⟩, S, Ext.refl _ _ _, fun i hi => absurd rfl hi⟩, Nat.le_refl _⟩
                simp [execOp, resolve, invoke, builtin, Builtin.copy_, run_underlying ht, h1, hlen c.P, run_size hsz, hf, goInt]
              · rename_i xs hsrc
                simp only [Option.some.injEq, Prod.mk.injEq] at hv
                obtain ⟨rfl, rfl⟩ := hv
                obtain ⟨vs, hvR, hvl, hlen, hfc, hfcd⟩ := src_ok S hsrc h2 (fun s e => by subst e; simp [AV.isStr] at hns)
                have hf := hfc c.P 0 (Nat.zero_le _)
                simp only [Nat.zero_mul, List.take_zero] at hf
                simp only [R] at h1
                obtain ⟨b0, h1⟩ := h1
                refine ⟨⟨Φ, .value (.int .i64 0), w, ?_, .inl ⟨_, rfl, by simp only [R]⟩, S, Ext.refl _ _ _, fun i hi => absurd rfl hi⟩, Nat.le_refl _⟩
                simp [execOp, resolve, invoke, builtin, Builtin.copy_, run_underlying ht, h1, hlen c.P, run_size hsz, hf, goInt, storeCells]
              · simp at hv
          · simp at hv
        · simp at h
      · -- clear
        rename_i x t hargs hats
        have ea : args = #[x] := by apply Array.ext'; simpa using hargs
        have et : ats = #[t] := by apply Array.ext'; simpa using hats
        subst ea; subst et
        split at h
        · rename_i e p hu hp
          split at h <;> simp only [Option.some.injEq, reduceCtorEq] at h
          rename_i z hz; subst h
          obtain ⟨zi, zv, hi, hzv, hzl, hzne, hzR⟩ := zeroP_info hz
          simp only [aEff] at hv
          split at hv
          · rename_i a ha
            have h1 := O _ _ _ hp ha
            unfold clearA at hv
            split at hv
            · simp only [Option.some.injEq, Prod.mk.injEq] at hv
              obtain ⟨rfl, rfl⟩ := hv
              simp only [R] at h1
              refine ⟨⟨Φ, .value (.tuple #[]), w, ?_, .inl ⟨_, rfl, by simp only [R]; exact ⟨[], rfl, .nil⟩⟩, S, Ext.refl _ _ _, fun i hi => absurd rfl hi⟩, Nat.le_refl _⟩
              simp [execOp, resolve, invoke, builtin, Builtin.clear_, run_underlying hu, h1]
            · simp only [Option.some.injEq, Prod.mk.injEq] at hv
              obtain ⟨rfl, rfl⟩ := hv
              simp only [R] at h1
              obtain ⟨b0, h1⟩ := h1
              refine ⟨⟨Φ, .value (.tuple #[]), w, ?_, .inl ⟨_, rfl, by simp only [R]; exact ⟨[], rfl, .nil⟩⟩, S, Ext.refl _ _ _, fun i hi => absurd rfl hi⟩, Nat.le_refl _⟩
              simp [execOp, resolve, invoke, builtin, Builtin.clear_, run_underlying hu, h1]
            · rename_i i o n
              simp only [R] at h1
              obtain ⟨l, b0, cc, hl, hpv, hncc, hcap⟩ := h1
              split at hv
              · rename_i hn0
                simp only [Option.some.injEq, Prod.mk.injEq] at hv
                obtain ⟨rfl, rfl⟩ := hv
                subst hn0
                refine ⟨⟨Φ, .value (.tuple #[]), w, ?_, .inl ⟨_, rfl, by simp only [R]; exact ⟨[], rfl, .nil⟩⟩, S, Ext.refl _ _ _, fun i hi => absurd rfl hi⟩, Nat.le_refl _⟩
                simp [execOp, resolve, invoke, builtin, Builtin.clear_, run_underlying hu, hpv]
              · rename_i hn0
                split at hv <;> simp only [Option.some.injEq, Prod.mk.injEq, reduceCtorEq] at hv
                rename_i H1 hst
                obtain ⟨rfl, rfl⟩ := hv
                rcases hcap with h0 | ⟨rfl, _⟩
                · exact absurd h0 (by omega)
                · obtain ⟨s1, s2, s3, s4⟩ := store_world S hst (rows_R (hzR Φ) n) hl
                  have hzc : (Builtin.zeroCells zv.cells n).toList = (List.replicate n zv.cells.toList).flatten := by
                    have := clear_cells (zs := zv.cells.toList) (by rw [(hzR Φ).len, hzl]; exact hzne) n
                    simpa using this
                  refine ⟨⟨Φ, .value (.tuple #[]), _, ?_, .inl ⟨_, rfl, by simp only [R]; exact ⟨[], rfl, .nil⟩⟩, s2, s3, fun i hi => absurd rfl hi⟩, by omega⟩
                  have hs := s1 c.P
                  rw [← hzc] at hs ⊢
                  cases n with
                  | zero => exact absurd rfl hn0
                  | succ n => simp [execOp, resolve, invoke, builtin, Builtin.clear_, run_underlying hu, hpv, run_zero hi hzv, hs]
            · simp at hv
          · simp at hv
        · simp at h
      · exfalso; revert h; (repeat' split) <;> intro h <;> simp only [Option.some.injEq, reduceCtorEq] at h <;> subst h <;> simp [aEff] at hv
      · exfalso; revert h; (repeat' split) <;> intro h <;> simp only [Option.some.injEq, reduceCtorEq] at h <;> subst h <;> simp [aEff] at hv
      · -- delete
        rename_i m x t u hargs hats
        have ea : args = #[m, x] := by apply Array.ext'; simpa using hargs
        have et : ats = #[t, u] := by apply Array.ext'; simpa using hats
        subst ea; subst et
        split at h
        · rename_i kt et p q hu hp hq
          split at h <;> simp only [Option.some.injEq, reduceCtorEq] at h
          rename_i kk hkk; subst h
          obtain ⟨kd, hkd, hkdd⟩ := keyP_desc hkk
          simp only [aEff] at hv
          split at hv
          · rename_i i kv hm hk
            have hm' := O _ _ _ hp hm
            have hk' := O _ _ _ hq hk
            split at hv
            · split at hv
              · rename_i es hB
                split at hv <;> simp only [Option.some.injEq, Prod.mk.injEq, reduceCtorEq] at hv
                · rename_i j hf
                  obtain ⟨rfl, rfl⟩ := hv
                  obtain ⟨w', h1, h2, h3⟩ := delete_ok (u := u) (ty := ty) S hu hkk hm' hk' hB hf
                  exact ⟨⟨Φ, .value (.tuple #[]), w', by simp [execOp, resolve, invoke, builtin, h1], .inl ⟨_, rfl, by simp only [R]; exact ⟨[], rfl, .nil⟩⟩, h2, h3, fun i hi => absurd rfl hi⟩, by simp⟩
                · rename_i hf
                  obtain ⟨rfl, rfl⟩ := hv
                  obtain ⟨w', h1, h2, h3⟩ := delete_ok (u := u) (ty := ty) S hu hkk hm' hk' hB hf
                  exact ⟨⟨Φ, .value (.tuple #[]), w', by simp [execOp, resolve, invoke, builtin, h1], .inl ⟨_, rfl, by simp only [R]; exact ⟨[], rfl, .nil⟩⟩, h2, h3, fun i hi => absurd rfl hi⟩, Nat.le_refl _⟩
              · simp at hv
            · simp at hv
          · rename_i kv hm hk
            have hm' := O _ _ _ hp hm
            simp only [R] at hm'
            split at hv <;> simp only [Option.some.injEq, Prod.mk.injEq, reduceCtorEq] at hv
            obtain ⟨rfl, rfl⟩ := hv
            refine ⟨⟨Φ, .value (.tuple #[]), w, ?_, .inl ⟨_, rfl, by simp only [R]; exact ⟨[], rfl, .nil⟩⟩, S, Ext.refl _ _ _, fun i hi => absurd rfl hi⟩, Nat.le_refl _⟩
            simp [execOp, resolve, invoke, builtin, Builtin.delete_, run_underlying hu, hm', checkKey_ok hkd hkdd _ 9999]
          · simp at hv
        · simp at h
      · simp at h
  | binOp op t x y yt =>
    exfalso
    cases op
    case eql => simp only [trOp, trEq] at h; (repeat' split at h) <;> simp only [Option.some.injEq, reduceCtorEq] at h <;> subst h <;> simp [aEff] at hv
    case neq => simp only [trOp, trEq] at h; (repeat' split at h) <;> simp only [Option.some.injEq, reduceCtorEq] at h <;> subst h <;> simp [aEff] at hv
    all_goals (simp only [trOp] at h; (repeat' split at h) <;> simp only [Option.some.injEq, reduceCtorEq] at h <;> subst h <;> simp [aEff] at hv)
  | makeFunc f first caps =>
    exfalso
    cases f <;> simp only [trOp, reduceCtorEq] at h
    (repeat' split at h) <;> simp only [Option.some.injEq, reduceCtorEq] at h
    subst h; simp [aEff] at hv
  | makeMap t r =>
    exfalso
    cases r <;> simp only [trOp, Option.some.injEq, reduceCtorEq] at h
    subst h; simp [aEff] at hv
  | _ =>
    exfalso
    simp only [trOp, reduceCtorEq] at h
    all_goals ((repeat' split at h) <;> simp only [Option.some.injEq, reduceCtorEq] at h <;> subst h <;> simp [aEff] at hv)

end
end Go.Am
