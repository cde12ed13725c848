/- The abstract machine: values, heaps, compact code, and an interpreter with fuel. Nothing of a program is named here. -/
import GoSem.Core.Code
import GoSem.Op.String
import GoSem.Instr.Build
namespace Go.Am

/-- An abstract value. Addresses: an abstract block's number, and a cell in it. 'esl': an empty slice that is not nil, without capacity. -/
inductive AV where
  | int (k : IntKind) (n : Int)
  | bool (b : Bool)
  | str (s : List UInt8)
  | ptr (i o : Nat)
  | nilptr
  | sl (i o n : Nat)
  | nilsl
  | esl
  | map (i : Nat)
  | nilmap
  | fn (f : Nat) (first caps : List AV)
  | nilfn
  | iface (t : Nat) (v : AV)
  | nilif
  | agg (cs : List AV)
  | tup (vs : List AV)
  | junk
  deriving Inhabited

mutual
def AV.same : AV → AV → Bool
  | .int k n, .int k' n' => decide (k = k') && decide (n = n')
  | .bool b, .bool b' => b == b'
  | .str s, .str s' => decide (s = s')
  | .ptr i o, .ptr i' o' => decide (i = i') && decide (o = o')
  | .nilptr, .nilptr => true
  | .sl i o n, .sl i' o' n' => decide (i = i') && decide (o = o') && decide (n = n')
  | .nilsl, .nilsl => true
  | .esl, .esl => true
  | .map i, .map i' => decide (i = i')
  | .nilmap, .nilmap => true
  | .fn f a b, .fn f' a' b' => decide (f = f') && AV.sames a a' && AV.sames b b'
  | .nilfn, .nilfn => true
  | .iface t v, .iface t' v' => decide (t = t') && AV.same v v'
  | .nilif, .nilif => true
  | .agg cs, .agg cs' => AV.sames cs cs'
  | .tup cs, .tup cs' => AV.sames cs cs'
  | .junk, .junk => true
  | _, _ => false
def AV.sames : List AV → List AV → Bool
  | [], [] => true
  | a :: r, b :: s => AV.same a b && AV.sames r s
  | _, _ => false
end

/-- A value of one cell. -/
def AV.one : AV → Bool
  | .agg _ | .tup _ | .junk => false
  | _ => true

def AV.cells : AV → List AV
  | .agg cs => cs
  | v => [v]

def AV.isJunk : AV → Bool
  | .junk => true
  | _ => false

def AV.isStr : AV → Bool
  | .str _ => true
  | _ => false

/-- A block: 'sz' cells an element, may it be written; or a map. -/
inductive Blk where
  | cells (sz : Nat) (rw : Bool) (cs : List AV)
  | map (es : List (AV × AV))
  deriving Inhabited

abbrev AHeap := List (Option Blk)

def getB (H : AHeap) (i : Nat) : Option Blk := (H[i]?).join

/-- Cells of a list laid over others. -/
def splice (cs : List AV) (o : Nat) (vs : List AV) : List AV := cs.take o ++ vs ++ cs.drop (o + vs.length)

def loadA (H : AHeap) (i o n : Nat) : Option (List AV) :=
  match getB H i with
  | some (.cells _ _ cs) => if o + n ≤ cs.length then some ((cs.drop o).take n) else none
  | _ => none

def storeA (H : AHeap) (i o : Nat) (vs : List AV) : Option AHeap :=
  match getB H i with
  | some (.cells sz true cs) => if o + vs.length ≤ cs.length && vs.all AV.one then some (H.set i (some (.cells sz true (splice cs o vs)))) else none
  | _ => none

def fillA (cells : List AV) : List (Nat × Nat × AV) → Option (List AV)
  | [] => some cells
  | (off, size, v) :: r => if !v.isJunk && v.cells.length == size && decide (off + size ≤ cells.length) then fillA (splice cells off v.cells) r else none

/-- A value out of its cells. -/
def mkv (agg : Bool) (cs : List AV) : Option AV :=
  if agg then some (.agg cs) else match cs with
    | [c] => some c
    | _ => none

inductive Opd where
  | loc (k : Nat)
  | var (x : Nat)
  | const (v : AV)
  deriving Inhabited

/-- How two values are compared: the kinds of their leaves. -/
inductive EqK where
  | int | bool | str
  deriving DecidableEq, Inhabited

inductive NilK where
  | ptr | slice | map | func
  deriving DecidableEq, Inhabited

inductive AOp where
  | mov (x : Opd)
  | pick (c a b : Opd)
  | alloc (zero : List AV)
  | box (x : Opd)
  | build (zero : List AV) (parts : List (Nat × Nat × Opd))
  | mkslice (sz n : Nat) (zero : List AV) (parts : List (Nat × Nat × Opd))
  | load (n : Nat) (agg : Bool) (a : Opd)
  | store (n : Nat) (a v : Opd)
  | nilchk (x : Opd)
  | bin (op : BinOp) (x y : Opd)
  | eqs (neg : Bool) (ks : List EqK) (agg : Bool) (x y : Opd)
  | eqnil (neg : Bool) (k : NilK) (x y : Opd)
  | un (op : UnOp) (x : Opd)
  | conv (k : IntKind) (x : Opd)
  | str2str (x : Opd)
  | bytes2str (x : Opd)
  | str2bytes (x : Opd)
  | iface (t : Nat) (x : Opd)
  | func (f : Nat) (first caps : List Opd)
  | mkmap
  | lookup (kk : EqK) (zero : AV) (m k : Opd) (ok : Bool)
  | mapset (kk : EqK) (m k v : Opd)
  | make (sz bytes : Nat) (zero : List AV) (len cap : Opd)
  | slstr (x : Opd) (lo hi : Option Opd)
  | slsl (sz : Nat) (x : Opd) (lo hi mx : Option Opd)
  | faddr (off : Nat) (x : Opd)
  | field (off n : Nat) (agg : Bool) (x : Opd)
  | iaddr (sz : Nat) (x i : Opd)
  | iaddra (len sz : Nat) (x i : Opd)
  | istr (x i : Opd)
  | iarr (len sz : Nat) (agg : Bool) (x i : Opd)
  | extract (k : Nat) (x : Opd)
  | call (f : Nat) (xs : List Opd)
  | callv (f : Opd) (xs : List Opd)
  | lenS (x : Opd)
  | lenL (x : Opd)
  | lenM (x : Opd)
  | cap (x : Opd)
  | append (sz bytes : Nat) (str : Bool) (s x : Opd)
  | copy (sz : Nat) (d s : Opd)
  | clear (zero : List AV) (x : Opd)
  | minmax (mx : Bool) (x y : Opd)
  | delete (kk : EqK) (m k : Opd)
  /-- what is never come to (panic, defer) -/
  | stop
  deriving Inhabited

/-- The operands that an operation looks at. -/
def AOp.opds : AOp → List Opd
  | .mov x | .box x | .nilchk x | .un _ x | .conv _ x | .str2str x | .bytes2str x | .str2bytes x | .iface _ x | .faddr _ x | .field _ _ _ x
  | .extract _ x | .lenS x | .lenL x | .lenM x | .cap x | .clear _ x | .load _ _ x => [x]
  | .pick c a b => [c, a, b]
  | .alloc _ | .mkmap | .stop => []
  | .build _ ps | .mkslice _ _ _ ps => ps.map (·.2.2)
  | .store _ a v => [a, v]
  | .bin _ x y | .eqs _ _ _ x y | .eqnil _ _ x y | .iaddr _ x y | .iaddra _ _ x y | .istr x y | .iarr _ _ _ x y | .append _ _ _ x y | .copy _ x y | .minmax _ x y
  | .delete _ x y | .lookup _ _ x y _ | .make _ _ _ x y => [x, y]
  | .func _ a b => a ++ b
  | .mapset _ m k v => [m, k, v]
  | .slstr x l h => x :: (l.toList ++ h.toList)
  | .slsl _ x l h m => x :: (l.toList ++ h.toList ++ m.toList)
  | .call _ xs => xs
  | .callv f xs => f :: xs

structure AOper where
  op : AOp
  dst : Option Nat := none
  guard : Option (Nat × Bool) := none
  /-- of an operation with an effect: reads ahead of it that may come behind it -/
  aft : List Nat := []
  /-- of a read: operations with an effect ahead of it that may come behind it -/
  bef : List Nat := []
  deriving Inhabited

inductive ACode where
  | skip
  | region (ops : List AOper)
  | seq (a b : ACode)
  | cond (c : Opd) (a b : ACode)
  | block (id : Nat) (c : ACode)
  | loop (c : ACode)
  | exit (id : Nat)
  | ret
  deriving Inhabited

inductive ResA where
  | var (x : Nat)
  | cell (x n : Nat) (agg : Bool)
  deriving Inhabited

structure AFun where
  nargs : Nat
  /-- the slots that live on behind a region -/
  ps : List Nat
  res : List ResA
  body : ACode
  deriving Inhabited

inductive AExit where
  | normal
  | exit (id : Nat)
  | ret
  deriving DecidableEq, Inhabited

-- ---------------------------------------------------------------- operations
def aval (env vals : List AV) : Opd → Option AV
  | .loc k => vals[k]?
  | .var x => env[x]?
  | .const v => some v

def avals (env vals : List AV) : List Opd → Option (List AV)
  | [] => some []
  | x :: r => match aval env vals x, avals env vals r with
    | some a, some b => some (a :: b)
    | _, _ => none

def aparts (env vals : List AV) : List (Nat × Nat × Opd) → Option (List (Nat × Nat × AV))
  | [] => some []
  | (o, n, x) :: r => match aval env vals x, aparts env vals r with
    | some a, some b => some ((o, n, a) :: b)
    | _, _ => none

def aopt (env vals : List AV) : Option Opd → Option (Option AV)
  | none => some none
  | some x => match aval env vals x with
    | some v => some (some v)
    | none => none

def bitsA (op : BinOp) (k : IntKind) (x y : Int) : Option Int :=
  let a := BitVec.ofInt k.bits x
  let b := BitVec.ofInt k.bits y
  match op with
  | .and => some (k.wrap (a &&& b).toNat)
  | .or => some (k.wrap (a ||| b).toNat)
  | .xor => some (k.wrap (a ^^^ b).toNat)
  | .andNot => some (k.wrap (a &&& ~~~b).toNat)
  | _ => none

def binI (op : BinOp) (k : IntKind) (a b : Int) : Option AV :=
  match op with
  | .add => some (.int k (k.wrap (a + b)))
  | .sub => some (.int k (k.wrap (a - b)))
  | .mul => some (.int k (k.wrap (a * b)))
  | .quo => if b = 0 then none else some (.int k (k.wrap (a.tdiv b)))
  | .rem => if b = 0 then none else some (.int k (a.tmod b))
  | .eql => some (.bool (a == b))
  | .neq => some (.bool (a != b))
  | .lss => some (.bool (a < b))
  | .leq => some (.bool (a ≤ b))
  | .gtr => some (.bool (a > b))
  | .geq => some (.bool (a ≥ b))
  | op => match bitsA op k a b with
    | some n => some (.int k n)
    | none => none

def shiftI (op : BinOp) (k : IntKind) (a b : Int) : Option AV :=
  if b < 0 then none else
  match op with
  | .shl => some (.int k (k.wrap (a * 2 ^ (min b.toNat k.bits))))
  | .shr => some (.int k (a.fdiv (2 ^ (min b.toNat k.bits))))
  | _ => none

def binS (op : BinOp) (x y : List UInt8) : Option AV :=
  match op with
  | .add => if x.length + y.length ≤ 1152921504606846976 then some (.str (x ++ y)) else none
  | .eql => some (.bool (x == y))
  | .neq => some (.bool (!(x == y)))
  | .lss => some (.bool (Go.Op.bytesLess x y))
  | .leq => some (.bool (Go.Op.bytesLess x y || x == y))
  | .gtr => some (.bool (!(Go.Op.bytesLess x y || x == y)))
  | .geq => some (.bool (!(Go.Op.bytesLess x y)))
  | _ => none

def isShift : BinOp → Bool
  | .shl | .shr => true
  | _ => false

def binA (op : BinOp) : AV → AV → Option AV
  | .int k a, .int k' b => if isShift op then shiftI op k a b else if k = k' then binI op k a b else none
  | .str x, .str y => binS op x y
  | _, _ => none

/-- Leaves that are alike. -/
def leafsEq : List EqK → List AV → List AV → Option Bool
  | [], [], [] => some true
  | .int :: ks, .int k a :: xs, .int k' b :: ys => if k = k' then (if a == b then leafsEq ks xs ys else some false) else none
  | .bool :: ks, .bool a :: xs, .bool b :: ys => if a == b then leafsEq ks xs ys else some false
  | .str :: ks, .str a :: xs, .str b :: ys => if a == b then leafsEq ks xs ys else some false
  | _, _, _ => none

def eqA (ks : List EqK) (agg : Bool) (x y : AV) : Option Bool :=
  if agg then match x, y with
    | .agg a, .agg b => if a.length = ks.length ∧ b.length = ks.length then leafsEq ks a b else none
    | _, _ => none
  else leafsEq ks [x] [y]

/-- Against nil: one of both is nil. -/
def eqNil : NilK → AV → AV → Option Bool
  | .ptr, .nilptr, .nilptr => some true
  | .ptr, .ptr _ _, .nilptr => some false
  | .ptr, .nilptr, .ptr _ _ => some false
  | .slice, .nilsl, .nilsl => some true
  | .slice, .sl _ _ _, .nilsl => some false
  | .slice, .nilsl, .sl _ _ _ => some false
  | .slice, .esl, .nilsl => some false
  | .slice, .nilsl, .esl => some false
  | .map, .nilmap, .nilmap => some true
  | .map, .map _, .nilmap => some false
  | .map, .nilmap, .map _ => some false
  | .func, .nilfn, .nilfn => some true
  | .func, .fn _ _ _, .nilfn => some false
  | .func, .nilfn, .fn _ _ _ => some false
  | _, _, _ => none

def unA (op : UnOp) : AV → Option AV
  | .int k n => match op with
    | .neg => some (.int k (k.wrap (0 - n)))
    | .xor => match bitsA .xor k (if k.signed then -1 else k.max) n with
      | some m => some (.int k m)
      | none => none
    | _ => none
  | .bool b => match op with
    | .not => some (.bool (!b))
    | _ => none
  | _ => none

def bytesOf : List AV → Option (List UInt8)
  | [] => some []
  | .int .u8 n :: r => match bytesOf r with
    | some l => some (UInt8.ofNat n.toNat :: l)
    | none => none
  | _ => none

def ofBytes (s : List UInt8) : List AV := s.map fun b => .int .u8 b.toNat

/-- What a slice or a string holds, as cells; how many elements. -/
def cellsOfSrc (H : AHeap) (sz : Nat) : AV → Option (Nat × List AV)
  | .nilsl | .esl => some (0, [])
  | .sl j o n => match getB H j with
    | some (.cells sz' _ cs) => if sz' = sz ∧ o + n * sz ≤ cs.length then some (n, (cs.drop o).take (n * sz)) else none
    | _ => none
  | .str s => some (s.length, ofBytes s)
  | _ => none

def maxRoom : Nat := 140737488355328

def appendA (H : AHeap) (sz bytes : Nat) (s x : AV) : Option (AV × AHeap) :=
  match cellsOfSrc H sz x with
  | none => none
  | some (k, xs) =>
    match s with
    | .nilsl => if k = 0 then some (.nilsl, H) else
      if k * bytes ≤ maxRoom then some (.sl H.length 0 k, H ++ [some (.cells sz true xs)]) else none
    | .esl => if k = 0 then some (.esl, H) else
      if k * bytes ≤ maxRoom then some (.sl H.length 0 k, H ++ [some (.cells sz true xs)]) else none
    | .sl i o n => if k = 0 then some (.sl i o n, H) else
      match getB H i with
      | some (.cells sz' true cs) =>
        if sz' = sz ∧ o + n * sz ≤ cs.length ∧ (n + k) * bytes ≤ maxRoom ∧ xs.all AV.one then
          some (.sl H.length 0 (n + k), H.set i none ++ [some (.cells sz true ((cs.drop o).take (n * sz) ++ xs))])
        else none
      | _ => none
    | _ => none

def copyA (H : AHeap) (sz : Nat) (d s : AV) : Option (AV × AHeap) :=
  match cellsOfSrc H sz s, d with
  | some (k, xs), .sl i o n =>
    match storeA H i o (xs.take (min k n * sz)) with
    | some H' => some (.int .i64 (min k n : Nat), H')
    | none => none
  | some _, .nilsl | some _, .esl => some (.int .i64 0, H)
  | _, _ => none

def rows (n : Nat) (zero : List AV) : List AV := (List.replicate n zero).flatten

def clearA (H : AHeap) (zero : List AV) (x : AV) : Option (AV × AHeap) :=
  match x with
  | .nilsl | .esl => some (.tup [], H)
  | .sl i o n => if n = 0 then some (.tup [], H) else
    match storeA H i o (rows n zero) with
    | some H' => some (.tup [], H')
    | none => none
  | _ => none

def keyEq : EqK → AV → AV → Option Bool
  | .int, .int k a, .int k' b => if k = k' then some (a == b) else none
  | .str, .str a, .str b => some (a == b)
  | .bool, .bool a, .bool b => some (a == b)
  | _, _, _ => none

/-- At which entry a key stands. -/
def findI (kk : EqK) (k : AV) : List (AV × AV) → Nat → Option (Option Nat)
  | [], _ => some none
  | (a, _) :: r, i => match keyEq kk k a with
    | some true => some (some i)
    | some false => findI kk k r (i + 1)
    | none => none

def keyOk : EqK → AV → Bool
  | .int, .int _ _ | .str, .str _ | .bool, .bool _ => true
  | _, _ => false

def intOf' : AV → Option Int
  | .int _ n => some n
  | _ => none

def bound (x : Option AV) (dflt lo hi : Nat) : Option Nat :=
  match x with
  | none => if lo ≤ dflt ∧ dflt ≤ hi then some dflt else none
  | some (.int _ n) => if (lo : Int) ≤ n ∧ n ≤ (hi : Int) then some n.toNat else none
  | _ => none

def sliceS (s : List UInt8) (lo hi : Option AV) : Option AV :=
  match bound hi s.length 0 s.length with
  | none => none
  | some h => match bound lo 0 0 h with
    | none => none
    | some l => some (.str ((s.take h).drop l))

def slLen : AV → Nat
  | .sl _ _ n => n
  | _ => 0

def sliceA (sz : Nat) (x : AV) (lo hi mx : Option AV) : Option AV :=
  match bound hi (slLen x) 0 (slLen x) with
  | none => none
  | some h => match bound lo 0 0 h with
    | none => none
    | some l => match mx with
      | none => match x with
        | .sl i o _ => some (.sl i (o + l * sz) (h - l))
        | .nilsl => some .nilsl
        | .esl => some .esl
        | _ => none
      | some m => match bound (some m) 0 h (slLen x) with
        | some m => if m = l then (match x with
            | .sl _ _ _ | .esl => some .esl
            | .nilsl => some .nilsl
            | _ => none) else none
        | none => none

/-- Are a slice's elements of so many cells? -/
def szOk (H : AHeap) (sz : Nat) : AV → Bool
  | .sl i _ _ => match getB H i with
    | some (.cells sz' _ _) => sz' == sz
    | _ => false
  | _ => true

/-- An operation that touches no memory. -/
def aPure (env vals : List AV) : AOp → Option AV
  | .mov x => aval env vals x
  | .pick c a b => match aval env vals c with
    | some (.bool t) => aval env vals (if t then a else b)
    | _ => none
  | .build zero parts => match aparts env vals parts with
    | some ps => match fillA zero ps with
      | some cs => some (.agg cs)
      | none => none
    | none => none
  | .nilchk x => match aval env vals x with
    | some (.ptr i o) => some (.ptr i o)
    | _ => none
  | .bin op x y => match aval env vals x, aval env vals y with
    | some a, some b => binA op a b
    | _, _ => none
  | .eqs neg ks agg x y => match aval env vals x, aval env vals y with
    | some a, some b => match eqA ks agg a b with
      | some t => some (.bool (if neg then !t else t))
      | none => none
    | _, _ => none
  | .eqnil neg k x y => match aval env vals x, aval env vals y with
    | some a, some b => match eqNil k a b with
      | some t => some (.bool (if neg then !t else t))
      | none => none
    | _, _ => none
  | .un op x => match aval env vals x with
    | some a => unA op a
    | none => none
  | .conv k x => match aval env vals x with
    | some (.int _ n) => some (.int k (k.wrap n))
    | _ => none
  | .str2str x => match aval env vals x with
    | some (.str s) => some (.str s)
    | _ => none
  | .iface t x => match aval env vals x with
    | some .junk => none
    | some v => some (.iface t v)
    | none => none
  | .func f first caps => match avals env vals first, avals env vals caps with
    | some a, some b => some (.fn f a b)
    | _, _ => none
  | .slstr x lo hi => match aval env vals x, aopt env vals lo, aopt env vals hi with
    | some (.str s), some l, some h => sliceS s l h
    | _, _, _ => none
  | .faddr off x => match aval env vals x with
    | some (.ptr i o) => some (.ptr i (o + off))
    | _ => none
  | .field off n agg x => match aval env vals x with
    | some (.agg cs) => if off + n ≤ cs.length then mkv agg ((cs.drop off).take n) else none
    | _ => none
  | .iaddr sz x i => match aval env vals x, aval env vals i with
    | some (.sl j o n), some (.int _ k) => if 0 ≤ k ∧ k < (n : Int) then some (.ptr j (o + k.toNat * sz)) else none
    | _, _ => none
  | .iaddra len sz x i => match aval env vals x, aval env vals i with
    | some (.ptr j o), some (.int _ k) => if 0 ≤ k ∧ k < (len : Int) then some (.ptr j (o + k.toNat * sz)) else none
    | _, _ => none
  | .istr x i => match aval env vals x, aval env vals i with
    | some (.str s), some (.int _ k) => if 0 ≤ k then (match s[k.toNat]? with
      | some b => some (.int .u8 b.toNat)
      | none => none) else none
    | _, _ => none
  | .iarr len sz agg x i => match aval env vals x, aval env vals i with
    | some (.agg cs), some (.int _ k) =>
      if 0 ≤ k ∧ k < (len : Int) ∧ k.toNat * sz + sz ≤ cs.length then mkv agg ((cs.drop (k.toNat * sz)).take sz) else none
    | _, _ => none
  | .extract k x => match aval env vals x with
    | some (.tup vs) => vs[k]?
    | _ => none
  | .lenS x => match aval env vals x with
    | some (.str s) => some (.int .i64 s.length)
    | _ => none
  | .lenL x => match aval env vals x with
    | some (.sl _ _ n) => some (.int .i64 n)
    | some .nilsl => some (.int .i64 0)
    | some .esl => some (.int .i64 0)
    | _ => none
  | .cap x => match aval env vals x with
    | some .nilsl => some (.int .i64 0)
    | some .esl => some (.int .i64 0)
    | _ => none
  | .minmax mx x y => match aval env vals x, aval env vals y with
    | some (.int k a), some (.int k' b) => if k = k' then
        (if mx then some (.int k (if b > a then b else a)) else some (.int k (if b < a then b else a))) else none
    | _, _ => none
  | _ => none

/-- An operation that reads memory. -/
def aRead (env vals : List AV) (H : AHeap) : AOp → Option AV
  | .load n agg a => match aval env vals a with
    | some (.ptr i o) => match loadA H i o n with
      | some cs => mkv agg cs
      | none => none
    | _ => none
  | .lookup kk z m k ok =>
    match aval env vals m, aval env vals k with
    | some mv, some kv =>
      let es := match mv with
        | .nilmap => some []
        | .map i => match getB H i with
          | some (.map es) => some es
          | _ => none
        | _ => none
      match es with
      | none => none
      | some es => if keyOk kk kv then match findI kk kv es 0 with
          | some (some i) => match es[i]? with
            | some e => some (if ok then .tup [e.2, .bool true] else e.2)
            | none => none
          | some none => some (if ok then .tup [z, .bool false] else z)
          | none => none
        else none
    | _, _ => none
  | .bytes2str x => match aval env vals x with
    | some .nilsl => some (.str [])
    | some .esl => some (.str [])
    | some (.sl i o n) => match loadA H i o n with
      | some cs => match bytesOf cs with
        | some s => some (.str s)
        | none => none
      | none => none
    | _ => none
  | .slsl sz x lo hi mx => match aval env vals x, aopt env vals lo, aopt env vals hi, aopt env vals mx with
    | some v, some l, some h, some m => if szOk H sz v then sliceA sz v l h m else none
    | _, _, _, _ => none
  | .lenM x => match aval env vals x with
    | some .nilmap => some (.int .i64 0)
    | some (.map i) => match getB H i with
      | some (.map es) => some (.int .i64 es.length)
      | _ => none
    | _ => none
  | _ => none

/-- An operation that makes a block: the value, by the block's number, and the block. -/
def aNew (env vals : List AV) : AOp → Option ((Nat → AV) × Blk)
  | .alloc zero => some (fun i => .ptr i 0, .cells zero.length true zero)
  | .box x => match aval env vals x with
    | some .junk => none
    | some v => some (fun i => .ptr i 0, .cells v.cells.length true v.cells)
    | none => none
  | .mkslice sz n zero parts => match aparts env vals parts with
    | some ps => match fillA (rows n zero) ps with
      | some cs => some (fun i => .sl i 0 n, .cells sz true cs)
      | none => none
    | none => none
  | .str2bytes x => match aval env vals x with
    | some (.str s) => some (fun i => .sl i 0 s.length, .cells 1 true (ofBytes s))
    | _ => none
  | .mkmap => some (fun i => .map i, .map [])
  | .make sz bytes zero len cap => match aval env vals len, aval env vals cap with
    | some (.int k n), some (.int k' m) =>
      if k = .i64 ∧ k' = .i64 ∧ n = m ∧ 0 ≤ n ∧ n * bytes ≤ (maxRoom : Int) ∧ n ≤ 1152921504606846976 then some (fun i => .sl i 0 n.toNat, .cells sz true (rows n.toNat zero)) else none
    | _, _ => none
  | _ => none

abbrev CallT := Nat → List AV → AHeap → Option (AV × AHeap)

/-- An operation that changes memory. -/
def aEff (call : CallT) (env vals : List AV) (H : AHeap) : AOp → Option (AV × AHeap)
  | .store n a v => match aval env vals a, aval env vals v with
    | some (.ptr i o), some w => if w.cells.length = n then match storeA H i o w.cells with
      | some H' => some (.junk, H')
      | none => none else none
    | _, _ => none
  | .call f xs => match avals env vals xs with
    | some as => call f as H
    | none => none
  | .callv f xs => match aval env vals f, avals env vals xs with
    | some (.fn f first caps), some as => call f (first ++ as ++ caps) H
    | _, _ => none
  | .append sz bytes str s x => match aval env vals s, aval env vals x with
    | some a, some b => if b.isStr == str then appendA H sz bytes a b else none
    | _, _ => none
  | .copy sz d s => match aval env vals d, aval env vals s with
    | some a, some b => if b.isStr then none else copyA H sz a b
    | _, _ => none
  | .clear zero x => match aval env vals x with
    | some a => clearA H zero a
    | none => none
  | .mapset kk m k v => match aval env vals m, aval env vals k, aval env vals v with
    | some (.map i), some kv, some vv => if keyOk kk kv && !vv.isJunk then match getB H i with
      | some (.map es) => match findI kk kv es 0 with
        | some (some j) => some (.junk, H.set i (some (.map (es.set j (kv, vv)))))
        | some none => some (.junk, H.set i (some (.map (es ++ [(kv, vv)]))))
        | none => none
      | _ => none else none
    | _, _, _ => none
  | .delete kk m k => match aval env vals m, aval env vals k with
    | some (.map i), some kv => if keyOk kk kv then match getB H i with
      | some (.map es) => match findI kk kv es 0 with
        | some (some j) => some (.tup [], H.set i (some (.map (es.eraseIdx j))))
        | some none => some (.tup [], H)
        | none => none
      | _ => none else none
    | some .nilmap, some kv => if keyOk kk kv then some (.tup [], H) else none
    | _, _ => none
  | _ => none

inductive Cls where
  | pure | read | new | eff
  deriving DecidableEq, Inhabited

def AOp.cls : AOp → Cls
  | .load .. | .lookup .. | .bytes2str .. | .slsl .. | .lenM .. => .read
  | .alloc .. | .box .. | .mkslice .. | .str2bytes .. | .mkmap | .make .. => .new
  | .store .. | .call .. | .callv .. | .append .. | .copy .. | .clear .. | .mapset .. | .delete .. => .eff
  | _ => .pure

def aOp (call : CallT) (env vals : List AV) (H : AHeap) (o : AOp) : Option (AV × AHeap) :=
  match o.cls with
  | .pure => match aPure env vals o with
    | some v => some (v, H)
    | none => none
  | .read => match aRead env vals H o with
    | some v => some (v, H)
    | none => none
  | .new => match aNew env vals o with
    | some (mk, b) => some (mk H.length, H ++ [some b])
    | none => none
  | .eff => aEff call env vals H o

/-- Is an operation carried out? -/
def wantedA (vals : List AV) : Option (Nat × Bool) → Option Bool
  | none => some true
  | some (j, t) => match vals[j]? with
    | some (.bool b) => some (b == t)
    | some (.tup []) => some false
    | _ => none

def put (env : List AV) : Option Nat → AV → List AV
  | none, _ => env
  | some x, v => env.set x v

/-- Read 'i' of the region tells the same in heap H. -/
def sameAt (all : List AOper) (env vals : List AV) (H : AHeap) (i : Nat) : Bool :=
  match all[i]? with
  | none => false
  | some o => match wantedA vals o.guard with
    | some true => match aRead env vals H o.op, vals[i]? with
      | some v, some u => AV.same v u
      | _, _ => false
    | some false => true
    | none => false

/-- The operations of a region one by one. 'env': as it was at the region's head. 'hs': the heap ahead of each operation. -/
def runOps (call : CallT) (all : List AOper) (env : List AV) : List AOper → List AV → List AHeap → List AV → AHeap → Option (List AV × AHeap)
  | [], _, _, env', H => some (env', H)
  | o :: r, vals, hs, env', H =>
    match wantedA vals o.guard with
    | none => none
    | some false => runOps call all env r (vals ++ [.tup []]) (hs ++ [H]) (put env' o.dst (.tup [])) H
    | some true =>
      match aOp call env vals H o.op with
      | none => none
      | some (v, H') =>
        if o.aft.all (sameAt all env vals H') && o.bef.all (fun j => match hs[j]? with
            | some Hj => (match aRead env vals Hj o.op with
              | some u => AV.same u v
              | none => false)
            | none => false) then
          runOps call all env r (vals ++ [v]) (hs ++ [H]) (put env' o.dst v) H'
        else none

def aCode (call : CallT) : Nat → ACode → List AV → AHeap → Option (AExit × List AV × AHeap)
  | 0, _, _, _ => none
  | _ + 1, .skip, env, H => some (.normal, env, H)
  | _ + 1, .region ops, env, H => match runOps call ops env ops [] [] env H with
    | some (env', H') => some (.normal, env', H')
    | none => none
  | n + 1, .seq a b, env, H => match aCode call n a env H with
    | some (.normal, env', H') => aCode call n b env' H'
    | r => r
  | n + 1, .cond c a b, env, H => match aval env [] c with
    | some (.bool t) => aCode call n (if t then a else b) env H
    | _ => none
  | n + 1, .block id c, env, H => match aCode call n c env H with
    | some (.exit id', env', H') => if id' = id then some (.normal, env', H') else some (.exit id', env', H')
    | r => r
  | n + 1, .loop c, env, H => match aCode call n c env H with
    | some (.normal, env', H') => aCode call n (.loop c) env' H'
    | r => r
  | _ + 1, .exit id, env, H => some (.exit id, env, H)
  | _ + 1, .ret, env, H => some (.ret, env, H)

def aRes (env : List AV) (H : AHeap) : List ResA → Option (List AV)
  | [] => some []
  | .var x :: r => match env[x]?, aRes env H r with
    | some v, some vs => some (v :: vs)
    | _, _ => none
  | .cell x n agg :: r => match env[x]?, aRes env H r with
    | some (.ptr i o), some vs => match loadA H i o n with
      | some cs => match mkv agg cs with
        | some v => some (v :: vs)
        | none => none
      | none => none
    | _, _ => none

def single : List AV → AV
  | [v] => v
  | vs => .tup vs

def env0 (ps : List Nat) (args : List AV) : List AV := ps.map fun s => args[s]?.getD .junk

def aBody (call : CallT) (n : Nat) (fn : AFun) (args : List AV) (H : AHeap) : Option (AV × AHeap) :=
  if args.length = fn.nargs then
    match aCode call n fn.body (env0 fn.ps args) H with
    | some (.normal, env, H') | some (.ret, env, H') => match aRes env H' fn.res with
      | some vs => some (single vs, H')
      | none => none
    | _ => none
  else none

/-- A call: by an oracle where there is one, else by the function's own text. -/
def aCall (prog : Nat → Option AFun) (orc : Nat → Option (List AV → AHeap → Option (AV × AHeap))) : Nat → CallT
  | 0, _, _, _ => none
  | n + 1, f, args, H =>
    match orc f with
    | some g => g args H
    | none => match prog f with
      | some fn => aBody (aCall prog orc n) n fn args H
      | none => none

end Go.Am
