/- What compact code a loaded function is: a function of the program's own tables. Checked by the kernel, function by function. -/
import Derived.Test.YtnblhjpbpobglaaAmA
import GoSem.Core.Region
import GoSem.Op.Equal
namespace Go.Am

mutual
def trConst : Value → Option AV
  | .int k n => some (.int k n)
  | .bool b => some (.bool b)
  | .string s => some (.str s.data.toList)
  | .pointer none => some .nilptr
  | .slice none 0 0 => some .nilsl
  | .map none => some .nilmap
  | .nilFunc => some .nilfn
  | .nilIface => some .nilif
  | .agg cs => match trConsts cs.toList with
    | some l => some (.agg l)
    | none => none
  | _ => none
def trConsts : List Value → Option (List AV)
  | [] => some []
  | v :: r => match trConst v, trConsts r with
    | some a, some l => some (a :: l)
    | _, _ => none
end

def sizeP (P : Program) (t : TypeId) : Option Nat :=
  match P.info? t with
  | some i => if i.size = 0 then none else some i.size
  | none => none

def bytesP (P : Program) (t : TypeId) : Option Nat :=
  match P.info? t with
  | some i => some i.bytes
  | none => none

def aggP (P : Program) (t : TypeId) : Option Bool :=
  match P.underlying t with
  | some (.struct _) => some true
  | some (.array _ _) => some true
  | some _ => some false
  | none => none

/-- The cells of a zero value, as many as the type's size says. -/
def zeroP (P : Program) (t : TypeId) : Option (List AV) :=
  match P.info? t with
  | some i => match i.zero with
    | some z => match trConst z with
      | some v => if v.cells.length = i.size ∧ i.size ≠ 0 then some v.cells else none
      | none => none
    | none => none
  | none => none

def elemP (P : Program) (t : TypeId) : Option TypeId :=
  match P.underlying t with
  | some (.slice e) => some e
  | _ => none

def fieldsK (P : Program) (sub : TypeId → Option (List EqK)) : List Field → Nat → Option (List EqK)
  | [], _ => some []
  | f :: r, o => if f.name = "_" ∨ f.offset ≠ o then none else
    match sub f.type with
    | some l => if (P.info? f.type).map (·.size) = some l.length ∧ l.length ≠ 0 then (match fieldsK P sub r (o + l.length) with
        | some m => some (l ++ m)
        | none => none) else none
    | none => none

/-- The leaves of a type whose values are compared leaf by leaf. -/
def leafK (P : Program) : Nat → TypeId → Option (List EqK)
  | 0, _ => none
  | d + 1, t =>
    match P.info? t with
    | none => none
    | some i =>
    match P.underlying t with
    | some .bool => if i.size = 1 then some [.bool] else none
    | some (.int _) => if i.size = 1 then some [.int] else none
    | some .string => if i.size = 1 then some [.str] else none
    | some (.array n e) => match leafK P d e with
      | some l => if l.length * n = i.size ∧ (P.info? e).map (·.size) = some l.length ∧ l.length ≠ 0 then some ((List.replicate n l).flatten) else none
      | none => none
    | some (.struct fs) => if P.stoodInHeld t then none else
      match fieldsK P (leafK P d) fs.toList 0 with
      | some l => if l.length = i.size then some l else none
      | none => none
    | _ => none

/-- The kind of a map's keys. -/
def keyP (P : Program) (t : TypeId) : Option EqK :=
  match P.underlying t with
  | some (.int _) => some .int
  | some .string => some .str
  | some .bool => some .bool
  | _ => none

structure Ctx where
  P : Program
  ps : List Nat
  /-- the slots that earlier operations of the region have written -/
  tm : List (Nat × Nat)

def trOpd (c : Ctx) : Operand → Option Opd
  | .tmp t => match c.tm.lookup t with
    | some k => some (.loc k)
    | none => match c.ps.idxOf? t with
      | some x => some (.var x)
      | none => none
  | .const v => match trConst v with
    | some a => some (.const a)
    | none => none
  | .func f => some (.const (.fn f [] []))
  | .global _ => none

def trOpds (c : Ctx) : List Operand → Option (List Opd)
  | [] => some []
  | x :: r => match trOpd c x, trOpds c r with
    | some a, some l => some (a :: l)
    | _, _ => none

def trOptd (c : Ctx) : Option Operand → Option (Option Opd)
  | none => some none
  | some x => match trOpd c x with
    | some a => some (some a)
    | none => none

def trParts (c : Ctx) (place : Nat → Option (Nat × Nat)) : List (Nat × Operand) → Option (List (Nat × Nat × Opd))
  | [] => some []
  | (i, x) :: r => match place i, trOpd c x, trParts c place r with
    | some (o, n), some a, some l => some ((o, n, a) :: l)
    | _, _, _ => none

def trEq (c : Ctx) (neg : Bool) (op : BinOp) (t : TypeId) (x y : Operand) : Option AOp :=
  match trOpd c x, trOpd c y with
  | some a, some b =>
    match c.P.underlying t with
    | some (.int _) | some .string => some (.bin op a b)
    | some .bool => some (.eqs neg [.bool] false a b)
    | some (.struct _) | some (.array _ _) =>
      if c.P.eqGuardType c.P.depth t then none else
      match leafK c.P 20 t with
      | some ks => some (.eqs neg ks true a b)
      | none => none
    | some (.pointer _) => some (.eqnil neg .ptr a b)
    | some (.slice _) => some (.eqnil neg .slice a b)
    | some (.map _ _) => some (.eqnil neg .map a b)
    | some (.func _ _ _) => some (.eqnil neg .func a b)
    | _ => none
  | _, _ => none

def trCall (c : Ctx) (k : Call) : Option AOp :=
  match k.callee with
  | .value (.func f) => match trOpds c k.args.toList with
    | some xs => some (.call f xs)
    | none => none
  | .value f => match trOpd c f, trOpds c k.args.toList with
    | some g, some xs => some (.callv g xs)
    | _, _ => none
  | .invoke _ _ => none
  | .builtin b =>
    match b, k.args.toList, k.argTypes.toList with
    | .len, [x], [t] => match c.P.underlying t, trOpd c x with
      | some .string, some a => some (.lenS a)
      | some (.slice _), some a => some (.lenL a)
      | some (.map _ _), some a => some (.lenM a)
      | some (.array n _), some _ => some (.mov (.const (.int .i64 n)))
      | _, _ => none
    | .cap, [x], [t] => match c.P.underlying t, trOpd c x with
      | some (.slice _), some a => some (.cap a)
      | _, _ => none
    | .append, [s, x], [t, u] => match elemP c.P t, c.P.underlying u, trOpd c s, trOpd c x with
      | some e, some (.slice _), some a, some b => match sizeP c.P e, bytesP c.P e, zeroP c.P e with
        | some n, some m, some _ => if m = 0 then none else some (.append n m false a b)
        | _, _, _ => none
      | some e, some .string, some a, some b => match sizeP c.P e, bytesP c.P e, c.P.underlying e, zeroP c.P e with
        | some 1, some m, some (.int .u8), some _ => if m = 0 then none else some (.append 1 m true a b)
        | _, _, _, _ => none
      | _, _, _, _ => none
    | .copy, [d, s], [t, u] => match elemP c.P t, c.P.underlying u, trOpd c d, trOpd c s with
      | some e, some (.slice _), some a, some b => match sizeP c.P e with
        | some n => some (.copy n a b)
        | none => none
      | _, _, _, _ => none
    | .clear, [x], [t] => match c.P.underlying t, trOpd c x with
      | some (.slice e), some a => match zeroP c.P e with
        | some z => some (.clear z a)
        | none => none
      | _, _ => none
    | .min, [x, y], _ => match trOpd c x, trOpd c y with
      | some a, some b => some (.minmax false a b)
      | _, _ => none
    | .max, [x, y], _ => match trOpd c x, trOpd c y with
      | some a, some b => some (.minmax true a b)
      | _, _ => none
    | .delete, [m, x], [t, _] => match c.P.underlying t, trOpd c m, trOpd c x with
      | some (.map kt _), some a, some b => match keyP c.P kt with
        | some kk => some (.delete kk a b)
        | none => none
      | _, _, _ => none
    | _, _, _ => none

def trOp (c : Ctx) (op : Op) : Option AOp :=
  match op with
  | .move x | .assign x => match trOpd c x with
    | some a => some (.mov a)
    | none => none
  | .pick x y z => match trOpd c x, trOpd c y, trOpd c z with
    | some a, some b, some d => some (.pick a b d)
    | _, _, _ => none
  | .alloc e => match zeroP c.P e with
    | some z => some (.alloc z)
    | none => none
  | .box _ x => match trOpd c x with
    | some a => some (.box a)
    | none => none
  | .build t parts => match zeroP c.P t, c.P.underlying t with
    | some z, some (.struct fs) =>
      match trParts c (fun i => match fs[i]? with
        | some f => match c.P.info? f.type with
          | some j => some (f.offset, j.size)
          | none => none
        | none => none) parts.toList with
      | some ps => if fs.all (fun f => (c.P.info? f.type).isSome) then some (.build z ps) else none
      | none => none
    | some z, some (.array _ e) => match sizeP c.P e with
      | some n => match trParts c (fun i => some (i * n, n)) parts.toList with
        | some ps => some (.build z ps)
        | none => none
      | none => none
    | _, _ => none
  | .buildSlice t len parts => match elemP c.P t with
    | some e => match sizeP c.P e, zeroP c.P e with
      | some n, some z => if len * n ≤ 16777216 then match trParts c (fun i => some (i * n, n)) parts.toList with
        | some ps => some (.mkslice n len z ps)
        | none => none else none
      | _, _ => none
    | none => none
  | .load t a => match sizeP c.P t, aggP c.P t, trOpd c a with
    | some n, some g, some x => if g || n == 1 then some (.load n g x) else none
    | _, _, _ => none
  | .store t a v => match sizeP c.P t, trOpd c a, trOpd c v with
    | some n, some x, some y => some (.store n x y)
    | _, _, _ => none
  | .nilCheck x => match trOpd c x with
    | some a => some (.nilchk a)
    | none => none
  | .binOp .eql t x y _ => trEq c false .eql t x y
  | .binOp .neq t x y _ => trEq c true .neq t x y
  | .binOp op _ x y _ => match trOpd c x, trOpd c y with
    | some a, some b => some (.bin op a b)
    | _, _ => none
  | .unOp op _ x => match trOpd c x with
    | some a => some (.un op a)
    | none => none
  | .convert src dst x => match c.P.underlying src, c.P.underlying dst, trOpd c x with
    | some (.int _), some (.int k), some a => some (.conv k a)
    | some .string, some .string, some a => some (.str2str a)
    | some .string, some (.slice e), some a => match c.P.underlying e with
      | some (.int .u8) => some (.str2bytes a)
      | _ => none
    | some (.slice e), some .string, some a => match c.P.underlying e with
      | some (.int .u8) => some (.bytes2str a)
      | _ => none
    | _, _, _ => none
  | .makeInterface t x => match c.P.underlying t, trOpd c x with
    | some (.interface _), _ => none
    | some _, some a => some (.iface t a)
    | _, _ => none
  | .makeFunc (.func f) first caps => match trOpds c first.toList, trOpds c caps.toList with
    | some a, some b => some (.func f a b)
    | _, _ => none
  | .makeMap _ none => some .mkmap
  | .lookup t m k ok => match c.P.underlying t, trOpd c m, trOpd c k with
    | some (.map kt et), some a, some b => match keyP c.P kt, c.P.info? et with
      | some kk, some i => match i.zero with
        | some z => match trConst z with
          | some zv => some (.lookup kk zv a b ok)
          | none => none
        | none => none
      | _, _ => none
    | _, _, _ => none
  | .mapUpdate t m k v | .insert t m k v => match c.P.underlying t, trOpd c m, trOpd c k, trOpd c v with
    | some (.map kt _), some a, some b, some d => match keyP c.P kt with
      | some kk => some (.mapset kk a b d)
      | none => none
    | _, _, _, _ => none
  | .makeSlice t l k => match elemP c.P t with
    | some e => match sizeP c.P e, bytesP c.P e, zeroP c.P e, trOpd c l, trOpd c k with
      | some n, some m, some z, some a, some b => if m = 0 then none else some (.make n m z a b)
      | _, _, _, _, _ => none
    | none => none
  | .slice t x lo hi mx => match c.P.underlying t, trOpd c x, trOptd c lo, trOptd c hi, trOptd c mx with
    | some .string, some a, some l, some h, some none => some (.slstr a l h)
    | some (.slice e), some a, some l, some h, some m => if m.isSome && h.isNone then none else match sizeP c.P e with
      | some n => some (.slsl n a l h m)
      | none => none
    | _, _, _, _, _ => none
  | .fieldAddr s x f => match c.P.underlying s, trOpd c x with
    | some (.struct fs), some a => match fs[f]? with
      | some fd => match sizeP c.P fd.type with
        | some _ => some (.faddr fd.offset a)
        | none => none
      | none => none
    | _, _ => none
  | .field s x f => match c.P.underlying s, trOpd c x with
    | some (.struct fs), some a => match fs[f]? with
      | some fd => match sizeP c.P fd.type, aggP c.P fd.type with
        | some n, some g => if g || n == 1 then some (.field fd.offset n g a) else none
        | _, _ => none
      | none => none
    | _, _ => none
  | .indexAddr t x i => match c.P.underlying t, trOpd c x, trOpd c i with
    | some (.slice e), some a, some b => match sizeP c.P e with
      | some n => some (.iaddr n a b)
      | none => none
    | some (.array len e), some a, some b => match sizeP c.P e with
      | some n => some (.iaddra len n a b)
      | none => none
    | _, _, _ => none
  | .index t x i => match c.P.underlying t, trOpd c x, trOpd c i with
    | some .string, some a, some b => some (.istr a b)
    | some (.array len e), some a, some b => match sizeP c.P e, aggP c.P e with
      | some n, some g => if g || n == 1 then some (.iarr len n g a b) else none
      | _, _ => none
    | _, _, _ => none
  | .extract x k => match trOpd c x with
    | some a => some (.extract k a)
    | none => none
  | .call k => trCall c k
  | .panic _ => some .stop
  | .defer _ => some .stop
  | _ => none

/-- The operations of a region, one by one. -/
def trOps (P : Program) (ps : List Nat) (nt : Nat) : List Oper → Nat → List (Nat × Nat) → Option (List AOper)
  | [], _, _ => some []
  | o :: r, k, tm =>
    match trOp ⟨P, ps, tm⟩ o.op with
    | none => none
    | some a =>
      let g : Option (Option (Nat × Bool)) := match o.guard with
        | none => some none
        | some (j, t) => if tm.any (fun p => p.2 == j) then some (some (j, t)) else none
      match g, o.dst with
      | some g, some d =>
        if (tm.lookup d).isSome || decide (nt ≤ d) then none else
        match trOps P ps nt r (k + 1) ((d, k) :: tm) with
        | some l => some ({ op := a, dst := ps.idxOf? d, guard := g } :: l)
        | none => none
      | some g, none => match trOps P ps nt r (k + 1) tm with
        | some l => some ({ op := a, dst := none, guard := g } :: l)
        | none => none
      | none, _ => none

def allBelow (n : Nat) (f : Nat → Bool) : Bool := (List.range n).all f

/-- In a region that draws its order: what must stand ahead of what, and what is looked at again. -/
def drawn (b : Nat → Nat → Bool) (l : List AOper) : Option (List AOper) :=
  let cl (i : Nat) : Cls := match l[i]? with
    | some o => o.op.cls
    | none => .pure
  if allBelow l.length fun j => allBelow j fun i =>
      (match cl i, cl j with
       | .eff, .eff => b i j
       | .new, .eff => b i j
       | _, _ => true)
  then some (l.zipIdx.map fun (o, j) =>
    match o.op.cls with
    | .eff => { o with aft := (List.range j).filter fun i => cl i == .read && !b i j }
    | .read => { o with bef := (List.range j).filter fun i => cl i == .eff && !b i j }
    | _ => o)
  else none

/-- Of each operation those that stand ahead of it in whatever order. -/
def ahead : List Oper → List (List Nat) → List (List Nat)
  | [], acc => acc
  | o :: r, acc => ahead r (acc ++ [(o.after.toList.flatMap fun e => if Region.binds .any e then e.on :: acc.getD e.on [] else []).eraseDups])

/-- Edges lead back. -/
def backOk : List Oper → Nat → Bool
  | [], _ => true
  | o :: r, i => o.after.toList.all (fun e => !Region.binds .any e || decide (e.on < i)) && backOk r (i + 1)

/-- In a region that draws: what an operation looks at stands ahead of it, and what writes a variable that it looks at stands behind it. -/
def edgesOk (l : List AOper) (b : Nat → Nat → Bool) : Bool :=
  allBelow l.length fun k => match l[k]? with
    | none => true
    | some o =>
      (o.op.opds.all fun x => match x with
        | .loc j => b j k
        | .var x => allBelow l.length fun m => m == k || (match l[m]? with
          | some q => q.dst != some x || b k m
          | none => true)
        | .const _ => true) &&
      (match o.guard with
       | some (j, _) => b j k
       | none => true)

def opdOk (n : Nat) : Opd → Bool
  | .var x => decide (x < n)
  | .const (.ptr _ _) | .const (.sl _ _ _) | .const (.map _) => false
  | _ => true

def trRegion (P : Program) (ps : List Nat) (nt : Nat) (ops : Array Oper) (draw : Bool) : Option (List AOper) :=
  match trOps P ps nt ops.toList 0 [] with
  | none => none
  | some l => if draw then
      let c := ahead ops.toList []
      let b : Nat → Nat → Bool := fun i j => (c.getD j []).contains i
      if backOk ops.toList 0 && edgesOk l b && l.all (fun o => o.op.opds.all (opdOk ps.length)) && P.follows .mixedOrders then drawn b l else none
    else some l

def trCode (P : Program) (ps : List Nat) (nt : Nat) : Code → Option ACode
  | .skip => some .skip
  | .region _ ops draw => match trRegion P ps nt ops draw with
    | some l => some (.region l)
    | none => none
  | .seq a b => match trCode P ps nt a, trCode P ps nt b with
    | some x, some y => some (.seq x y)
    | _, _ => none
  | .cond k a b => match trOpd ⟨P, ps, []⟩ k, trCode P ps nt a, trCode P ps nt b with
    | some c, some x, some y => some (.cond c x y)
    | _, _, _ => none
  | .block id a => match trCode P ps nt a with
    | some x => some (.block id x)
    | none => none
  | .loop a => match trCode P ps nt a with
    | some x => some (.loop x)
    | none => none
  | .exit id => some (.exit id)
  | .ret => some .ret
  | _ => none

def trRes (P : Program) (ps : List Nat) : List ResultVar → Option (List ResA)
  | [] => some []
  | .tmp t :: r => match ps.idxOf? t, trRes P ps r with
    | some x, some l => some (.var x :: l)
    | _, _ => none
  | .cell a t :: r => match ps.idxOf? a, sizeP P t, aggP P t, trRes P ps r with
    | some x, some n, some g, some l => if g || n == 1 then some (.cell x n g :: l) else none
    | _, _, _, _ => none

/-- Is 'af' the compact form of 'fn'? -/
def trFun (P : Program) (fn : Func) (ps : List Nat) : Option AFun :=
  match fn.body with
  | none => none
  | some c =>
    if fn.nfree + fn.params.size ≤ fn.ntmps ∧ ps.all (· < fn.ntmps) ∧ ps.Nodup ∧ fn.name ≠ "runtime.NumGoroutine" then
      match trCode P ps fn.ntmps c, trRes P ps fn.results.toList with
      | some b, some rs => some { nargs := fn.nfree + fn.params.size, ps, res := rs, body := b }
      | _, _ => none
    else none

end Go.Am
