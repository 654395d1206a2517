/- The code tree out of the loaded program: what it is made of, and when a region's order does not matter. Rewriting rules of the symbolic executor. -/
import Derived.Test.YtaeanhonfoakeaaK0
section
namespace Heron
open Go

def genX : Operand → AX
  | .tmp n => .t n
  | .const v => .c (.ofValue v)
  | .func f => .c (.fn f [])
  | .global _ => .c .junk

def tySize (P : Program) (t : TypeId) : Option Nat := (P.info? t).map (·.size)
def tyBytes (P : Program) (t : TypeId) : Option Nat := (P.info? t).map (·.bytes)
def tyZero (P : Program) (t : TypeId) : Option AVal := (P.info? t).bind fun i => i.zero.map .ofValue
/-- A type's zero value, of so many cells. -/
def tyZ (P : Program) (t : TypeId) (sz : Nat) : Option AVal := do
  let zv ← tyZero P t
  if zv.cells.length == sz && sz != 0 then some zv else none
def tyAgg (P : Program) (t : TypeId) : Option (Option Nat) := do
  match ← P.underlying t with
  | .struct _ | .array _ _ => pure (some (← tySize P t))
  | _ => pure none

/-- A struct of whole numbers alone, one a cell. -/
def intStruct (P : Program) (fields : Array Field) : Bool :=
  fields.toList.zipIdx.all fun (f, i) => f.offset == i && f.name != "_" && (match P.underlying f.type with | some (.int .i64) => true | _ => false) && tySize P f.type == some 1

def eqKind (P : Program) (t : TypeId) : EqK :=
  match P.underlying t with
  | some .bool => .bool
  | some (.int _) | some .string => .prim
  | some (.slice _) => .slice
  | some (.pointer _) => .ptrnil
  | some (.func ..) => .func
  | some (.struct fields) => if intStruct P fields && !P.stoodInHeld t && !P.eqGuardType P.depth t && tySize P t == some fields.size && fields.size < 100 then .ints fields.size else .none
  | _ => .none

def isNilConst : Operand → Bool
  | .const (.slice none 0 0) => true
  | _ => false

def genParts (P : Program) (t : TypeId) (parts : Array (Nat × Operand)) : Option (List (Nat × Nat × AX)) := do
  match ← P.underlying t with
  | .struct fields => parts.toList.mapM fun (i, x) => do
      let f ← fields[i]?
      pure (f.offset, ← tySize P f.type, genX x)
  | .array _ elem => do
      let sz ← tySize P elem
      parts.toList.mapM fun (i, x) => pure (i * sz, sz, genX x)
  | _ => none

def mapKey (P : Program) (t : TypeId) : Option (KK × TypeId) := do
  match ← P.underlying t with
  | .map key elem => match P.underlying key, eqKind P key with
    | some (.int k), _ => some (.int k, elem)
    | some .bool, _ => some (.bool, elem)
    | some (.struct _), .ints n => some (.ints n, elem)
    | _, _ => none
  | _ => none

def genConv (P : Program) (src dst : TypeId) (x : Operand) : Option QE := do
  match ← P.underlying src, ← P.underlying dst with
  | .int _, .int k => some (.conv k (genX x))
  | .string, .string => some (.same (genX x))
  | .slice e, .string => do
    match ← P.underlying e with
    | .int .u8 => some (.b2s (genX x))
    | _ => none
  | _, _ => none

/-- Are the sizes of all of a struct's parts known? -/
def buildOk (P : Program) (t : TypeId) : Bool := match P.underlying t with
  | some (.struct fields) => fields.all fun f => (tySize P f.type).isSome
  | _ => true

def genBuild (P : Program) (t : TypeId) (parts : Array (Nat × Operand)) : Option QE := do
  let zv ← tyZero P t
  let ps ← genParts P t parts
  if buildOk P t && zv.cells.length == (← tySize P t) then some (.build zv.cells ps) else none

def genSlice (P : Program) (t : TypeId) (x : Operand) (lo hi mx : Option Operand) : Option QE := do
  match ← P.underlying t with
  | .array n elem => if (← tySize P elem) == 1 && mx.isNone then some (.asub n (genX x) (lo.map genX) (hi.map genX)) else none
  | .slice e => do some (.sub (← tySize P e) (genX x) (lo.map genX) (hi.map genX) (mx.map genX))
  | .string => if mx.isNone then some (.subs (genX x) (lo.map genX) (hi.map genX)) else none
  | _ => none

def genFieldAddr (P : Program) (s : TypeId) (x : Operand) (f : Nat) : Option QE := do
  match ← P.underlying s with
  | .struct fields => do
    let f ← fields[f]?
    if (← tySize P f.type) == 0 then none else some (.fa f.offset (genX x))
  | _ => none

def genField (P : Program) (s : TypeId) (x : Operand) (f : Nat) : Option QE := do
  match ← P.underlying s with
  | .struct fields => do
    let f ← fields[f]?
    some (.fd f.offset (← tyAgg P f.type) (genX x))
  | _ => none

def genIndexAddr (P : Program) (t : TypeId) (x i : Operand) : Option QE := do
  match ← P.underlying t with
  | .slice e => do some (.ia (← tySize P e) (genX x) (genX i))
  | .array n e => do some (.iaa n (← tySize P e) (genX x) (genX i))
  | _ => none

def genIndex (P : Program) (t : TypeId) (x i : Operand) : Option QE := do
  match ← P.underlying t with
  | .string => some (.ix (genX x) (genX i))
  | _ => none

def genLookup (P : Program) (t : TypeId) (x k : Operand) (ok : Bool) : Option QE := do
  let (kk, e) ← mapKey P t
  some (.lk kk (← tyZero P e) (genX x) (genX k) ok)

def genMkf (fn : Fn) (first captured : Array Operand) : Option QE :=
  match fn with
  | .func f => if first.size = 0 then some (.mkf f (captured.toList.map genX)) else none
  | _ => none

/-- What a length is asked of. -/
inductive LenK where
  | str
  | slice
  | map

def lenKind (P : Program) (ts : Array TypeId) : Option LenK := do
  match ← P.underlying (← ts[0]?) with
  | .string => some .str
  | .slice _ => some .slice
  | .map _ _ => some .map
  | _ => none

def genBuiltinQ (P : Program) (b : Builtin) (args : List Operand) (ts : Array TypeId) : Option QE :=
  match b, args with
  | .len, [x] => (lenKind P ts).map fun
    | .str => .lens (genX x)
    | .slice => .len (genX x)
    | .map => .lenm (genX x)
  | .cap, [x] => match lenKind P ts with
    | some .slice => some (.cap (genX x))
    | _ => none
  | .max, [x, y] => some (.mx (genX x) (genX y))
  | .min, [x, y] => some (.mn (genX x) (genX y))
  | _, _ => none

def genBin (P : Program) (op : BinOp) (t : TypeId) (x y : Operand) : Option QE :=
  match eqKind P t with
  | .slice => none
  | k => some (.bin op k (genX x) (genX y))

def genQ (P : Program) : Op → Option QE
  | .move x => some (.mv (genX x))
  | .assign x => some (.mv (genX x))
  | .pick c a b => some (.pick (genX c) (genX a) (genX b))
  | .unOp op _ x => some (.un op (genX x))
  | .binOp op t x y _ => genBin P op t x y
  | .convert src dst x => genConv P src dst x
  | .build t parts => genBuild P t parts
  | .load t x => (tyAgg P t).map fun ag => .load ag (genX x)
  | .nilCheck x => some (.nilc (genX x))
  | .slice t x lo hi mx => genSlice P t x lo hi mx
  | .fieldAddr s x f => genFieldAddr P s x f
  | .field s x f => genField P s x f
  | .indexAddr t x i => genIndexAddr P t x i
  | .index t x i => genIndex P t x i
  | .lookup t x k ok => genLookup P t x k ok
  | .extract x i => some (.ext (genX x) i)
  | .makeFunc fn first captured => genMkf fn first captured
  | .call c => match c.callee with
    | .builtin b => genBuiltinQ P b c.args.toList c.argTypes
    | _ => none
  | _ => none

def genBsl (P : Program) (t : TypeId) (n : Nat) (parts : Array (Nat × Operand)) : Option AI := do
  match ← P.underlying t with
  | .slice e => do
    let sz ← tySize P e
    let zv ← tyZ P e sz
    if n * sz > 2 ^ 24 then none else some (.bsl sz n zv (parts.toList.map fun p => (p.1, genX p.2)))
  | _ => none

def genMks (P : Program) (t : TypeId) (l c : Operand) : Option AI := do
  match ← P.underlying t with
  | .slice e => do
    let sz ← tySize P e
    if (← tyBytes P e) == 0 then none else some (.mks sz (← tyBytes P e) (← tyZ P e sz) (genX l) (genX c))
  | _ => none

def genS2b (P : Program) (src dst : TypeId) (x : Operand) : Option AI := do
  match ← P.underlying src, ← P.underlying dst with
  | .string, .slice e => do
    match ← P.underlying e with
    | .int .u8 => if (← tySize P e) == 1 then some (.s2b (genX x)) else none
    | _ => none
  | _, _ => none

def genEqn (P : Program) (op : BinOp) (t : TypeId) (x y : Operand) : Option AI :=
  match eqKind P t, op with
  | .slice, .eql => if isNilConst y then some (.eqn false (genX x)) else none
  | .slice, .neq => if isNilConst y then some (.eqn true (genX x)) else none
  | _, _ => none

/-- What is appended: a slice or a string, or a make. -/
def appKind : TypeDesc → Option Bool
  | .int _ => some true
  | .slice _ => some false
  | .string => some false
  | _ => none

def genAppend (P : Program) (quiet keepOld : Bool) (ts : Array TypeId) (x y : Operand) : Option AI := do
  match ← P.underlying (← ts[0]?) with
  | .slice e => do
    let zs ← appKind (← P.underlying (← ts[1]?))
    let sz ← tySize P e
    let zv ← tyZ P e sz
    let bytes ← tyBytes P e
    if bytes == 0 then none
    else if zs then some (.appz sz bytes zv (genX x) (genX y))
    else if quiet then some (.appn sz bytes (genX x) (genX y))
    else if keepOld then some (.appk sz bytes (genX x) (genX y)) else some (.app sz bytes (genX x) (genX y))
  | _ => none

def genCopy (P : Program) (ts : Array TypeId) (x y : Operand) : Option AI := do
  match ← P.underlying (← ts[0]?) with
  | .slice e => do
    let sz ← tySize P e
    if sz == 0 then none else some (.cpy sz (genX x) (genX y))
  | _ => none

def genClear (P : Program) (ts : Array TypeId) (x : Operand) : Option AI := do
  match ← P.underlying (← ts[0]?) with
  | .map _ _ => some (.clr (genX x))
  | .slice e => do
    let sz ← tySize P e
    some (.clrs sz (← tyZ P e sz) (genX x))
  | _ => none

def genBuiltinI (P : Program) (quiet keepOld : Bool) (b : Builtin) (args : List Operand) (ts : Array TypeId) : Option AI :=
  match b, args with
  | .append, [x, y] => genAppend P quiet keepOld ts x y
  | .copy, [x, y] => genCopy P ts x y
  | .clear, [x] => genClear P ts x
  | .delete, [m, k] => do
    let (kk, _) ← mapKey P (← ts[0]?)
    some (.del kk (genX m) (genX k))
  | _, _ => none

def genCall (P : Program) (quiet keepOld : Bool) (c : Call) : Option AI :=
  match c.callee with
  | .value (.func f) => if !enterable P f then none else some (if quiet then .qcall f (c.args.toList.map genX) else .call f (c.args.toList.map genX))
  | .value (.tmp t) => some (if quiet then .qcalv (.t t) (c.args.toList.map genX) else .calv (.t t) (c.args.toList.map genX))
  | .builtin b => genBuiltinI P quiet keepOld b c.args.toList c.argTypes
  | _ => none

def genI (P : Program) (quiet keepOld : Bool) : Op → Option AI
  | .alloc t => do
    let sz ← tySize P t
    some (.alloc sz (← tyZ P t sz))
  | .box t x => do
    let sz ← tySize P t
    if sz == 0 then none else some (.box sz (genX x))
  | .buildSlice t n parts => genBsl P t n parts
  | .makeSlice t l c => genMks P t l c
  | .makeMap t r => if r.isNone then do
      let (kk, _) ← mapKey P t
      some (.mkm kk) else none
  | .convert src dst x => genS2b P src dst x
  | .store t a v => do
    let sz ← tySize P t
    if sz == 0 then none else some (.store sz (genX a) (genX v))
  | .mapUpdate t m k v => do
    let (kk, _) ← mapKey P t
    some (.mup kk (genX m) (genX k) (genX v))
  | .insert t m k v => do
    let (kk, _) ← mapKey P t
    some (.mup kk (genX m) (genX k) (genX v))
  | .mapEntry t m k => do
    let (kk, e) ← mapKey P t
    some (.ment kk (← tyZero P e) (genX m) (genX k))
  | .entryStore _ m s v => some (.est (genX m) (genX s) (genX v))
  | .range t m => do
    match ← P.underlying t with
    | .map _ _ => some (.rng (genX m))
    | _ => none
  | .next i str => if str then none else some (.nxt (genX i))
  | .binOp op t x y _ => genEqn P op t x y
  | .call c => genCall P quiet keepOld c
  | _ => none

/-! ### Which registers are read -/
def AX.uses : AX → List Nat | .t n => [n] | .c _ => []
def ous (l : List (Option AX)) : List Nat := l.flatMap fun | some x => x.uses | none => []
def QE.uses : QE → List Nat
  | .mv x | .un _ x | .conv _ x | .same x | .b2s x | .load _ x | .nilc x | .fa _ x | .fd _ _ x | .len x | .lens x | .lenm x | .cap x | .ext x _ => x.uses
  | .pick c a b => c.uses ++ a.uses ++ b.uses
  | .bin _ _ x y | .ia _ x y | .iaa _ _ x y | .ix x y | .lk _ _ x y _ | .mx x y | .mn x y => x.uses ++ y.uses
  | .build _ ps => ps.flatMap fun p => p.2.2.uses
  | .sub _ x l h m => x.uses ++ ous [l, h, m]
  | .asub _ x l h | .subs x l h => x.uses ++ ous [l, h]
  | .mkf _ caps => caps.flatMap AX.uses
def AI.uses : AI → List Nat
  | .q e => e.uses
  | .alloc .. | .mkm _ => []
  | .box _ x | .s2b x | .mark x | .clr x | .clrs _ _ x | .rng x | .nxt x | .eqn _ x => x.uses
  | .bsl _ _ _ ps => ps.flatMap fun p => p.2.uses
  | .mks _ _ _ x y | .store _ x y | .app _ _ x y | .appk _ _ x y | .appn _ _ x y | .appz _ _ _ x y | .cpy _ x y | .ment _ _ x y | .del _ x y => x.uses ++ y.uses
  | .mup _ x y z | .est x y z => x.uses ++ y.uses ++ z.uses
  | .call _ as | .qcall _ as => as.flatMap AX.uses
  | .calv f as | .qcalv f as => f.uses ++ as.flatMap AX.uses

def AOper.uses (o : AOper) : List Nat := o.i.uses ++ (match o.g with | some (t, _) => [t] | none => [])
def apartA (x y : AOper) : Bool :=
  (match x.d with
   | some d => !y.uses.contains d && y.d != some d
   | none => true) &&
  (match y.d with
   | some d => !x.uses.contains d
   | none => true)

/-- How an operation stands to memory. 0: registers alone; 1: it looks into memory, or is a quiet call; 2: it makes memory; 3: it writes. -/
def QE.look : QE → Bool
  | .load .. | .b2s _ | .lk .. | .lenm _ => true
  | _ => false
def AI.kind : AI → Nat
  | .q e => if e.look then 1 else 0
  | .qcall .. | .qcalv .. => 1
  | .alloc .. | .box .. | .bsl .. | .mks .. | .mkm _ | .appn .. => 2
  | _ => 3

/-- May the first of two operations without an order between them slide behind the second? -/
def slides (a b : AI) : Bool := a.kind == 0 || (a.kind == 1 && b.kind ≤ 2)

/-- New memory that asks for nothing. -/
def AOper.plain (o : AOper) : Bool := o.g.isNone && (match o.i with
  | .alloc .. | .mkm _ | .bsl _ _ _ [] => true
  | _ => false)

def slidesO (a b : AOper) : Bool := slides a.i b.i || (a.i.kind == 2 && b.plain)

/-- Where an operation stands in an order. -/
def posIn (r : List Nat) (i : Nat) : Nat := r.findIdx (· == i)

/-- Is a list an order of so many operations, each behind those that its edges name? -/
def isOrder (md : Region.Mode) (ops : Array Oper) (r : List Nat) : Bool :=
  r.isPerm (List.range ops.size) &&
  (List.range ops.size).all fun j => (ops.getD j default).after.all fun e => !Region.binds md e || posIn r e.on < posIn r j

/-- May an operation slide behind another? -/
def slidesAt (l : List AOper) (i j : Nat) : Bool :=
  apartA (l.getD i default) (l.getD j default) && slidesO (l.getD i default) (l.getD j default)

/-- The pairs of a region's operations that no edge orders, and what the orders must hold: both ways (true), or the one as it is written (false). -/
def clash (ops : Array Oper) (l : List AOper) : List (Nat × Nat × Bool) :=
  let b := Region.before ops
  (List.range ops.size).flatMap fun j => (List.range j).filterMap fun i =>
    if (b.getD j 0).testBit i then none
    else match slidesAt l i j, slidesAt l j i with
      | true, true => none
      | true, false => some (i, j, false)
      | false, true => some (j, i, false)
      | false, false => some (i, j, true)

/-- Is the one at or behind the other, by an edge? -/
def upTo (b : Array Nat) (x y : Nat) : Bool := x == y || (b.getD y 0).testBit x

/-- Can the one not come ahead of the other, by the edges and by what was chosen? -/
def barredBy (b : Array Nat) (cons : List (Nat × Nat)) (i j : Nat) : Bool :=
  cons.any fun p => upTo b j p.1 && (upTo b p.2 i || cons.any fun q => upTo b p.2 q.1 && upTo b q.2 i)

/-- Is there for each way in which the pairs may come an order in which they come so? -/
def covered (b : Array Nat) (cons : List (Nat × Nat)) (rs : List (List Nat)) : List (Nat × Nat × Bool) → Bool
  | [] => !rs.isEmpty
  | (i, j, true) :: c => (barredBy b cons i j || covered b ((i, j) :: cons) (rs.filter fun r => decide (posIn r i < posIn r j)) c) &&
      covered b ((j, i) :: cons) (rs.filter fun r => !decide (posIn r i < posIn r j)) c
  | (i, j, false) :: c => if barredBy b cons i j then covered b cons rs c else covered b cons (rs.filter fun r => decide (posIn r i < posIn r j)) c

def twosFirst (c : List (Nat × Nat × Bool)) : List (Nat × Nat × Bool) := c.filter (fun p => p.2.2) ++ c.filter fun p => !p.2.2

def safe (ops : Array Oper) (l : List AOper) (rs : List (List Nat)) : Bool :=
  isOrder .any ops (List.range ops.size) && rs.all (isOrder .any ops) && covered (Region.before ops) [] rs (twosFirst (clash ops l))

structure Ann where
  keep : List (Nat × List Nat)
  loud : List Nat
  old : Bool
  orders : List (Nat × List (List Nat)) := []
  gh : List Nat := []
  rk : List (List Nat × List Nat) := []
  rd : Bool := false

def Ann.keepAt (a : Ann) (id : Nat) : List Nat := ((a.keep.find? fun p => p.1 == id).map (·.2)).getD []

def Ann.ordersAt (a : Ann) (id : Nat) (n : Nat) : List (List Nat) := ((a.orders.find? fun p => p.1 == id).map (·.2)).getD [List.range n]

def genGuard (ops : Array Oper) : Option (Nat × Bool) → Option (Option (Nat × Bool))
  | none => some none
  | some (j, want) => do
    let d ← (← ops[j]?).dst
    some (some (d, want))

def genAI (P : Program) (quiet keepOld : Bool) (op : Op) : Option AI := match genQ P op with
  | some e => some (.q e)
  | none => genI P quiet keepOld op

def genOper (P : Program) (n : Nat) (quiet keepOld : Bool) (ops : Array Oper) (o : Oper) : Option AOper := do
  let g ← genGuard ops o.guard
  let i ← genAI P quiet keepOld o.op
  match o.dst with
  | some d => if d < n then some { d := some d, g, i } else none
  | none => some { d := none, g, i }

def withGh (b : Bool) (c : ACode) : ACode := if b then .seq c .gh else c

def genRegion (P : Program) (n : Nat) (ann : Ann) (id : Nat) (ops : Array Oper) (draw : Bool) : Option ACode := do
  let l ← ops.toList.mapM (genOper P n (draw && !ann.loud.contains id) ann.old ops)
  if !draw then some (withGh (ann.gh.contains id) (.rg l (ann.keepAt id))) else
    let rs := ann.ordersAt id ops.size
    if safe ops l rs then some (withGh (ann.gh.contains id) (.rgs (rs.map fun r => r.map fun i => l.getD i default) (ann.keepAt id))) else none

def genCode (P : Program) (n : Nat) (ann : Ann) : Code → Option ACode
  | .skip => some .skip
  | .region id ops draw => genRegion P n ann id ops draw
  | .seq a b => do some (.seq (← genCode P n ann a) (← genCode P n ann b))
  | .cond c a b => do some (.cond (genX c) (← genCode P n ann a) (← genCode P n ann b))
  | .block id c => do some (.block id (← genCode P n ann c))
  | .loop c => do some (.loop (← genCode P n ann c))
  | .exit id => some (.exit id)
  | .ret => some .ret
  | .rangeFunc g ps a c => do
    let ac ← genCode P n { ann with rd := true } a
    let bc ← genCode P n { ann with rd := true } c
    if ann.rd || !ps.toList.all (· < n) then none else some (.rf (((ann.rk.find? fun p => p.1 == ps.toList).map (·.2)).getD []) (genX g) ps.toList ac bc)
  | _ => none

inductive ARes where
  | tmp (t : Nat)
  | cell (t : Nat) (ag : Option Nat)
  deriving Inhabited

structure AFunc where
  n : Nat
  nparams : Nat
  res : List ARes
  body : ACode
  deriving Inhabited

def genFunc (P : Program) (ann : Ann) (fn : Func) : Option AFunc := do
  let c ← genCode P fn.ntmps { ann with rd := false } (← fn.body)
  let res ← fn.results.toList.mapM fun
    | .tmp t => some (ARes.tmp t)
    | .cell t ty => do some (ARes.cell t (← tyAgg P ty))
  if fn.name == "runtime.NumGoroutine" || fn.params.size + fn.nfree > fn.ntmps then none
  else some { n := fn.ntmps, nparams := fn.params.size + fn.nfree, res, body := c }

end Heron
end

section
namespace Heron
open Go
/-- A rule that a rewriting notes as a step of its own. -/
theorem nr {α : Sort _} {a b : α} (h : a = b) : a = b := h
section
variable {P : Program} {R : Regs} {H : AHeap} {Q : AQ} {N : Regs → AHeap → Prop} {K : AVal → AHeap → Prop}

theorem symb_skip : symb P .skip R H Q = Q .normal R H := nr rfl
theorem symb_ret : symb P .ret R H Q = Q .ret R H := nr rfl
theorem symb_exit {id : Nat} : symb P (.exit id) R H Q = Q (.exit id) R H := nr rfl
theorem symb_rg {ops : List AOper} {keep : List Nat} : symb P (.rg ops keep) R H Q = opsW P ops (regK keep Q) R H := nr rfl
theorem symb_seq {a b : ACode} : symb P (.seq a b) R H Q = symb P a R H (seqK (symb P b) Q) := nr rfl
theorem symb_cond {x : AX} {a b : ACode} : symb P (.cond x a b) R H Q = condP (x.ev R) (symb P a) (symb P b) R H Q := nr rfl
theorem symb_block {id : Nat} {c : ACode} : symb P (.block id c) R H Q = symb P c R H (blockK id Q) := nr rfl
theorem condP_some {c : Bool} {f g : Regs → AHeap → AQ → Prop} : condP (some (.raw (.bool c))) f g R H Q = ifP c f g R H Q := nr rfl
theorem ifP_true {f g : Regs → AHeap → AQ → Prop} : ifP true f g R H Q = f R H Q := nr rfl
theorem ifP_false {f g : Regs → AHeap → AQ → Prop} : ifP false f g R H Q = g R H Q := nr rfl
theorem seqK_normal {f : Regs → AHeap → AQ → Prop} : seqK f Q .normal R H = f R H Q := nr rfl
theorem seqK_ret {f : Regs → AHeap → AQ → Prop} : seqK f Q .ret R H = Q .ret R H := nr rfl
theorem seqK_exit {f : Regs → AHeap → AQ → Prop} {id : Nat} : seqK f Q (.exit id) R H = Q (.exit id) R H := nr rfl
theorem blockK_normal {id : Nat} : blockK id Q .normal R H = Q .normal R H := nr rfl
theorem blockK_ret {id : Nat} : blockK id Q .ret R H = Q .ret R H := nr rfl
theorem blockK_exit {id id' : Nat} : blockK id Q (.exit id') R H = if id' = id then Q .normal R H else Q (.exit id') R H := nr rfl
theorem loopK_normal {X : Regs → AHeap → Prop} : loopK X Q .normal R H = X R H := nr rfl
theorem loopK_ret {X : Regs → AHeap → Prop} : loopK X Q .ret R H = Q .ret R H := nr rfl
theorem loopK_exit {X : Regs → AHeap → Prop} {id : Nat} : loopK X Q (.exit id) R H = Q (.exit id) R H := nr rfl
theorem regK_eq {keep : List Nat} : regK keep Q R H = Q .normal (ofL (prune R keep)) H := nr rfl
theorem prune_nil : prune R [] = [] := nr rfl
def pruneC (o : Option AVal) (t : Nat) (r : List (Nat × AVal)) : List (Nat × AVal) := match o with | some a => (t, a) :: r | none => r
theorem prune_cons {t : Nat} {r : List Nat} : prune R (t :: r) = pruneC (R t) t (prune R r) := nr rfl
theorem pruneC_some {a : AVal} {t : Nat} {r : List (Nat × AVal)} : pruneC (some a) t r = (t, a) :: r := nr rfl
theorem pruneC_none {t : Nat} {r : List (Nat × AVal)} : pruneC none t r = r := nr rfl
theorem ofL_nil {u : Nat} : ofL [] u = none := nr rfl
theorem ofL_cons {t u : Nat} {a : AVal} {r : List (Nat × AVal)} : ofL ((t, a) :: r) u = if u = t then some a else ofL r u := nr rfl
theorem put_get {d t : Nat} {a : AVal} : R.put d a t = if t = d then some a else R t := nr rfl
theorem putO_some {d : Nat} {a : AVal} : R.putO (some d) a = R.put d a := nr rfl
theorem putO_none {a : AVal} : R.putO none a = R := nr rfl
theorem opsW_nil : opsW P [] N R H = N R H := nr rfl
theorem opsW_cons {o : AOper} {r : List AOper} : opsW P (o :: r) N R H = opW P o (opsW P r N) R H := nr rfl
theorem opW_none {d : Option Nat} {i : AI} : opW P ⟨d, none, i⟩ N R H = step P (setK d N R) R H i := nr rfl
def opG (c : Option AVal) (want : Bool) (P : Program) (d : Option Nat) (i : AI) (N : Regs → AHeap → Prop) (R : Regs) (H : AHeap) : Prop :=
  match c with
    | some (.raw (.bool c)) => if c = want then step P (setK d N R) R H i else setK d N R .junk H
    | _ => False
theorem opW_some {d : Option Nat} {t : Nat} {want : Bool} {i : AI} : opW P ⟨d, some (t, want), i⟩ N R H = opG (R t) want P d i N R H := nr rfl
theorem opG_tt {d : Option Nat} {i : AI} : opG (some (.raw (.bool true))) true P d i N R H = step P (setK d N R) R H i := nr rfl
theorem opG_ff {d : Option Nat} {i : AI} : opG (some (.raw (.bool false))) false P d i N R H = step P (setK d N R) R H i := nr rfl
theorem opG_tf {d : Option Nat} {i : AI} : opG (some (.raw (.bool true))) false P d i N R H = setK d N R .junk H := nr rfl
theorem opG_ft {d : Option Nat} {i : AI} : opG (some (.raw (.bool false))) true P d i N R H = setK d N R .junk H := nr rfl
theorem setK_eq {d : Option Nat} {v : AVal} : setK d N R v H = N (R.putO d v) H := nr rfl
theorem andV_some {v : AVal} : andV (some v) K H = K v H := nr rfl
theorem step_q {e : QE} : step P K R H (.q e) = andV (qeval R H e) K H := nr rfl
theorem ev_t {n : Nat} : AX.ev R (.t n) = R n := nr rfl
theorem ev_c {v : AVal} : AX.ev R (.c v) = some v := nr rfl
theorem q_mv {x : AX} : qeval R H (.mv x) = x.ev R := nr rfl
def pickV (c a b : Option AVal) : Option AVal := match c with
    | some (.raw (.bool true)) => a
    | some (.raw (.bool false)) => b
    | _ => none
theorem q_pick {c a b : AX} : qeval R H (.pick c a b) = pickV (c.ev R) (a.ev R) (b.ev R) := nr rfl
theorem pickV_t {a b : Option AVal} : pickV (some (.raw (.bool true))) a b = a := nr rfl
theorem pickV_f {a b : Option AVal} : pickV (some (.raw (.bool false))) a b = b := nr rfl
theorem q_un {op : UnOp} {x : AX} : qeval R H (.un op x) = (x.ev R).bind (aun op) := nr rfl
def bin2 (op : BinOp) (k : EqK) (a b : Option AVal) : Option AVal := a.bind fun a => b.bind fun c => abin op k a c
theorem q_bin {op : BinOp} {k : EqK} {x y : AX} : qeval R H (.bin op k x y) = bin2 op k (x.ev R) (y.ev R) := nr rfl
theorem bin2_some {op : BinOp} {k : EqK} {a b : AVal} : bin2 op k (some a) (some b) = abin op k a b := nr rfl
theorem q_len {x : AX} : qeval R H (.len x) = (x.ev R).bind fun a => (aLen a).map .i := nr rfl
theorem q_load {ag : Option Nat} {x : AX} : qeval R H (.load ag x) = (x.ev R).bind (aLoad H ag) := nr rfl
theorem q_fa {off : Nat} {x : AX} : qeval R H (.fa off x) = (x.ev R).bind (aAddr off) := nr rfl
def ia2 (sz : Nat) (x i : Option AVal) : Option AVal := x.bind fun a => (i.bind aInt).bind fun i => aIndex sz a i
theorem q_ia {sz : Nat} {x i : AX} : qeval R H (.ia sz x i) = ia2 sz (x.ev R) (i.ev R) := nr rfl
theorem ia2_ro {sz : Nat} {es : List AVal} {k : IntKind} {n : Int} : ia2 sz (some (.ro sz es)) (some (.raw (.int k n))) = if 0 ≤ n then (es[n.toNat]?).map fun e => .rp e 0 else none := by simp [ia2, aInt, aIndex]
theorem lss_i {k : EqK} {x y : Int} : abin .lss k (.raw (.int .i64 x)) (.raw (.int .i64 y)) = some (.b (decide (x < y))) := nr rfl
theorem gtr_i {k : EqK} {x y : Int} : abin .gtr k (.raw (.int .i64 x)) (.raw (.int .i64 y)) = some (.b (decide (x > y))) := nr rfl
theorem add_i {k : EqK} {x y : Int} : abin .add k (.raw (.int .i64 x)) (.raw (.int .i64 y)) = some (.i (IntKind.i64.wrap (x + y))) := nr rfl
theorem len_ro {sz : Nat} {es : List AVal} : aLen (.ro sz es) = some (es.length : Int) := nr rfl
theorem addr_rp {off col : Nat} {e : AVal} : aAddr off (.rp e col) = some (.rp e (col + off)) := nr rfl
theorem load_rp {col : Nat} {e : AVal} : aLoad H none (.rp e col) = e.cells[col]? := nr rfl
theorem load_rpa {col n : Nat} {e : AVal} : aLoad H (some n) (.rp e col) = subCells e e.cells.length col (some n) := nr rfl
@[congr] theorem symb_congr {c : ACode} : symb P c R H Q = symb P c R H Q := rfl
@[congr] theorem loopC_congr {c : ACode} {R' : Regs} (h : R = R') : loopC P c Q R H = loopC P c Q R' H := by rw [h]
@[congr] theorem opsW_congr {l : List AOper} : opsW P l N R H = opsW P l N R H := rfl
@[congr] theorem opW_congr {o : AOper} : opW P o N R H = opW P o N R H := rfl
@[congr] theorem stepW_congr {i : AI} : step P K R H i = step P K R H i := rfl
@[congr] theorem setK_congr {d : Option Nat} {v : AVal} : setK d N R v H = setK d N R v H := rfl
@[congr] theorem regK_congr {keep : List Nat} : regK keep Q R H = regK keep Q R H := rfl
@[congr] theorem seqK_congr {f : Regs → AHeap → AQ → Prop} {e : AExit} : seqK f Q e R H = seqK f Q e R H := rfl
@[congr] theorem blockK_congr {id : Nat} {e : AExit} : blockK id Q e R H = blockK id Q e R H := rfl
@[congr] theorem loopK_congr {X : Regs → AHeap → Prop} {e : AExit} : loopK X Q e R H = loopK X Q e R H := rfl
@[congr] theorem andV_congr {o o' : Option AVal} (h : o = o') : andV o K H = andV o' K H := by rw [h]
@[congr] theorem condP_congr {o o' : Option AVal} {f g : Regs → AHeap → AQ → Prop} (h : o = o') : condP o f g R H Q = condP o' f g R H Q := by rw [h]
@[congr] theorem ifP_congr {c c' : Bool} {f g : Regs → AHeap → AQ → Prop} (h : c = c') : ifP c f g R H Q = ifP c' f g R H Q := by rw [h]
@[congr] theorem opG_congr {c c' : Option AVal} {want : Bool} {d : Option Nat} {i : AI} (h : c = c') : opG c want P d i N R H = opG c' want P d i N R H := by rw [h]
end

theorem wrap_nat {n : Int} (h0 : -(2 ^ 63) ≤ n) (h1 : n < 2 ^ 63) : IntKind.i64.wrap n = n := by
  have hb : IntKind.i64.bits = 64 := rfl
  have hs : IntKind.i64.signed = true := rfl
  simp only [IntKind.wrap, hb, hs, Bool.true_and, decide_eq_true_eq]
  split <;> omega
end Heron
end
