/- Abstract values, a partial heap, a digested code tree and its symbolic executor. Instructions, the symbolic executor, its monotonicity and the rule of a loop. -/
import Derived.Calls
import Derived.Orders
import Derived.RangeFuncSeq
section
namespace Heron
open Go

/-- Abstract values: what is known of a value. -/
inductive AVal where
  | raw (v : Value)
  | ptr (b sz row col : Nat)
  | sl (b sz row len cap : Nat)
  | sc (b sz row col len cap : Nat)
  | ro (sz : Nat) (es : List AVal)
  | rp (e : AVal) (col : Nat)
  | agg (cs : List AVal)
  | tup (vs : List AVal)
  | fn (f : FuncId) (cap : List AVal)
  | mp (b : Nat)
  | it (b : Nat)
  | yd (l : Nat)
  | z
  | junk
  deriving Inhabited

abbrev AVal.i (n : Int) : AVal := .raw (.int .i64 n)
abbrev AVal.u (n : Int) : AVal := .raw (.int .u8 n)
abbrev AVal.b (c : Bool) : AVal := .raw (.bool c)
abbrev AVal.nil : AVal := .raw (.slice none 0 0)

def AVal.cells : AVal → List AVal
  | .agg cs => cs
  | .raw (.agg vs) => vs.toList.map .raw
  | v => [v]

def AVal.flat : AVal → Bool
  | .agg _ => false
  | .raw (.agg _) => false
  | _ => true

def AVal.toAgg (a : AVal) : AVal := .agg a.cells

def AVal.ofValue : Value → AVal
  | .agg cs => .agg (cs.toList.map .raw)
  | v => .raw v

/-- May a value stand in one cell? -/
def AVal.cellOk : AVal → Bool
  | .agg _ => false
  | .tup _ => false
  | .junk => false
  | .raw (.agg _) => false
  | .raw (.tuple _) => false
  | _ => true

/-- What a map's keys are. -/
inductive KK where
  | int (k : IntKind)
  | bool
  | ints (n : Nat)
  deriving Inhabited, DecidableEq

structure AEnt where
  key : Value
  val : AVal
  born : Nat

/-- Abstract objects. -/
inductive AObj where
  | rows (sz : Nat) (es : List AVal)
  | map (kk : KK) (es : List AEnt) (clock : Nat)
  | iter (m : Nat) (since : Nat) (seen : List Nat) (stepped : Nat)
  | loop (r : Loop) (R : List (Nat × AVal))

abbrev AHeap := Nat → Option AObj
def AHeap.set (H : AHeap) (b : Nat) (o : AObj) : AHeap := fun c => if c = b then some o else H c
def AHeap.del (H : AHeap) (b : Nat) : AHeap := fun c => if c = b then none else H c

abbrev Regs := Nat → Option AVal
def Regs.put (R : Regs) (d : Nat) (a : AVal) : Regs := fun t => if t = d then some a else R t
def ofL : List (Nat × AVal) → Regs
  | [] => fun _ => none
  | (t, a) :: r => fun u => if u = t then some a else ofL r u
def prune (R : Regs) : List Nat → List (Nat × AVal)
  | [] => []
  | t :: r => match R t with
    | some a => (t, a) :: prune R r
    | none => prune R r

inductive AX where
  | t (n : Nat)
  | c (v : AVal)
  deriving Inhabited

def AX.ev (R : Regs) : AX → Option AVal
  | .t n => R n
  | .c v => some v

def evs (R : Regs) : List AX → Option (List AVal)
  | [] => some []
  | x :: r => match x.ev R, evs R r with
    | some a, some l => some (a :: l)
    | _, _ => none

/-- How the equality of a type is asked: a whole number, a bool, a string, so many whole numbers one behind the other. -/
inductive EqK where
  | prim
  | bool
  | slice
  | ptrnil
  | func
  | ints (n : Nat)
  | none
  deriving Inhabited

/-- Quiet operations: they compute a value, and leave memory alone. -/
inductive QE where
  | mv (x : AX)
  | pick (c a b : AX)
  | un (op : UnOp) (x : AX)
  | bin (op : BinOp) (k : EqK) (x y : AX)
  | conv (k : IntKind) (x : AX)
  | same (x : AX)
  | b2s (x : AX)
  | build (zero : List AVal) (parts : List (Nat × Nat × AX))
  | load (ag : Option Nat) (x : AX)
  | nilc (x : AX)
  | sub (sz : Nat) (x : AX) (lo hi mx : Option AX)
  | subs (x : AX) (lo hi : Option AX)
  | asub (n : Nat) (x : AX) (lo hi : Option AX)
  | fa (off : Nat) (x : AX)
  | fd (off : Nat) (ag : Option Nat) (x : AX)
  | ia (sz : Nat) (x i : AX)
  | iaa (n sz : Nat) (x i : AX)
  | ix (x i : AX)
  | lk (kk : KK) (zero : AVal) (x k : AX) (ok : Bool)
  | len (x : AX)
  | lens (x : AX)
  | lenm (x : AX)
  | cap (x : AX)
  | ext (x : AX) (i : Nat)
  | mkf (f : FuncId) (cap : List AX)
  | mx (x y : AX)
  | mn (x y : AX)
  deriving Inhabited

def aInt : AVal → Option Int
  | .raw (.int _ n) => some n
  | _ => none

def subCells (e : AVal) (sz col : Nat) : Option Nat → Option AVal
  | none => e.cells[col]?
  | some n => if col = 0 ∧ n = sz then some e.toAgg else if col + n ≤ e.cells.length then some (.agg ((e.cells.drop col).take n)) else none

def aLoad (H : AHeap) (ag : Option Nat) : AVal → Option AVal
  | .ptr b sz row col => match H b with
    | some (.rows sz' es) => if sz = sz' then (es[row]?).bind fun e => subCells e sz col ag else none
    | _ => none
  | .rp e col => subCells e e.cells.length col ag
  | _ => none

/-- The elements of a slice (of elements of so many cells). -/
def aElems (H : AHeap) (sz : Nat) : AVal → Option (List AVal)
  | .raw (.slice none 0 _) => some []
  | .z => some []
  | .ro sz' es => if sz = sz' then some es else none
  | .sl b sz' row len _ => match H b with
    | some (.rows sz'' es) => if sz = sz' ∧ sz = sz'' ∧ row + len ≤ es.length then some ((es.drop row).take len) else none
    | _ => none
  | .sc b sz' row col len _ => match H b with
    | some (.rows sz'' es) => if sz = 1 ∧ sz' = sz'' then (es[row]?).bind fun e => if col + len ≤ e.cells.length ∧ ((e.cells.drop col).take len).all AVal.flat = true then some ((e.cells.drop col).take len) else none else none
    | _ => none
  | .raw (.string s) => if sz = 1 then some (s.data.toList.map fun c => .raw (.int .u8 c.toNat)) else none
  | _ => none

def isStr : AVal → Bool
  | .raw (.string _) => true
  | _ => false

def byteOf : AVal → Option UInt8
  | .raw (.int .u8 n) => some (UInt8.ofNat n.toNat)
  | _ => none

def bytesOf : List AVal → Option (List UInt8)
  | [] => some []
  | e :: r => match byteOf e, bytesOf r with
    | some c, some l => some (c :: l)
    | _, _ => none

def ibin (op : BinOp) (k : IntKind) (x y : Int) : Option AVal :=
  match op with
  | .add => some (.raw (.int k (k.wrap (x + y))))
  | .sub => some (.raw (.int k (k.wrap (x - y))))
  | .mul => some (.raw (.int k (k.wrap (x * y))))
  | .quo => if y = 0 then none else some (.raw (.int k (k.wrap (x.tdiv y))))
  | .rem => if y = 0 then none else some (.raw (.int k (x.tmod y)))
  | .and => some (.raw (.int k (k.wrap (BitVec.ofInt k.bits x &&& BitVec.ofInt k.bits y).toNat)))
  | .or => some (.raw (.int k (k.wrap (BitVec.ofInt k.bits x ||| BitVec.ofInt k.bits y).toNat)))
  | .xor => some (.raw (.int k (k.wrap (BitVec.ofInt k.bits x ^^^ BitVec.ofInt k.bits y).toNat)))
  | .andNot => some (.raw (.int k (k.wrap (BitVec.ofInt k.bits x &&& ~~~ BitVec.ofInt k.bits y).toNat)))
  | .eql => some (.b (x == y))
  | .neq => some (.b (x != y))
  | .lss => some (.b (decide (x < y)))
  | .leq => some (.b (decide (x ≤ y)))
  | .gtr => some (.b (decide (x > y)))
  | .geq => some (.b (decide (x ≥ y)))
  | _ => none

def ishift (op : BinOp) (k : IntKind) (x y : Int) : Option AVal :=
  if y < 0 then none
  else match op with
    | .shl => some (.raw (.int k (k.wrap (x * 2 ^ min y.toNat k.bits))))
    | .shr => some (.raw (.int k (x.fdiv (2 ^ min y.toNat k.bits))))
    | _ => none

def isShift : BinOp → Bool
  | .shl | .shr => true
  | _ => false

/-- The whole numbers of an aggregate. -/
def i64s : List AVal → Option (List Int)
  | [] => some []
  | .raw (.int .i64 n) :: r => (i64s r).map (n :: ·)
  | _ => none

def isNilP : AVal → Option Bool
  | .raw (.pointer a) => some a.isNone
  | .ptr .. => some false
  | .rp .. => some false
  | _ => none

def isNilF : AVal → Option Bool
  | .raw .nilFunc => some true
  | .fn .. => some false
  | .yd _ => some false
  | _ => none

def isNil : AVal → Option Bool
  | .raw (.slice a _ _) => some a.isNone
  | .sl .. => some false
  | .sc .. => some false
  | .ro _ (_ :: _) => some false
  | _ => none

/-- Are two the same, of which one is nil? -/
def nilEq (op : BinOp) : Option Bool → Option Bool → Option AVal
  | some p, some q => if p || q then (match op with
    | .eql => some (.b (p && q))
    | .neq => some (.b !(p && q))
    | _ => none) else none
  | _, _ => none

def intsEq (op : BinOp) (n : Nat) : Option (List Int) → Option (List Int) → Option AVal
  | some l, some m => if l.length = n ∧ m.length = n then (match op with
    | .eql => some (.b (l == m))
    | .neq => some (.b (!(l == m)))
    | _ => none) else none
  | _, _ => none

def abin (op : BinOp) (k : EqK) : AVal → AVal → Option AVal
  | .raw (.int j x), .raw (.int j' y) => if isShift op then ishift op j x y else if j = j' then ibin op j x y else none
  | .raw (.bool x), .raw (.bool y) => match k, op with
    | .bool, .eql => some (.b (x == y))
    | .bool, .neq => some (.b (x != y))
    | _, _ => none
  | .raw (.string x), .raw (.string y) => match op with
    | .eql => some (.b (x.toList == y.toList))
    | .neq => some (.b (!(x.toList == y.toList)))
    | .add => if ((x.size + y.size : Nat) : Int) > IntKind.i64.max then none else some (.raw (.string (x ++ y)))
    | _ => none
  | x, y => match k with
    | .ints n => match x, y with
      | .agg cs, .agg ds => intsEq op n (i64s cs) (i64s ds)
      | _, _ => none
    | .ptrnil => nilEq op (isNilP x) (isNilP y)
    | .func => nilEq op (isNilF x) (isNilF y)
    | _ => none

def aun (op : UnOp) : AVal → Option AVal
  | .raw (.bool c) => match op with
    | .not => some (.b !c)
    | _ => none
  | .raw (.int k n) => match op with
    | .neg => some (.raw (.int k (k.wrap (0 - n))))
    | _ => none
  | _ => none

def aSub (l h m : Int) : AVal → Option AVal
  | .sl b sz row _ cap => if 0 ≤ l ∧ l ≤ h ∧ h ≤ m ∧ m ≤ cap then some (.sl b sz (row + l.toNat) (h - l).toNat (m - l).toNat) else none
  | .sc b sz row col _ cap => if 0 ≤ l ∧ l ≤ h ∧ h ≤ m ∧ m ≤ cap then some (.sc b sz row (col + l.toNat) (h - l).toNat (m - l).toNat) else none
  | _ => none

def aLen : AVal → Option Int
  | .raw (.slice _ n _) => some n
  | .sl _ _ _ n _ => some n
  | .sc _ _ _ _ n _ => some n
  | .ro _ es => some es.length
  | .z => some 0
  | _ => none

def aLens : AVal → Option Int
  | .raw (.string s) => some s.size
  | _ => none

def aLenm (H : AHeap) : AVal → Option Int
  | .raw (.map none) => some 0
  | .mp b => match H b with
    | some (.map _ es _) => some es.length
    | _ => none
  | _ => none

def aCap : AVal → Option Int
  | .raw (.slice _ _ c) => some c
  | .sl _ _ _ _ c => some c
  | .sc _ _ _ _ _ c => some c
  | .z => some 0
  | _ => none

/-- A slice's or a string's part. -/
def qSub (sz : Nat) (x : AVal) (lo hi mx : Option Int) : Option AVal :=
  match x with
  | .ro sz' es => if sz = sz' then
      (match mx with
      | none => if 0 ≤ lo.getD 0 ∧ lo.getD 0 ≤ hi.getD es.length ∧ hi.getD es.length ≤ es.length then some (.ro sz ((es.take (hi.getD es.length).toNat).drop (lo.getD 0).toNat)) else none
      | some m => if lo.getD 0 = 0 ∧ hi.getD es.length = 0 ∧ m = 0 then some .z else none) else none
  | .sl b sz' row len cap => if sz = sz' then aSub (lo.getD 0) (hi.getD len) (mx.getD cap) (.sl b sz' row len cap) else none
  | .sc b sz' row col len cap => if sz = 1 then aSub (lo.getD 0) (hi.getD len) (mx.getD cap) (.sc b sz' row col len cap) else none
  | .raw (.slice none 0 0) => if lo.getD 0 = 0 ∧ hi.getD 0 = 0 ∧ mx.getD 0 = 0 then some (.raw (.slice none 0 0)) else none
  | .z => if lo.getD 0 = 0 ∧ hi.getD 0 = 0 ∧ mx.getD 0 = 0 then some .z else none
  | _ => none

/-- A string's part. -/
def qSubs (x : AVal) (lo hi : Option Int) : Option AVal :=
  match x with
  | .raw (.string s) =>
      if 0 ≤ lo.getD 0 ∧ lo.getD 0 ≤ hi.getD s.size ∧ hi.getD s.size ≤ s.size then some (.raw (.string (s.extract (lo.getD 0).toNat (hi.getD s.size).toNat))) else none
  | _ => none

/-- The value of a bound, if it stands there. -/
def evB (R : Regs) : Option AX → Option (Option Int)
  | none => some none
  | some x => ((x.ev R).bind aInt).map some

def aField (off : Nat) (ag : Option Nat) : AVal → Option AVal
  | .agg cs => match ag with
    | none => cs[off]?
    | some n => if off + n ≤ cs.length then some (.agg ((cs.drop off).take n)) else none
  | _ => none

def aAddr (off : Nat) : AVal → Option AVal
  | .ptr b sz row col => some (.ptr b sz row (col + off))
  | .rp e col => some (.rp e (col + off))
  | _ => none

def aIndex (sz : Nat) : AVal → Int → Option AVal
  | .sl b sz' row len _, i => if sz = sz' ∧ 0 ≤ i ∧ i < len then some (.ptr b sz (row + i.toNat) 0) else none
  | .sc b sz' row col len _, i => if sz = 1 ∧ 0 ≤ i ∧ i < len then some (.ptr b sz' row (col + i.toNat)) else none
  | .ro sz' es, i => if sz = sz' ∧ 0 ≤ i then (es[i.toNat]?).map fun e => .rp e 0 else none
  | _, _ => none

def setAt (cs : List AVal) (off : Nat) (vs : List AVal) : List AVal := cs.take off ++ vs ++ cs.drop (off + vs.length)

def fillA (cs : List AVal) : List (Nat × Nat × Option AVal) → Option (List AVal)
  | [] => some cs
  | (off, n, some v) :: r => if v.cells.length = n ∧ off + n ≤ cs.length then fillA (setAt cs off v.cells) r else none
  | (_, _, none) :: _ => none

/-- A key as a value. -/
def keyOf : KK → AVal → Option Value
  | .int k, .raw (.int k' n) => if k = k' then some (.int k n) else none
  | .bool, .raw (.bool c) => some (.bool c)
  | .ints n, .agg cs => (i64s cs).bind fun l => if l.length = n then some (.agg (l.map (Value.int .i64)).toArray) else none
  | _, _ => none

def ints? : List Value → Option (List Int)
  | [] => some []
  | .int .i64 n :: r => (ints? r).map (n :: ·)
  | _ => none

def keyEq : Value → Value → Bool
  | .int k a, .int k' c => decide (k = k') && decide (a = c)
  | .bool a, .bool c => a == c
  | .agg a, .agg c => match ints? a.toList, ints? c.toList with
    | some l, some m => l == m
    | _, _ => false
  | _, _ => false

def mFind (k : Value) : List AEnt → Option AVal
  | [] => none
  | e :: r => if keyEq k e.key then some e.val else mFind k r

def aEnts (H : AHeap) (kk : KK) : AVal → Option (List AEnt)
  | .raw (.map none) => some []
  | .mp b => match H b with
    | some (.map kk' es _) => if kk = kk' then some es else none
    | _ => none
  | _ => none

def aMax (g : Bool) : AVal → AVal → Option AVal
  | .raw (.int k x), .raw (.int j y) => if k = j then some (.raw (.int k (if g then (if y > x then y else x) else (if y < x then y else x)))) else none
  | _, _ => none

def qeval (R : Regs) (H : AHeap) : QE → Option AVal
  | .mv x => x.ev R
  | .pick c a b => match c.ev R with
    | some (.raw (.bool true)) => a.ev R
    | some (.raw (.bool false)) => b.ev R
    | _ => none
  | .un op x => (x.ev R).bind (aun op)
  | .bin op k x y => (x.ev R).bind fun a => (y.ev R).bind fun c => abin op k a c
  | .conv k x => match x.ev R with
    | some (.raw (.int _ n)) => some (.raw (.int k (k.wrap n)))
    | _ => none
  | .same x => match x.ev R with
    | some (.raw (.string s)) => some (.raw (.string s))
    | _ => none
  | .b2s x => (x.ev R).bind fun a => if isStr a then none else (aElems H 1 a).bind fun es => (bytesOf es).map fun l => .raw (.string ⟨l.toArray⟩)
  | .build zero parts => (fillA zero (parts.map fun p => (p.1, p.2.1, p.2.2.ev R))).map .agg
  | .load ag x => (x.ev R).bind (aLoad H ag)
  | .nilc x => match x.ev R with
    | some (.ptr b sz row col) => some (.ptr b sz row col)
    | some (.rp e col) => some (.rp e col)
    | some (.fn f cap) => some (.fn f cap)
    | _ => none
  | .sub sz x lo hi mx => if mx.isSome && hi.isNone then none else
      (x.ev R).bind fun a => (evB R lo).bind fun l => (evB R hi).bind fun h => (evB R mx).bind fun m => qSub sz a l h m
  | .subs x lo hi => (x.ev R).bind fun a => (evB R lo).bind fun l => (evB R hi).bind fun h => qSubs a l h
  | .asub n x lo hi => match x.ev R with
    | some (.ptr b sz row col) => (evB R lo).bind fun l => (evB R hi).bind fun h =>
        if 0 ≤ l.getD 0 ∧ l.getD 0 ≤ h.getD n ∧ h.getD n ≤ n then some (.sc b sz row (col + (l.getD 0).toNat) (h.getD n - l.getD 0).toNat (n - (l.getD 0).toNat)) else none
    | _ => none
  | .fa off x => (x.ev R).bind (aAddr off)
  | .fd off ag x => (x.ev R).bind (aField off ag)
  | .ia sz x i => (x.ev R).bind fun a => ((i.ev R).bind aInt).bind fun i => aIndex sz a i
  | .iaa n sz x i => (x.ev R).bind fun a => ((i.ev R).bind aInt).bind fun i => if 0 ≤ i ∧ i < n then aAddr (i.toNat * sz) a else none
  | .ix x i => match x.ev R, (i.ev R).bind aInt with
    | some (.raw (.string s)), some i => if 0 ≤ i then (s.data[i.toNat]?).map fun c => .raw (.int .u8 c.toNat) else none
    | _, _ => none
  | .lk kk zero x k ok => (x.ev R).bind fun a => (k.ev R).bind fun k => (keyOf kk k).bind fun k => (aEnts H kk a).map fun es =>
      if ok then .tup [(mFind k es).getD zero, .b (mFind k es).isSome] else (mFind k es).getD zero
  | .len x => (x.ev R).bind fun a => (aLen a).map .i
  | .lens x => (x.ev R).bind fun a => (aLens a).map .i
  | .lenm x => (x.ev R).bind fun a => (aLenm H a).map .i
  | .cap x => (x.ev R).bind fun a => (aCap a).map .i
  | .ext x i => match x.ev R with
    | some (.tup vs) => vs[i]?
    | _ => none
  | .mkf f cap => (evs R cap).map (.fn f)
  | .mx x y => (x.ev R).bind fun a => (y.ev R).bind fun c => aMax true a c
  | .mn x y => (x.ev R).bind fun a => (y.ev R).bind fun c => aMax false a c

end Heron
end

section
namespace Heron
open Go

/-- The persistent part of what is known of memory: blocks that nobody writes any more, and the sizes of rows of cells. -/
structure Ghost where
  fz : Nat → Option Obj
  sh : Nat → Option Nat

def Ghost.le (G G' : Ghost) : Prop := (∀ b o, G.fz b = some o → G'.fz b = some o) ∧ (∀ b n, G.sh b = some n → G'.sh b = some n)

def Ghost.cell (G : Ghost) (b off : Nat) : Option Value :=
  match G.fz b with
  | some (.cells c _ _) => c[off]?
  | _ => none

def cellAt (es : List AVal) (i j : Nat) : Option AVal := (es[i]?).bind fun e => e.cells[j]?

inductive VRel (G : Ghost) : AVal → Value → Prop
  | raw (v : Value) : VRel G (.raw v) v
  | ptr (b sz row col : Nat) : VRel G (.ptr b sz row col) (.pointer (some ⟨b, row * sz + col, none⟩))
  | sl (b sz row len cap off n : Nat) (hl : len ≤ cap) (ho : cap ≠ 0 → off = row * sz) (hs : G.sh b = some n) (hn : (row + cap) * sz ≤ n) :
      VRel G (.sl b sz row len cap) (.slice (some ⟨b, off, none⟩) len cap)
  | sc (b sz row col len cap off : Nat) (hl : len ≤ cap) (ho : cap ≠ 0 → off = row * sz + col) :
      VRel G (.sc b sz row col len cap) (.slice (some ⟨b, off, none⟩) len cap)
  | ro (sz : Nat) (es : List AVal) (a : Option Addr) (cap : Nat) (hl : es.length ≤ cap) (hsz : ∀ e, e ∈ es → e.cells.length = sz)
      (ha : es ≠ [] → ∃ b off, a = some ⟨b, off, none⟩)
      (he : ∀ b off, a = some ⟨b, off, none⟩ → ∀ i j c, cellAt es i j = some c → (G.cell b (off + i * sz + j)).isSome)
      (h : ∀ b off, a = some ⟨b, off, none⟩ → ∀ i j c v, cellAt es i j = some c → G.cell b (off + i * sz + j) = some v → VRel G c v) :
      VRel G (.ro sz es) (.slice a es.length cap)
  | rp (e : AVal) (col b off : Nat)
      (he : ∀ (j : Nat) (c : AVal), e.cells[j]? = some c → (G.cell b (off + j)).isSome)
      (h : ∀ (j : Nat) (c : AVal) (v : Value), e.cells[j]? = some c → G.cell b (off + j) = some v → VRel G c v) :
      VRel G (.rp e col) (.pointer (some ⟨b, off + col, none⟩))
  | agg (cs : List AVal) (vs : Array Value) (hn : vs.size = cs.length) (h : ∀ (i : Nat) (c : AVal) (v : Value), cs[i]? = some c → vs[i]? = some v → VRel G c v) : VRel G (.agg cs) (.agg vs)
  | tup (cs : List AVal) (vs : Array Value) (hn : vs.size = cs.length) (h : ∀ (i : Nat) (c : AVal) (v : Value), cs[i]? = some c → vs[i]? = some v → VRel G c v) : VRel G (.tup cs) (.tuple vs)
  | fn (f : FuncId) (cs : List AVal) (vs : Array Value) (hn : vs.size = cs.length) (h : ∀ (i : Nat) (c : AVal) (v : Value), cs[i]? = some c → vs[i]? = some v → VRel G c v) :
      VRel G (.fn f cs) (.func (.func f) #[] vs)
  | mp (b : Nat) : VRel G (.mp b) (.map (some b))
  | it (b : Nat) : VRel G (.it b) (.pointer (some ⟨b, 0, none⟩))
  | yd (l : Nat) : VRel G (.yd l) (.func (.yield l) #[] #[])
  | z (a : Option Addr) : VRel G .z (.slice a 0 0)
  | junk (v : Value) (hv : v.cells = #[v]) : VRel G .junk v

def VRels (G : Ghost) (cs : List AVal) (vs : List Value) : Prop := vs.length = cs.length ∧ ∀ (i : Nat) (c : AVal) (v : Value), cs[i]? = some c → vs[i]? = some v → VRel G c v

/-- Is a value a key of a kind? -/
def keyFit : KK → Value → Prop
  | .int k, v => ∃ n, v = .int k n
  | .bool, v => ∃ c, v = .bool c
  | .ints n, v => ∃ l : List Int, l.length = n ∧ v = .agg (l.map (Value.int .i64)).toArray

inductive ORel (G : Ghost) (b : Nat) : AObj → Obj → Prop
  | rows (sz : Nat) (es : List AVal) (arr : Array Value) (T lo hi : Nat) (hsz : ∀ e, e ∈ es → e.cells.length = sz) (hn : es.length * sz ≤ arr.size)
      (h : ∀ (i j : Nat) (c : AVal) (v : Value), cellAt es i j = some c → arr[i * sz + j]? = some v → VRel G c v)
      (hf : ∀ k, k < arr.size → ¬ (lo ≤ k ∧ k < hi)) (hs : G.sh b = some arr.size) : ORel G b (.rows sz es) (.cells arr T (lo, hi))
  | map (kk : KK) (es : List AEnt) (clock : Nat) (arr : Array MapEntry) (hn : arr.size = es.length) (hf : ∀ e, e ∈ es → keyFit kk e.key)
      (hk : ∀ (i : Nat) (e : AEnt) (m : MapEntry), es[i]? = some e → arr[i]? = some m → e.key = m.key ∧ e.born = m.born ∧ VRel G e.val m.val) : ORel G b (.map kk es clock) (.map arr clock)
  | iter (m since : Nat) (seen : List Nat) (stepped : Nat) : ORel G b (.iter m since seen stepped) (.mapIter (some m) since seen.toArray stepped)
  | loop (r : Loop) (R : List (Nat × AVal)) (h : ∀ t a, ofL R t = some a → ∃ v, r.tmps[t]? = some v ∧ VRel G a v) : ORel G b (.loop r R) (.loop r)

/-- The machine's own: a loop's record, deferred calls. -/
def oddO : Obj → Bool
  | .loop _ => true
  | .deferred _ => true
  | _ => false

structure St (G : Ghost) (H : AHeap) (w : World) : Prop where
  fz : ∀ b o, G.fz b = some o → w.heap[b]? = some o
  sh : ∀ b n, G.sh b = some n → ∃ arr T f, w.heap[b]? = some (.cells arr T f) ∧ arr.size = n
  own : ∀ b o, H b = some o → ∃ ob, w.heap[b]? = some ob ∧ ORel G b o ob
  disj : ∀ b, H b ≠ none → G.fz b = none
  nl : ∀ b o, G.fz b = some o → oddO o = false

/-- What is known of the slots. -/
def RRel (G : Ghost) (R : Regs) (tmps : Array Value) : Prop := ∀ t a, R t = some a → ∃ v, tmps[t]? = some v ∧ VRel G a v

/-- What is known is said otherwise, or less of it is said: nothing runs. -/
def Gh (R : Regs) (H : AHeap) (R' : Regs) (H' : AHeap) : Prop :=
  (∀ b, H' b ≠ none → H b ≠ none) ∧ ∀ (G : Ghost) (w : World) (tmps : Array Value), St G H w → RRel G R tmps → ∃ G', G.le G' ∧ St G' H' w ∧ RRel G' R' tmps

def ghP (N : Regs → AHeap → Prop) (R : Regs) (H : AHeap) : Prop := ∃ R' H', Gh R H R' H' ∧ N R' H'

structure Fr (H : AHeap) (w : World) (H' : AHeap) (w' : World) : Prop where
  os : w'.os = w.os
  tape : w'.tape = w.tape
  output : w'.output = w.output
  size : w.heap.size ≤ w'.heap.size
  keep : ∀ b, b < w.heap.size → H b = none → w'.heap[b]? = w.heap[b]?
  dom : ∀ b, H' b ≠ none → b < w.heap.size → H b ≠ none

/-- What holds behind a call: it has returned a value of which so much is known. -/
def Post (H : AHeap) (w : World) (G : Ghost) (K : AVal → AHeap → Prop) (e : Ending) (w' : World) : Prop :=
  ∃ cv G' v H', e = .returned cv ∧ G.le G' ∧ St G' H' w' ∧ VRel G' v cv ∧ Fr H w H' w' ∧ K v H'

def callP (P : Program) (f : FuncId) (args : List AVal) (H : AHeap) (K : AVal → AHeap → Prop) : Prop :=
  ∀ G w vs, St G H w → VRels G args vs → Calls P f vs.toArray w (Post H w G K)

/-- A round, asked for by the function that is ranged over. -/
def yieldP (P : Program) (l : Nat) (args : List AVal) (H : AHeap) (K : AVal → AHeap → Prop) : Prop :=
  ∀ G w vs, St G H w → VRels G args vs → YieldAt Fence.wide 0 P l vs.toArray w (Post H w G K)

theorem callP_mono {P : Program} {f : FuncId} {args : List AVal} {H : AHeap} {K K' : AVal → AHeap → Prop} (h : callP P f args H K) (hk : ∀ v H', K v H' → K' v H') : callP P f args H K' :=
  fun G w vs hs hv => (h G w vs hs hv).mono fun _ _ ⟨cv, G', v, H', a, b, c, d, e, k⟩ => ⟨cv, G', v, H', a, b, c, d, e, hk _ _ k⟩

theorem yieldAt_mono {F : Fence} {m : Nat} {P : Program} {l : Nat} {args : Array Value} {W : World} {R R' : Ending → World → Prop} (h : YieldAt F m P l args W R) (hr : ∀ e w, R e w → R' e w) : YieldAt F m P l args W R' :=
  let ⟨fn, t, a, b, h1, h2⟩ := h
  ⟨fn, t, a, b, h1, h2.mono hr⟩

theorem yieldP_mono {P : Program} {l : Nat} {args : List AVal} {H : AHeap} {K K' : AVal → AHeap → Prop} (h : yieldP P l args H K) (hk : ∀ v H', K v H' → K' v H') : yieldP P l args H K' :=
  fun G w vs hs hv => yieldAt_mono (h G w vs hs hv) fun _ _ ⟨cv, G', v, H', a, b, c, d, e, k⟩ => ⟨cv, G', v, H', a, b, c, d, e, hk _ _ k⟩

def AHeap.le (H H' : AHeap) : Prop := ∀ b o, H b = some o → H' b = some o

/-- A call that leaves memory alone. -/
def QCall (P : Program) (f : FuncId) (args : List AVal) (H : AHeap) (v : AVal) : Prop :=
  ∀ H', H.le H' → ∀ K : AVal → AHeap → Prop, K v H' → callP P f args H' K

inductive AI where
  | q (e : QE)
  | alloc (sz : Nat) (zero : AVal)
  | box (sz : Nat) (x : AX)
  | bsl (sz n : Nat) (zero : AVal) (parts : List (Nat × AX))
  | mks (sz bytes : Nat) (zero : AVal) (l c : AX)
  | mkm (kk : KK)
  | s2b (x : AX)
  | mark (x : AX)
  | store (n : Nat) (a v : AX)
  | app (sz bytes : Nat) (x y : AX)
  | appk (sz bytes : Nat) (x y : AX)
  | appn (sz bytes : Nat) (x y : AX)
  | appz (sz bytes : Nat) (zero : AVal) (x n : AX)
  | cpy (sz : Nat) (x y : AX)
  | clr (x : AX)
  | clrs (sz : Nat) (zero : AVal) (x : AX)
  | mup (kk : KK) (m k v : AX)
  | ment (kk : KK) (zero : AVal) (m k : AX)
  | est (m s v : AX)
  | del (kk : KK) (m k : AX)
  | rng (m : AX)
  | nxt (i : AX)
  | eqn (neg : Bool) (x : AX)
  | call (f : FuncId) (args : List AX)
  | qcall (f : FuncId) (args : List AX)
  | calv (f : AX) (args : List AX)
  | qcalv (f : AX) (args : List AX)
  deriving Inhabited

structure AOper where
  d : Option Nat
  g : Option (Nat × Bool)
  i : AI
  deriving Inhabited

def Regs.putO (R : Regs) : Option Nat → AVal → Regs
  | some d, a => R.put d a
  | none, _ => R

def setK (d : Option Nat) (N : Regs → AHeap → Prop) (R : Regs) (v : AVal) (H : AHeap) : Prop := N (R.putO d v) H
def andV (o : Option AVal) (K : AVal → AHeap → Prop) (H : AHeap) : Prop :=
  match o with
  | some v => K v H
  | none => False
def mkPtr (sz b : Nat) : AVal := .ptr b sz 0 0
def mkSl (sz n b : Nat) : AVal := .sl b sz 0 n n
def mkMap (b : Nat) : AVal := .mp b
def mkIt (b : Nat) : AVal := .it b
def allocK (mk : Nat → AVal) (o : AObj) (K : AVal → AHeap → Prop) (H : AHeap) : Prop := ∀ b, H b = none → K (mk b) (H.set b o)
def undefA : AVal := .raw undef

def fits (sz : Nat) (es : List AVal) : Prop := ∀ e, e ∈ es → e.cells.length = sz

def fillE (sz : Nat) (es : List AVal) : List (Nat × Option AVal) → Option (List AVal)
  | [] => some es
  | (i, some v) :: r => if v.cells.length = sz ∧ i < es.length then fillE sz (es.set i v) r else none
  | (_, none) :: _ => none

def updCell (e : AVal) (sz col n : Nat) (v : AVal) : Option AVal :=
  if v.cells.length = n ∧ v.cells.all AVal.cellOk = true then (if col = 0 ∧ n = sz then some v else if col + n ≤ e.cells.length then some (.agg (setAt e.cells col v.cells)) else none) else none

def storeH (H : AHeap) (n : Nat) (a v : AVal) : Option AHeap :=
  match a with
  | .ptr b sz row col => match H b with
    | some (.rows sz' es) => if sz = sz' then (es[row]?).bind fun e => (updCell e sz col n v).map fun e' => H.set b (.rows sz (es.set row e')) else none
    | _ => none
  | _ => none

def andH (o : Option AHeap) (K : AVal → AHeap → Prop) (v : AVal) : Prop :=
  match o with
  | some H => K v H
  | none => False

/-- Room: so many elements of so many bytes are no trouble. -/
def room (n bytes : Nat) : Prop := n * bytes ≤ 2 ^ 40

/-- May each element be stored, cell by cell? -/
def okEs (es : List AVal) : Prop := ∀ e, e ∈ es → e.cells.all AVal.cellOk = true

def appK (sz bytes : Nat) (a : AVal) (ys : List AVal) (K : AVal → AHeap → Prop) (H : AHeap) : Prop :=
  match a with
  | .raw (.slice none 0 0) | .z => room ys.length bytes ∧ (ys = [] → K a H) ∧ (ys ≠ [] → ∀ b cap, H b = none → ys.length ≤ cap → K (.sl b sz 0 ys.length cap) (H.set b (.rows sz ys)))
  | .sl b sz' row len cap => match H b with
    | some (.rows sz'' es) => sz = sz' ∧ sz = sz'' ∧ row = 0 ∧ len = es.length ∧ room (len + ys.length) bytes ∧ okEs ys ∧
        ∀ b' cap', (b' = b ∧ cap' = cap ∨ H b' = none) → len + ys.length ≤ cap' → K (.sl b' sz 0 (len + ys.length) cap') ((H.del b).set b' (.rows sz (es ++ ys)))
    | _ => False
  | _ => False

/-- An append of which it matters whether there was room. -/
def appkK (sz bytes : Nat) (a : AVal) (ys : List AVal) (K : AVal → AHeap → Prop) (H : AHeap) : Prop :=
  match a with
  | .raw (.slice none 0 0) | .z => room ys.length bytes ∧ (ys = [] → K a H) ∧ (ys ≠ [] → ∀ b cap, H b = none → ys.length ≤ cap → K (.sl b sz 0 ys.length cap) (H.set b (.rows sz ys)))
  | .sl b sz' row len cap => match H b with
    | some (.rows sz'' es) => sz = sz' ∧ sz = sz'' ∧ row + len ≤ es.length ∧ room (len + ys.length) bytes ∧ okEs ys ∧
        (len + ys.length ≤ cap → K (.sl b sz row (len + ys.length) cap) (H.set b (.rows sz (es.take (row + len) ++ ys ++ es.drop (row + len + ys.length))))) ∧
        (cap < len + ys.length → ∀ b' cap', H b' = none → len + ys.length ≤ cap' → K (.sl b' sz 0 (len + ys.length) cap') (H.set b' (.rows sz ((es.drop row).take len ++ ys))))
    | _ => False
  | _ => False

/-- An append onto a slice of no length and no room. -/
def appnK (sz bytes : Nat) (a : AVal) (ys : List AVal) (K : AVal → AHeap → Prop) (H : AHeap) : Prop :=
  match a with
  | .raw (.slice none 0 0) | .z | .sl _ _ _ 0 0 => room ys.length bytes ∧ (ys = [] → K a H) ∧ (ys ≠ [] → ∀ b cap, H b = none → ys.length ≤ cap → K (.sl b sz 0 ys.length cap) (H.set b (.rows sz ys)))
  | _ => False

def cpyH (H : AHeap) (sz : Nat) (a : AVal) (ys : List AVal) : Option (Nat × AHeap) :=
  match a with
  | .raw (.slice none 0 _) | .z => some (0, H)
  | .sl b sz' row len _ => match H b with
    | some (.rows sz'' es) =>
      if sz = sz' ∧ sz = sz'' ∧ row + len ≤ es.length then
        some (min ys.length len, H.set b (.rows sz (es.take row ++ ys.take len ++ es.drop (row + min ys.length len)))) else none
    | _ => none
  | .sc b sz' row col len _ => if sz = 1 ∧ (ys.take len).all AVal.flat = true then
      (storeH H (min ys.length len) (.ptr b sz' row col) (.agg (ys.take len))).map fun H' => (min ys.length len, H') else none
  | _ => none

def cpyK (o : Option (Nat × AHeap)) (K : AVal → AHeap → Prop) : Prop :=
  match o with
  | some (n, H) => K (.i n) H
  | none => False

def mHas (k : Value) (es : List AEnt) : Bool := es.any fun e => keyEq k e.key
def mSet (k : Value) (v : AVal) : List AEnt → List AEnt
  | [] => []
  | e :: r => if keyEq k e.key then { e with val := v } :: r else e :: mSet k v r
def mPut (kk : KK) (k : Value) (v : AVal) (es : List AEnt) (clock : Nat) : AObj :=
  if mHas k es then .map kk (mSet k v es) clock else .map kk (es ++ [⟨k, v, clock⟩]) (clock + 1)
def mEnt (kk : KK) (k : Value) (zero : AVal) (es : List AEnt) (clock : Nat) : AObj :=
  if mHas k es then .map kk es clock else .map kk (es ++ [⟨k, zero, clock⟩]) (clock + 1)
def mDel (k : Value) : List AEnt → List AEnt
  | [] => []
  | e :: r => if keyEq k e.key then r else e :: mDel k r
def mBorn (k : Value) : List AEnt → Option Nat
  | [] => none
  | e :: r => if keyEq k e.key then some e.born else mBorn k r
def mSetBorn (s : Int) (v : AVal) : List AEnt → List AEnt
  | [] => []
  | e :: r => if (e.born : Int) = s then { e with val := v } :: r else e :: mSetBorn s v r

def mupH (H : AHeap) (kk : KK) (m k v : AVal) : Option AHeap :=
  match m, keyOf kk k with
  | .mp b, some k => match H b with
    | some (.map kk' es clock) => if kk = kk' then some (H.set b (mPut kk k v es clock)) else none
    | _ => none
  | _, _ => none

def nxtK (it : AVal) (K : AVal → AHeap → Prop) (H : AHeap) : Prop :=
  match it with
  | .it r => match H r with
    | some (.iter m since seen stepped) => match H m with
      | some (.map _ es clock) =>
        (seen = [] ∨ es = [] ∨ ∃ e, e ∈ es ∧ e.born < stepped) ∧
        ((∀ e, e ∈ es → e.born < since → e.born ∈ seen) → K (.tup [.b false]) H) ∧
        (∀ e, e ∈ es → e.born ∉ seen → K (.tup [.b true, .raw e.key, e.val]) (H.set r (.iter m since (seen ++ [e.born]) clock)))
      | _ => False
    | _ => False
  | _ => False

def eqnK (neg : Bool) (a : AVal) (K : AVal → AHeap → Prop) (H : AHeap) : Prop :=
  match a with
  | .ro _ [] | .z => ∀ c, K (.b c) H
  | a => match isNil a with
    | some p => K (.b (p != neg)) H
    | none => False

def callK (P : Program) (f : FuncId) (as : Option (List AVal)) (K : AVal → AHeap → Prop) (H : AHeap) : Prop :=
  match as with
  | some l => callP P f l H K
  | none => False

def qcallK (P : Program) (f : FuncId) (as : Option (List AVal)) (K : AVal → AHeap → Prop) (H : AHeap) : Prop :=
  match as with
  | some l => ∃ v, QCall P f l H v ∧ K v H
  | none => False

/-- Is it a function with a body, that a call enters? -/
def enterable (P : Program) (f : FuncId) : Bool := match P.funcs[f]? with
  | some fn => fn.body.isSome && fn.name != "runtime.NumGoroutine"
  | none => false

def calvK (P : Program) (f : Option AVal) (as : Option (List AVal)) (K : AVal → AHeap → Prop) (H : AHeap) : Prop :=
  match f, as with
  | some (.fn f cap), some l => enterable P f = true ∧ callP P f (l ++ cap) H K
  | some (.yd r), some l => yieldP P r l H K
  | _, _ => False

def qcalvK (P : Program) (f : Option AVal) (as : Option (List AVal)) (K : AVal → AHeap → Prop) (H : AHeap) : Prop :=
  match f, as with
  | some (.fn f cap), some l => enterable P f = true ∧ ∃ v, QCall P f (l ++ cap) H v ∧ K v H
  | _, _ => False

def step (P : Program) (K : AVal → AHeap → Prop) (R : Regs) (H : AHeap) : AI → Prop
  | .q e => andV (qeval R H e) K H
  | .alloc sz zero => allocK (mkPtr sz) (.rows sz [zero]) K H
  | .box sz x => match x.ev R with
    | some v => v.cells.length = sz ∧ allocK (mkPtr sz) (.rows sz [v]) K H
    | none => False
  | .bsl sz n zero parts => match fillE sz (List.replicate n zero) (parts.map fun p => (p.1, p.2.ev R)) with
    | some es => allocK (mkSl sz n) (.rows sz es) K H
    | none => False
  | .mks sz bytes zero l c => match (l.ev R).bind aInt, (c.ev R).bind aInt with
    | some l, some c => 0 ≤ l ∧ l ≤ c ∧ room c.toNat bytes ∧ allocK (fun b => .sl b sz 0 l.toNat c.toNat) (.rows sz (List.replicate c.toNat zero)) K H
    | _, _ => False
  | .mkm kk => allocK mkMap (.map kk [] 0) K H
  | .s2b x => match x.ev R with
    | some (.raw (.string s)) => s.size ≤ 2 ^ 40 ∧ ∀ b cap, H b = none → s.size ≤ cap → K (.sl b 1 0 s.size cap) (H.set b (.rows 1 (s.data.toList.map fun c => .raw (.int .u8 c.toNat))))
    | _ => False
  | .mark x => match x.ev R with
    | some (.sl b sz row len cap) => match H b with
      | some (.rows _ _) => K (.sl b sz row len cap) H
      | _ => False
    | _ => False
  | .store n a v => match a.ev R, v.ev R with
    | some a, some v => andH (storeH H n a v) K undefA
    | _, _ => False
  | .app sz bytes x y => match x.ev R, (y.ev R).bind (aElems H sz) with
    | some a, some ys => appK sz bytes a ys K H
    | _, _ => False
  | .appk sz bytes x y => match x.ev R, (y.ev R).bind (aElems H sz) with
    | some a, some ys => appkK sz bytes a ys K H
    | _, _ => False
  | .appn sz bytes x y => match x.ev R, (y.ev R).bind (aElems H sz) with
    | some a, some ys => appnK sz bytes a ys K H
    | _, _ => False
  | .appz sz bytes zero x n => match x.ev R, (n.ev R).bind aInt with
    | some a, some n => 0 ≤ n ∧ room n.toNat bytes ∧ appkK sz bytes a (List.replicate n.toNat zero) K H
    | _, _ => False
  | .cpy sz x y => match x.ev R, (y.ev R).bind (aElems H sz) with
    | some a, some ys => okEs ys ∧ cpyK (cpyH H sz a ys) K
    | _, _ => False
  | .clr x => match x.ev R with
    | some (.mp b) => match H b with
      | some (.map kk _ clock) => K (.tup []) (H.set b (.map kk [] clock))
      | _ => False
    | some (.raw (.map none)) => K (.tup []) H
    | _ => False
  | .clrs sz zero x => match x.ev R with
    | some (.raw (.slice none 0 0)) => K (.tup []) H
    | some (.z) => K (.tup []) H
    | some (.sl b sz' row len _) => match H b with
      | some (.rows sz'' es) => sz = sz' ∧ sz = sz'' ∧ row + len ≤ es.length ∧ okEs [zero] ∧ K (.tup []) (H.set b (.rows sz (es.take row ++ List.replicate len zero ++ es.drop (row + len))))
      | _ => False
    | _ => False
  | .mup kk m k v => match m.ev R, k.ev R, v.ev R with
    | some m, some k, some v => andH (mupH H kk m k v) K undefA
    | _, _, _ => False
  | .ment kk zero m k => match m.ev R, (k.ev R).bind (keyOf kk) with
    | some (.mp b), some k => match H b with
      | some (.map kk' es clock) => kk = kk' ∧ K (.tup [(mFind k es).getD zero, .i ((mBorn k es).getD clock)]) (H.set b (mEnt kk k zero es clock))
      | _ => False
    | _, _ => False
  | .est m s v => match m.ev R, (s.ev R).bind aInt, v.ev R with
    | some (.mp b), some s, some v => match H b with
      | some (.map kk es clock) => (∃ e, e ∈ es ∧ (e.born : Int) = s) ∧ K undefA (H.set b (.map kk (mSetBorn s v es) clock))
      | _ => False
    | _, _, _ => False
  | .del kk m k => match m.ev R, (k.ev R).bind (keyOf kk) with
    | some (.mp b), some k => match H b with
      | some (.map kk' es clock) => kk = kk' ∧ K (.tup []) (H.set b (.map kk (mDel k es) clock))
      | _ => False
    | _, _ => False
  | .rng m => match m.ev R with
    | some (.mp b) => match H b with
      | some (.map _ _ clock) => allocK mkIt (.iter b clock [] clock) K H
      | _ => False
    | _ => False
  | .nxt i => match i.ev R with
    | some a => nxtK a K H
    | none => False
  | .eqn neg x => match x.ev R with
    | some a => eqnK neg a K H
    | none => False
  | .call f args => callK P f (evs R args) K H
  | .qcall f args => qcallK P f (evs R args) K H
  | .calv f args => calvK P (f.ev R) (evs R args) K H
  | .qcalv f args => qcalvK P (f.ev R) (evs R args) K H

/-- One operation: what its guard lets run. -/
def opW (P : Program) (o : AOper) (N : Regs → AHeap → Prop) (R : Regs) (H : AHeap) : Prop :=
  match o.g with
  | none => step P (setK o.d N R) R H o.i
  | some (t, want) => match R t with
    | some (.raw (.bool c)) => if c = want then step P (setK o.d N R) R H o.i else setK o.d N R .junk H
    | _ => False

def opsW (P : Program) : List AOper → (Regs → AHeap → Prop) → Regs → AHeap → Prop
  | [], N => N
  | o :: r, N => opW P o (opsW P r N)

/-- Each of several orders. -/
def allW (P : Program) : List (List AOper) → (Regs → AHeap → Prop) → Regs → AHeap → Prop
  | [], _, _, _ => True
  | [l], N, R, H => opsW P l N R H
  | l :: r, N, R, H => opsW P l N R H ∧ allW P r N R H

inductive AExit where
  | normal
  | ret
  | exit (id : Nat)

abbrev AQ := AExit → Regs → AHeap → Prop

inductive ACode where
  | skip
  | ret
  | exit (id : Nat)
  | rg (ops : List AOper) (keep : List Nat)
  | rgs (ls : List (List AOper)) (keep : List Nat)
  | seq (a b : ACode)
  | cond (x : AX) (a b : ACode)
  | block (id : Nat) (c : ACode)
  | loop (c : ACode)
  | rf (keep : List Nat) (g : AX) (ps : List Nat) (as bd : ACode)
  | gh
  deriving Inhabited

def regK (keep : List Nat) (Q : AQ) (R : Regs) (H : AHeap) : Prop := Q .normal (ofL (prune R keep)) H
def seqK (f : Regs → AHeap → AQ → Prop) (Q : AQ) : AQ
  | .normal, R, H => f R H Q
  | e, R, H => Q e R H
def blockK (id : Nat) (Q : AQ) : AQ
  | .exit id', R, H => if id' = id then Q .normal R H else Q (.exit id') R H
  | e, R, H => Q e R H
def loopK (X : Regs → AHeap → Prop) (Q : AQ) : AQ
  | .normal, R, H => X R H
  | e, R, H => Q e R H
def ifP (c : Bool) (f g : Regs → AHeap → AQ → Prop) (R : Regs) (H : AHeap) (Q : AQ) : Prop :=
  match c with
  | true => f R H Q
  | false => g R H Q
def loopP (f : Regs → AHeap → AQ → Prop) (R : Regs) (H : AHeap) (Q : AQ) : Prop :=
  ∀ X : Regs → AHeap → Prop, (∀ R H R' H', Gh R H R' H' → X R' H' → X R H) → (∀ R H, f R H (loopK X Q) → X R H) → X R H
def condP (o : Option AVal) (f g : Regs → AHeap → AQ → Prop) (R : Regs) (H : AHeap) (Q : AQ) : Prop :=
  match o with
  | some (.raw (.bool c)) => ifP c f g R H Q
  | _ => False

def onlyK (f : Regs → AHeap → AQ → Prop) (Q : AQ) : AQ
  | .normal, R, H => f R H Q
  | _, _, _ => False

/-- A loop's record, as a round leaves it: ready, or done by a return or an exit. -/
def loopAt (r : Loop) : Nat → Loop
  | 0 => { r with state := .ready, pending := none }
  | 1 => { r with state := .done, pending := some .ret }
  | id + 2 => { r with state := .done, pending := some (.exit id) }
def leftAs : Nat → AExit
  | 0 => .normal
  | 1 => .ret
  | id + 2 => .exit id
def yQ (l : Nat) (r : Loop) (L : List (Nat × AVal)) (K : AVal → AHeap → Prop) : AQ
  | .normal, _, H => H l = none → K (.b true) (H.set l (.loop (loopAt r 0) L))
  | .ret, _, H => H l = none → K (.b false) (H.set l (.loop (loopAt r 1) L))
  | .exit id, _, H => H l = none → K (.b false) (H.set l (.loop (loopAt r (id + 2)) L))
def putArgs (R : Regs) : List Nat → List AVal → Regs
  | p :: ps, a :: as => putArgs (R.put p a) ps as
  | _, _ => R
/-- What a round of a loop does. -/
def Rounds (P : Program) (ps : List Nat) (fa fb : Regs → AHeap → AQ → Prop) (l : Nat) (r : Loop) (L : List (Nat × AVal)) : Prop :=
  ∀ args H K, args.length = ps.length → H l = some (.loop (loopAt r 0) L) → fa (putArgs (ofL L) ps args) (H.del l) (onlyK fb (yQ l r L K)) → yieldP P l args H K
def rfP (P : Program) (keep ps : List Nat) (fa fb : Regs → AHeap → AQ → Prop) (g : Option AVal) (R : Regs) (H : AHeap) (Q : AQ) : Prop :=
  match g with
  | some (.fn f cap) => enterable P f = true ∧ ∀ l r, H l = none → Rounds P ps fa fb l r (prune R keep) →
      callP P f (.yd l :: cap) (H.set l (.loop (loopAt r 0) (prune R keep))) fun _ H' => ∃ st, H' l = some (.loop (loopAt r st) (prune R keep)) ∧ Q (leftAs st) R (H'.del l)
  | _ => False

def symb (P : Program) : ACode → Regs → AHeap → AQ → Prop
  | .skip => fun R H Q => Q .normal R H
  | .ret => fun R H Q => Q .ret R H
  | .exit id => fun R H Q => Q (.exit id) R H
  | .rg ops keep => fun R H Q => opsW P ops (regK keep Q) R H
  | .rgs ls keep => fun R H Q => allW P ls (regK keep Q) R H
  | .seq a b => fun R H Q => symb P a R H (seqK (symb P b) Q)
  | .cond x a b => fun R H Q => condP (x.ev R) (symb P a) (symb P b) R H Q
  | .block id c => fun R H Q => symb P c R H (blockK id Q)
  | .loop c => loopP (symb P c)
  | .rf keep g ps as bd => fun R H Q => rfP P keep ps (symb P as) (symb P bd) (g.ev R) R H Q
  | .gh => fun R H Q => ghP (Q .normal) R H

/-! ### Monotonicity -/

theorem andV_mono {o : Option AVal} {K K' : AVal → AHeap → Prop} {H : AHeap} (hk : ∀ v H', K v H' → K' v H') (h : andV o K H) : andV o K' H := by
  cases o <;> simp_all [andV]

theorem andH_mono {o : Option AHeap} {K K' : AVal → AHeap → Prop} {v : AVal} (hk : ∀ v H', K v H' → K' v H') (h : andH o K v) : andH o K' v := by
  cases o <;> simp_all [andH]

theorem allocK_mono {mk : Nat → AVal} {o : AObj} {K K' : AVal → AHeap → Prop} {H : AHeap} (hk : ∀ v H', K v H' → K' v H') (h : allocK mk o K H) : allocK mk o K' H :=
  fun b hb => hk _ _ (h b hb)

theorem cpyK_mono {o : Option (Nat × AHeap)} {K K' : AVal → AHeap → Prop} (hk : ∀ v H', K v H' → K' v H') (h : cpyK o K) : cpyK o K' := by
  cases o with
  | none => exact h
  | some p => exact hk _ _ h

theorem appK_mono {sz bytes : Nat} {a : AVal} {ys : List AVal} {K K' : AVal → AHeap → Prop} {H : AHeap} (hk : ∀ v H', K v H' → K' v H') (h : appK sz bytes a ys K H) : appK sz bytes a ys K' H := by
  unfold appK at *
  split at h
  · exact ⟨h.1, fun e => hk _ _ (h.2.1 e), fun e b cap hb hc => hk _ _ (h.2.2 e b cap hb hc)⟩
  · exact ⟨h.1, fun e => hk _ _ (h.2.1 e), fun e b cap hb hc => hk _ _ (h.2.2 e b cap hb hc)⟩
  · split at h
    · obtain ⟨a, b, c, d, e, g, f⟩ := h
      exact ⟨a, b, c, d, e, g, fun b' cap' hb hc => hk _ _ (f b' cap' hb hc)⟩
    · exact h
  · exact h

theorem appkK_mono {sz bytes : Nat} {a : AVal} {ys : List AVal} {K K' : AVal → AHeap → Prop} {H : AHeap} (hk : ∀ v H', K v H' → K' v H') (h : appkK sz bytes a ys K H) : appkK sz bytes a ys K' H := by
  unfold appkK at *
  split at h
  · exact ⟨h.1, fun e => hk _ _ (h.2.1 e), fun e b cap hb hc => hk _ _ (h.2.2 e b cap hb hc)⟩
  · exact ⟨h.1, fun e => hk _ _ (h.2.1 e), fun e b cap hb hc => hk _ _ (h.2.2 e b cap hb hc)⟩
  · split at h
    · obtain ⟨a, b, c, d, g, e, f⟩ := h
      exact ⟨a, b, c, d, g, fun hc => hk _ _ (e hc), fun hc b' cap' hb hc' => hk _ _ (f hc b' cap' hb hc')⟩
    · exact h
  · exact h

theorem appnK_mono {sz bytes : Nat} {a : AVal} {ys : List AVal} {K K' : AVal → AHeap → Prop} {H : AHeap} (hk : ∀ v H', K v H' → K' v H') (h : appnK sz bytes a ys K H) : appnK sz bytes a ys K' H := by
  unfold appnK at *
  split at h
  · exact ⟨h.1, fun e => hk _ _ (h.2.1 e), fun e b cap hb hc => hk _ _ (h.2.2 e b cap hb hc)⟩
  · exact ⟨h.1, fun e => hk _ _ (h.2.1 e), fun e b cap hb hc => hk _ _ (h.2.2 e b cap hb hc)⟩
  · exact ⟨h.1, fun e => hk _ _ (h.2.1 e), fun e b cap hb hc => hk _ _ (h.2.2 e b cap hb hc)⟩
  · exact h

theorem nxtK_mono {it : AVal} {K K' : AVal → AHeap → Prop} {H : AHeap} (hk : ∀ v H', K v H' → K' v H') (h : nxtK it K H) : nxtK it K' H := by
  unfold nxtK at *
  split at h
  · split at h
    · split at h
      · exact ⟨h.1, fun a => hk _ _ (h.2.1 a), fun e a b => hk _ _ (h.2.2 e a b)⟩
      · exact h
    · exact h
  · exact h

theorem eqnK_mono {neg : Bool} {a : AVal} {K K' : AVal → AHeap → Prop} {H : AHeap} (hk : ∀ v H', K v H' → K' v H') (h : eqnK neg a K H) : eqnK neg a K' H := by
  unfold eqnK at *
  split at h
  · exact fun c => hk _ _ (h c)
  · exact fun c => hk _ _ (h c)
  · split at h
    · exact hk _ _ h
    · exact h

theorem step_mono {P : Program} {K K' : AVal → AHeap → Prop} {R : Regs} {H : AHeap} {i : AI} (hk : ∀ v H', K v H' → K' v H') (h : step P K R H i) : step P K' R H i := by
  cases i <;> simp only [step] at h ⊢
  case q => exact andV_mono hk h
  case alloc => exact allocK_mono hk h
  case box => split at h; exact ⟨h.1, allocK_mono hk h.2⟩; exact h
  case bsl => split at h; exact allocK_mono hk h; exact h
  case mks => split at h; exact ⟨h.1, h.2.1, h.2.2.1, allocK_mono hk h.2.2.2⟩; exact h
  case mkm => exact allocK_mono hk h
  case s2b => split at h; exact ⟨h.1, fun b cap hb hc => hk _ _ (h.2 b cap hb hc)⟩; exact h
  case mark => (repeat' split at h) <;> first | exact hk _ _ h | exact h
  case store => split at h; exact andH_mono hk h; exact h
  case app => split at h; exact appK_mono hk h; exact h
  case appk => split at h; exact appkK_mono hk h; exact h
  case appn => split at h; exact appnK_mono hk h; exact h
  case appz => split at h; exact ⟨h.1, h.2.1, appkK_mono hk h.2.2⟩; exact h
  case cpy => split at h; exact ⟨h.1, cpyK_mono hk h.2⟩; exact h
  case clr => (repeat' split at h) <;> first | exact hk _ _ h | exact h
  case clrs =>
    split at h
    · exact hk _ _ h
    · exact hk _ _ h
    · split at h
      · exact ⟨h.1, h.2.1, h.2.2.1, h.2.2.2.1, hk _ _ h.2.2.2.2⟩
      · exact h
    · exact h
  case mup => split at h; exact andH_mono hk h; exact h
  case ment => (repeat' split at h) <;> first | exact ⟨h.1, hk _ _ h.2⟩ | exact h
  case est =>
    split at h
    · split at h
      · exact ⟨h.1, hk _ _ h.2⟩
      · exact h
    · exact h
  case del => (repeat' split at h) <;> first | exact ⟨h.1, hk _ _ h.2⟩ | exact h
  case rng =>
    split at h
    · split at h
      · exact allocK_mono hk h
      · exact h
    · exact h
  case nxt => split at h; exact nxtK_mono hk h; exact h
  case eqn => split at h; exact eqnK_mono hk h; exact h
  case call => unfold callK at *; split at h; exact callP_mono h hk; exact h
  case qcall => unfold qcallK at *; split at h; exact ⟨h.choose, h.choose_spec.1, hk _ _ h.choose_spec.2⟩; exact h
  case calv => unfold calvK at *; split at h; exact ⟨h.1, callP_mono h.2 hk⟩; exact yieldP_mono h hk; exact h
  case qcalv => unfold qcalvK at *; split at h; exact ⟨h.1, h.2.choose, h.2.choose_spec.1, hk _ _ h.2.choose_spec.2⟩; exact h

theorem opW_mono {P : Program} {o : AOper} {N N' : Regs → AHeap → Prop} {R : Regs} {H : AHeap} (hn : ∀ R H, N R H → N' R H) (h : opW P o N R H) : opW P o N' R H := by
  unfold opW at *
  split at h
  · exact step_mono (fun v H' => hn _ _) h
  · split at h
    · split at h
      · rename_i hc; simp only [hc, if_true]; exact step_mono (fun v H' => hn _ _) h
      · rename_i hc; simp only [hc, if_false]; exact hn _ _ h
    · exact h

theorem opsW_mono {P : Program} {l : List AOper} : ∀ {N N' : Regs → AHeap → Prop} {R : Regs} {H : AHeap}, (∀ R H, N R H → N' R H) → opsW P l N R H → opsW P l N' R H := by
  induction l with
  | nil => exact fun hn h => hn _ _ h
  | cons o r ih => exact fun hn h => opW_mono (fun _ _ => ih hn) h

theorem allW_mem {P : Program} {l : List AOper} {N : Regs → AHeap → Prop} {R : Regs} {H : AHeap} : ∀ {ls : List (List AOper)}, l ∈ ls → allW P ls N R H → opsW P l N R H
  | [_], hl, h => by cases hl with
    | head => exact h
    | tail _ hl => cases hl
  | a :: b :: r, hl, h => by cases hl with
    | head => exact h.1
    | tail _ hl => exact allW_mem hl h.2

theorem allW_mono {P : Program} {N N' : Regs → AHeap → Prop} {R : Regs} {H : AHeap} (hn : ∀ R H, N R H → N' R H) : ∀ {ls : List (List AOper)}, allW P ls N R H → allW P ls N' R H
  | [], _ => trivial
  | [_], h => opsW_mono hn h
  | _ :: _ :: _, h => ⟨opsW_mono hn h.1, allW_mono hn h.2⟩

theorem symb_mono {P : Program} {c : ACode} : ∀ {R : Regs} {H : AHeap} {Q Q' : AQ}, (∀ e R H, Q e R H → Q' e R H) → symb P c R H Q → symb P c R H Q' := by
  induction c with
  | skip => exact fun hq h => hq _ _ _ h
  | ret => exact fun hq h => hq _ _ _ h
  | exit id => exact fun hq h => hq _ _ _ h
  | rg ops keep => exact fun hq h => opsW_mono (fun _ _ => hq _ _ _) h
  | rgs ls keep => exact fun hq h => allW_mono (fun _ _ => hq _ _ _) h
  | seq a b iha ihb =>
    intro R H Q Q' hq h
    refine iha (fun e R H he => ?_) h
    cases e <;> first | exact ihb hq he | exact hq _ _ _ he
  | cond x a b iha ihb =>
    intro R H Q Q' hq h
    simp only [symb, condP] at h ⊢
    split at h
    · rename_i c _
      cases c <;> simp only [ifP] at h ⊢ <;> first | exact iha hq h | exact ihb hq h
    · exact h
  | block id c ih =>
    intro R H Q Q' hq h
    refine ih (fun e R H he => ?_) h
    cases e <;> simp only [blockK] at he ⊢ <;> first | exact hq _ _ _ he | skip
    split at he <;> rename_i hc <;> simp only [hc, if_true, if_false] <;> exact hq _ _ _ he
  | loop c ih =>
    intro R H Q Q' hq h X hG hX
    refine h X hG (fun R H hr => hX R H (ih (fun e R H he => ?_) hr))
    cases e <;> first | exact he | exact hq _ _ _ he
  | rf keep g ps as bd =>
    intro R H Q Q' hq h
    simp only [symb, rfP] at h ⊢
    split at h
    · exact ⟨h.1, fun l r hl hr => callP_mono (h.2 l r hl hr) fun _ _ ⟨st, h1, h2⟩ => ⟨st, h1, hq _ _ _ h2⟩⟩
    · exact h
  | gh => exact fun hq ⟨R', H', h1, h2⟩ => ⟨R', H', h1, hq _ _ _ h2⟩

/-- A loop at its head. -/
def loopC (P : Program) (c : ACode) (Q : AQ) (R : Regs) (H : AHeap) : Prop := symb P (.loop c) R H Q

theorem loop_unfold {P : Program} {c : ACode} {R : Regs} {H : AHeap} {Q : AQ} (h : symb P c R H (loopK (loopC P c Q) Q)) : loopC P c Q R H := by
  intro X hG hX
  refine hX R H (symb_mono (fun e R H he => ?_) h)
  cases e <;> first | exact he X hG hX | exact he

/-- Before a round what is known may be said otherwise. -/
theorem loop_ghost {P : Program} {c : ACode} {R R' : Regs} {H H' : AHeap} {Q : AQ} (hg : Gh R H R' H') (h : loopC P c Q R' H') : loopC P c Q R H :=
  fun X hG hX => hG R H R' H' hg (h X hG hX)

end Heron
end
