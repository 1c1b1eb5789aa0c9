/-
  A small evaluator of code over virtual memory: definitions. Values that stand in memory are told by their content, blocks by names of their own. No statement is proved here.
-/
import Derived.WalkKit
import Derived.Orders
namespace Go.Vm

/-- A block of memory: whole numbers of one kind (and how many), or cells. -/
inductive Blk where
  | w (k : IntKind) (n : Nat) (xs : List Int)
  | c (vs : List Value)
  | dead

/-- What a slot holds: a plain value; an array of whole numbers; a struct's cells; the address of a cell; a slice; a block of numbers as a slice, whole; the slice without room; nothing that is known. -/
inductive V0 where
  | p (v : Value)
  | r (k : IntKind) (n : Nat) (xs : List Int)
  | g (vs : List Value)
  | a (i k : Nat)
  | s (i k n : Nat)
  | f (i : Nat)
  | z
  | u

inductive V where
  | o (x : V0)
  | t (l : List V0)

/-- What is handed from function to function. -/
inductive D where
  | p (v : Value)
  | r (k : IntKind) (n : Nat) (xs : List Int)
  | g (vs : List Value)
  | w (k : IntKind) (xs : List Int)
  | c (n : Nat) (vs : List Value)

/-- What is known of a type: a number, a bool, a string, an array of numbers, a struct (its zero cells; each field's place and type), a slice. -/
inductive Ty where
  | i (k : IntKind)
  | b
  | str
  | arr (n : Nat) (k : IntKind)
  | st (zs : List Value) (fs : List (Nat × TypeId))
  | sl (e : TypeId)

/-- Whose a block is: the call's own, and to be written; new in the call; led to from elsewhere. -/
inductive Own where
  | mine | new | old
  deriving DecidableEq
abbrev Mem := List (Own × Blk)
abbrev R := Option (List (Own × D))

inductive X where
  | normal
  | exit (id : Nat)
  | ret

structure Env where
  ty : TypeId → Option Ty
  /-- a call: what comes of it, each with whose it is -/
  fn : FuncId → Option (List D → (List (Own × D) → R) → R)
  /-- what is live at the head of the loop in this block -/
  live : Nat → List Nat
  fuel : Nat
  /-- a loop, by the block it stands in: what comes of it, from its head on -/
  lp : Nat → Option (List V → Mem → (X → List V → Mem → R) → R) := fun _ => none
  /-- what is live behind the loop in this block (of a loop that has a contract) -/
  out : Nat → List Nat := fun _ => []
  /-- functions whose results may lead into what was handed to them: that is given up ahead of the call -/
  give : FuncId → Bool := fun _ => false

def cellsW (k : IntKind) (n : Nat) (xs : List Int) : List Value := (List.range n).map fun j => .int k (xs.getD j 0)
def intOf' : Value → Int | .int _ x => x | _ => 0

def Ty.size : Ty → Nat
  | .arr n _ => n
  | .st zs _ => zs.length
  | _ => 1
def Ty.isAgg : Ty → Bool
  | .arr .. => true
  | .st .. => true
  | _ => false
def Ty.zero : Ty → Option V0
  | .i k => some (.p (.int k 0))
  | .b => some (.p (.bool false))
  | .str => some (.p (.string ByteArray.empty))
  | .arr n k => some (.r k n (List.replicate n 0))
  | .st zs _ => some (.g zs)
  | .sl _ => some .z

def V0.cells : V0 → Option (List Value)
  | .p v => some [v]
  | .r k n xs => some (cellsW k n xs)
  | .g vs => some vs
  | _ => none

def isKind (k : IntKind) : Value → Bool
  | .int k' _ => decide (k' = k)
  | _ => false
/-- A value out of its cells. -/
def ofCells : Ty → List Value → Option V0
  | .i _, [v] => some (.p v)
  | .b, [v] => some (.p v)
  | .str, [v] => some (.p v)
  | .arr n k, vs => bif vs.all (isKind k) && vs.length == n then some (.r k n (vs.map intOf')) else none
  | .st zs _, vs => bif vs.length == zs.length then some (.g vs) else none
  | _, _ => none

def blkOf : V0 → Option Blk
  | .p v => some (.c [v])
  | .r k n xs => some (.w k n xs)
  | .g vs => some (.c vs)
  | _ => none

def getT (tm : List V) (t : Nat) : V := tm.getD t (.o .u)
def putT (tm : List V) (d : Option Nat) (v : V) : List V := match d with | some d => tm.set d v | none => tm

/-- How long a slice or a string may be. -/
def lim : Nat := 2 ^ 47
/-- A plain value of its kind's range. -/
def wfB : Value → Bool
  | .int k n => decide (k.min ≤ n) && decide (n ≤ k.max)
  | .bool _ => true
  | .string s => decide (s.size ≤ lim)
  | _ => false
def constV : Value → V0
  | .int k n => bif wfB (.int k n) then .p (.int k n) else .u
  | .bool b => .p (.bool b)
  | .string s => bif wfB (.string s) then .p (.string s) else .u
  | .slice none 0 0 => .z
  | _ => .u

def opnd (tm : List V) : Operand → V
  | .tmp t => getT tm t
  | .const v => .o (constV v)
  | _ => .o .u

/-- The blocks that a value names, as data. -/
def splice {α : Type} (l : List α) (k : Nat) (new : List α) : List α := l.take k ++ new ++ l.drop (k + new.length)

def loadV (td : Ty) (m : Mem) (i k : Nat) (κ : V → R) : R :=
  match m[i]? with
  | some (_, .w kd n xs) => match td with
    | .i _ => cond (decide (k < n)) (κ (.o (.p (.int kd (xs.getD k 0))))) none
    | .arr n' _ => cond (decide (k = 0 ∧ n' = n)) (κ (.o (.r kd n xs))) none
    | _ => none
  | some (_, .c vs) => cond (decide (k + td.size ≤ vs.length)) (match ofCells td ((vs.drop k).take td.size) with | some v => κ (.o v) | none => none) none
  | _ => none

def storeV (td : Ty) (m : Mem) (i k : Nat) (x : V0) (κ : V → Mem → R) : R :=
  match m[i]? with
  | some (.mine, .w kd n xs) => match x with
    | .p (.int kd' v) => cond (decide (k < n ∧ kd' = kd ∧ td.size = 1)) (κ (.o .u) (m.set i (.mine, .w kd n (xs.set k v)))) none
    | .r kd' n' ys => cond (decide (k = 0 ∧ n' = n ∧ kd' = kd ∧ td.size = n)) (κ (.o .u) (m.set i (.mine, .w kd n ys))) none
    | _ => none
  | some (.mine, .c vs) => match x.cells with
    | some cs => cond (decide (k + cs.length ≤ vs.length ∧ td.size = cs.length)) (κ (.o .u) (m.set i (.mine, .c (splice vs k cs)))) none
    | none => none
  | _ => none

def eqCells : List Value → List Value → Option Bool
  | [], [] => some true
  | .int k x :: l, .int k' y :: l' => if k = k' then (eqCells l l').map (cond (x == y) · false) else none
  | .bool x :: l, .bool y :: l' => (eqCells l l').map (cond (x == y) · false)
  | .string x :: l, .string y :: l' => (eqCells l l').map (cond (x == y) · false)
  | _, _ => none
/-- Are these cells of the kinds of those? -/
def likeZ : List Value → List Value → Bool
  | [], [] => true
  | .int k _ :: l, .int k' _ :: l' => decide (k = k') && likeZ l l'
  | .bool _ :: l, .bool _ :: l' => likeZ l l'
  | .string _ :: l, .string _ :: l' => likeZ l l'
  | _, _ => false

def eqV (td : Option Ty) : V0 → V0 → Option Bool
  | .p (.bool x), .p (.bool y) => match td with
    | some .b => some (x == y)
    | _ => none
  | .p (.string x), .p (.string y) => match td with
    | some .str => some (x == y)
    | _ => none
  | .r k n xs, .r k' n' ys => match td with
    | some (.arr n'' k'') => bif decide (n = n'' ∧ n' = n'' ∧ k = k'' ∧ k' = k'') then some (decide (xs = ys)) else none
    | _ => none
  | .g xs, .g ys => match td with
    | some (.st zs _) => bif likeZ zs xs && likeZ zs ys then eqCells xs ys else none
    | _ => none
  | _, _ => none

/-- An operation on two whole numbers of one kind: does it fail, and what it comes to. -/
def intV (op : BinOp) (k : IntKind) (x y : Int) : Option (Bool × Value) :=
  match op with
  | .add => some (false, .int k (k.wrap (x + y)))
  | .sub => some (false, .int k (k.wrap (x - y)))
  | .mul => some (false, .int k (k.wrap (x * y)))
  | .quo => some (decide (y = 0), .int k (k.wrap (x.tdiv y)))
  | .rem => some (decide (y = 0), .int k (x.tmod y))
  | .and => some (false, .int k (Go.bits .and k x y))
  | .or => some (false, .int k (Go.bits .or k x y))
  | .xor => some (false, .int k (Go.bits .xor k x y))
  | .andNot => some (false, .int k (Go.bits .andNot k x y))
  | .eql => some (false, .bool (x == y))
  | .neq => some (false, .bool (x != y))
  | .lss => some (false, .bool (decide (x < y)))
  | .leq => some (false, .bool (decide (x ≤ y)))
  | .gtr => some (false, .bool (decide (x > y)))
  | .geq => some (false, .bool (decide (x ≥ y)))
  | _ => none

def shlI (k : IntKind) (x y : Int) : Int := k.wrap (x * 2 ^ (min y.toNat k.bits))
def shrI (k : IntKind) (x y : Int) : Int := x.fdiv (2 ^ (min y.toNat k.bits))

def binV (td : Option Ty) (op : BinOp) (x y : V) : Option (Bool × Value) :=
  match op, x, y with
  | .shl, .o (.p (.int k a)), .o (.p (.int _ b)) => some (decide (b < 0), .int k (shlI k a b))
  | .shr, .o (.p (.int k a)), .o (.p (.int _ b)) => some (decide (b < 0), .int k (shrI k a b))
  | op, .o (.p (.int k a)), .o (.p (.int k' b)) => if k = k' then intV op k a b else none
  | .add, .o (.p (.string a)), .o (.p (.string b)) => match td with
    | some .str => some (decide (lim < a.size + b.size), .string (a ++ b))
    | _ => none
  | .eql, .o x, .o y => match eqV td x y with | some b => some (false, .bool b) | none => none
  | .neq, .o x, .o y => match eqV td x y with | some b => some (false, .bool (!b)) | none => none
  | _, _, _ => none
def binK (td : Option Ty) (op : BinOp) (x y : V) (κ : V0 → R) : R :=
  match binV td op x y with
  | some (bad, v) => cond bad none (κ (.p v))
  | none => none

def buildArr (k : IntKind) (xs : List Int) : List (Nat × V) → Option (List Int)
  | [] => some xs
  | (i, .o (.p (.int k' x))) :: l => bif decide (i < xs.length ∧ k' = k) then buildArr k (xs.set i x) l else none
  | _ => none
def realOf : V → Option Value
  | .o (.p v) => some v
  | .o (.r k n xs) => some (.agg (cellsW k n xs).toArray)
  | .o (.g vs) => some (.agg vs.toArray)
  | _ => none
def realsOf : List (Nat × V) → Option (List (Nat × Value))
  | [] => some []
  | (i, v) :: l => match realOf v, realsOf l with
    | some r, some rs => some ((i, r) :: rs)
    | _, _ => none
/-- The places of a struct's fields. -/
def placesOf (E : Env) : List (Nat × TypeId) → Option (List (Nat × Nat))
  | [] => some []
  | (off, t) :: l => match E.ty t, placesOf E l with
    | some td, some ps => some ((off, td.size) :: ps)
    | _, _ => none

/-- The content of what is handed on. -/
def contentK (m : Mem) (v : V) (κ : D → R) : R :=
  match v with
  | .o (.p v) => κ (.p v)
  | .o (.r k n xs) => κ (.r k n xs)
  | .o (.g vs) => κ (.g vs)
  | .o .z => κ (.w .u64 [])
  | .o (.f i) => match m[i]? with
    | some (_, .w kd _ xs) => κ (.w kd xs)
    | _ => none
  | .o (.s i k n) => match m[i]? with
    | some (_, .w kd n' xs) => cond (decide (k + n ≤ n')) (κ (.w kd ((xs.drop k).take n))) none
    | some (_, .c vs) => cond (decide (k = 0 ∧ 0 < n ∧ 0 < vs.length)) (κ (.c n vs)) none
    | _ => none
  | _ => none
def contentsK (m : Mem) : List V → (List D → R) → R
  | [], κ => κ []
  | v :: l, κ => contentK m v fun d => contentsK m l fun ds => κ (d :: ds)

def unlessOne (one : Bool) (ow : Own) : Own := bif one then ow else match ow with | .mine => .new | ow => ow
/-- What comes back from a call, laid into memory; 'one': nothing else comes back. -/
def resV (one : Bool) (m : Mem) : List (Own × D) → List V0 × Mem
  | [] => ([], m)
  | (_, .p v) :: l => (.p v :: (resV one m l).1, (resV one m l).2)
  | (_, .r k n xs) :: l => (.r k n xs :: (resV one m l).1, (resV one m l).2)
  | (_, .g cs) :: l => (.g cs :: (resV one m l).1, (resV one m l).2)
  | (ow, .w k xs) :: l => (.f m.length :: (resV one (m ++ [(unlessOne one ow, .w k xs.length xs)]) l).1, (resV one (m ++ [(unlessOne one ow, .w k xs.length xs)]) l).2)
  | (ow, .c n cs) :: l => (.s m.length 0 n :: (resV one (m ++ [(unlessOne one ow, .c cs)]) l).1, (resV one (m ++ [(unlessOne one ow, .c cs)]) l).2)
def lone : List V0 → V
  | [x] => .o x
  | l => .t l
def shares : List (Own × D) → Bool
  | [] => false
  | (.old, .w ..) :: _ => true
  | (.old, .c ..) :: _ => true
  | _ :: l => shares l
def nameOf : V → Option Nat
  | .o (.a i _) => some i
  | .o (.s i _ _) => some i
  | .o (.f i) => some i
  | _ => none
/-- Is one of these blocks the call's own? -/
def anyOwn (m : Mem) (l : List V) : Bool := l.any fun v => match nameOf v with
  | some i => match m[i]? with
    | some (.mine, _) => true
    | _ => false
  | none => false

def sliceBds (n : Nat) (lo hi : Option V) (κ : Nat → Nat → R) : R :=
  let withHi (h : Nat) : R := match lo with
    | none => κ 0 h
    | some (.o (.p (.int _ l))) => cond (decide (0 ≤ l ∧ l ≤ (h : Int))) (κ l.toNat h) none
    | _ => none
  match hi with
  | none => withHi n
  | some (.o (.p (.int _ h))) => cond (decide (0 ≤ h ∧ h ≤ (n : Int))) (withHi h.toNat) none
  | _ => none

/-- Is that a slice? -/
def isSlV (m : Mem) : V0 → Bool
  | .s .. => true
  | .z => true
  | .f i => (m[i]?).any fun | (_, .w ..) => true | _ => false
  | _ => false
def kindOf (E : Env) (t : TypeId) : Option IntKind := match E.ty t with
  | some (.sl e) => match E.ty e with
    | some (.i k) => some k
    | _ => none
  | _ => none
def elemSize (E : Env) (t : TypeId) : Option Nat := match E.ty t with
  | some (.sl e) => (E.ty e).map Ty.size
  | _ => none

def appendK (kd : IntKind) (m : Mem) (x y : V) (κ : V → Mem → R) : R :=
  contentK m y fun d => match d with
    | .w kd' ys => match x with
      | .o .z => cond (decide (kd = kd' ∧ ys.length ≤ 17592186044416)) (κ (.o (.f m.length)) (m ++ [(.mine, .w kd ys.length ys)])) none
      | .o (.f i) => match m[i]? with
        | some (.mine, .w kx nx xs) => cond (decide (kd = kd' ∧ kx = kd ∧ nameOf y ≠ some i ∧ nx + ys.length ≤ 17592186044416)) (κ (.o (.f m.length)) (m.set i (.old, .dead) ++ [(.mine, .w kd (nx + ys.length) (xs ++ ys))])) none
        | _ => none
      | _ => none
    | _ => none

def copyK (m : Mem) (i k n : Nat) (kd : IntKind) (n' : Nat) (xs : List Int) (y : V) (κ : V → Mem → R) : R :=
  contentK m y fun d => match d with
    | .w kd' ys => cond (decide (kd = kd' ∧ k + n ≤ n' ∧ nameOf y ≠ some i)) (κ (.o (.p (.int .i64 ((min ys.length n : Nat) : Int)))) (m.set i (.mine, .w kd n' (splice xs k (ys.take n))))) none
    | _ => none

def builtinK (E : Env) (b : Builtin) (ts : List TypeId) (m : Mem) (args : List V) (κ : V → Mem → R) : R :=
  match b, args with
  | .len, [x] => match ts with
    | t :: _ => match E.ty t, x with
      | some (.sl _), .o (.s _ _ n) => κ (.o (.p (.int .i64 (n : Int)))) m
      | some (.sl _), .o (.f i) => match m[i]? with
        | some (_, .w _ n _) => κ (.o (.p (.int .i64 (n : Int)))) m
        | _ => none
      | some (.sl _), .o .z => κ (.o (.p (.int .i64 0))) m
      | some .str, .o (.p (.string s)) => κ (.o (.p (.int .i64 (s.size : Int)))) m
      | _, _ => none
    | _ => none
  | .max, [.o (.p (.int k x)), .o (.p (.int k' y))] => bif decide (k = k') then κ (.o (.p (.int k (if y > x then y else x)))) m else none
  | .min, [.o (.p (.int k x)), .o (.p (.int k' y))] => bif decide (k = k') then κ (.o (.p (.int k (if y < x then y else x)))) m else none
  | .append, [x, y] => match ts with
    | [t, tx] => match kindOf E t, E.ty tx with
      | some kd, some (.sl _) => appendK kd m x y κ
      | _, _ => none
    | _ => none
  | .copy, [.o (.f i), y] => match ts, m[i]? with
    | [t, _], some (.mine, .w kd n xs) => bif decide (kindOf E t = some kd) then copyK m i 0 n kd n xs y κ else none
    | _, _ => none
  | .copy, [.o (.s i k n), y] => match ts, m[i]? with
    | [t, _], some (.mine, .w kd n' xs) => bif decide (kindOf E t = some kd) then copyK m i k n kd n' xs y κ else none
    | _, _ => none
  | _, _ => none

/-- Which tmps an operation looks at. -/
def looks (all : Array Oper) (o : Oper) : List Nat :=
  (o.op.operands.toList.filterMap fun | .tmp t => some t | _ => none) ++ (match o.guard with | some (g, _) => ((all[g]?).bind (·.dst)).toList | none => [])
/-- Whoever must stand ahead of an operation, whatever the order: a bit for each. -/
def aheadOf (acc : List Nat) (es : List Edge) : Nat := es.foldl (fun s e => bif Region.binds .any e && decide (e.on < acc.length) then s ||| (2 ^ e.on) ||| acc.getD e.on 0 else s) 0
def aheadsFrom : List Oper → List Nat → List Nat
  | [], acc => acc
  | o :: l, acc => aheadsFrom l (acc ++ [aheadOf acc o.after.toList])
def aheads (ops : List Oper) : List Nat := aheadsFrom ops []
/-- Two operations of a drawn region, one ahead of the other in the text: they are tied, or neither looks at what the other lays; and they lay different slots. -/
def apart2 (ops : Array Oper) (tied : Bool) (o o' : Oper) : Bool :=
  (match o.dst with | some d => (tied || !(looks ops o').contains d) && o'.dst != some d | none => true) &&
  (match o'.dst with | some d => tied || !(looks ops o).contains d | none => true)
/-- Whatever order a drawn region takes, it comes to what the text's order comes to. -/
def calm (ops : Array Oper) : Bool :=
  let A := aheads ops.toList
  ops.toList.zipIdx.all fun q => q.1.after.all (fun e => !Region.binds .any e || decide (e.on < q.2)) && ops.toList.zipIdx.all fun q' => decide (q'.2 ≤ q.2) || apart2 ops ((A.getD q'.2 0).testBit q.2) q.1 q'.1

/-- 'x[:0:0]'. -/
def slice3K (E : Env) (m : Mem) (t : TypeId) (x : V) (lo hi : Option V) (c : V) (κ : V → Mem → R) : R :=
  match E.ty t with
  | some (.sl e) => match E.ty e with
    | some _ => match x, lo, hi, c with
      | .o v, none, some (.o (.p (.int _ h))), .o (.p (.int _ c)) => cond (isSlV m v && decide (h = 0 ∧ c = 0)) (κ (.o .z) m) none
      | _, _, _, _ => none
    | none => none
  | _ => none

/-- One operation. -/
def opK (E : Env) (tm : List V) (m : Mem) (o : Op) (κ : V → Mem → R) : R :=
  match o with
  | .move x | .assign x => κ (opnd tm x) m
  | .pick c a b => match opnd tm c with
    | .o (.p (.bool t)) => cond t (κ (opnd tm a) m) (κ (opnd tm b) m)
    | _ => none
  | .alloc t => match (E.ty t).bind Ty.zero with
    | some v => match blkOf v with
      | some b => κ (.o (.a m.length 0)) (m ++ [(.mine, b)])
      | none => none
    | none => none
  | .box t x => match E.ty t, opnd tm x with
    | some td, .o v => match blkOf v with
      | some b => cond (decide ((b matches .w ..) = (td matches .arr ..))) (κ (.o (.a m.length 0)) (m ++ [(.mine, b)])) none
      | none => none
    | _, _ => none
  | .build t ps => match E.ty t with
    | some (.arr n k) => match buildArr k (List.replicate n 0) (ps.toList.map fun q => (q.1, opnd tm q.2)) with
      | some xs => κ (.o (.r k n xs)) m
      | none => none
    | some (.st zs fs) => match placesOf E fs, realsOf (ps.toList.map fun q => (q.1, opnd tm q.2)) with
      | some pl, some rs => match Instr.fill (pl[·]?) zs.toArray rs with
        | some vs => κ (.o (.g vs.toList)) m
        | none => none
      | _, _ => none
    | _ => none
  | .buildSlice t n ps => match E.ty t with
    | some (.sl e) => match E.ty e with
      | some (.i k) => bif n == 0 then (bif ps.size == 0 then κ (.o .z) m else none) else
        match buildArr k (List.replicate n 0) (ps.toList.map fun q => (q.1, opnd tm q.2)) with
        | some xs => cond (decide (n ≤ 16777216)) (κ (.o (.f m.length)) (m ++ [(.mine, .w k n xs)])) none
        | none => none
      | some (.st zs _) => match realsOf (ps.toList.map fun q => (q.1, opnd tm q.2)) with
        | some rs => match Instr.fill (fun i => some (i * zs.length, zs.length)) ((Array.range (n * zs.length)).map (zs.toArray[· % zs.toArray.size]!)) rs with
          | some vs => cond (decide (0 < n * zs.length ∧ n * zs.length ≤ 16777216)) (κ (.o (.s m.length 0 n)) (m ++ [(.mine, .c vs.toList)])) none
          | none => none
        | none => none
      | _ => none
    | _ => none
  | .load t x => match E.ty t, opnd tm x with
    | some td, .o (.a i k) => loadV td m i k fun v => κ v m
    | _, _ => none
  | .store t x y => match E.ty t, opnd tm x, opnd tm y with
    | some td, .o (.a i k), .o v => storeV td m i k v κ
    | _, _, _ => none
  | .binOp op t x y _ => binK (E.ty t) op (opnd tm x) (opnd tm y) fun v => κ (.o v) m
  | .unOp .not _ x => match opnd tm x with
    | .o (.p (.bool b)) => κ (.o (.p (.bool (!b)))) m
    | _ => none
  | .unOp .neg _ x => match opnd tm x with
    | .o (.p (.int k x)) => κ (.o (.p (.int k (k.wrap (0 - x))))) m
    | _ => none
  | .convert s t x => match E.ty s, E.ty t, opnd tm x with
    | some _, some (.i k), .o (.p (.int _ x)) => κ (.o (.p (.int k (k.wrap x)))) m
    | _, _, _ => none
  | .makeSlice t l c => match kindOf E t, opnd tm l, opnd tm c with
    | some k, .o (.p (.int _ l)), .o (.p (.int _ c)) => cond (decide (0 ≤ l ∧ l ≤ c ∧ c ≤ 17592186044416)) (κ (.o (.f m.length)) (m ++ [(.mine, .w k l.toNat (List.replicate l.toNat 0))])) none
    | _, _, _ => none
  | .slice t x lo hi none => match E.ty t, opnd tm x with
    | some (.arr n _), .o (.a i 0) => match m[i]? with
      | some (_, .w _ n' _) => cond (decide (n' = n)) (bif lo.isNone && hi.isNone then κ (.o (.f i)) m else sliceBds n (lo.map (opnd tm)) (hi.map (opnd tm)) fun l h => κ (.o (.s i l (h - l))) m) none
      | _ => none
    | some (.sl e), .o (.f i) => match E.ty e, m[i]? with
      | some (.i _), some (_, .w _ n _) => sliceBds n (lo.map (opnd tm)) (hi.map (opnd tm)) fun l h => κ (.o (.s i l (h - l))) m
      | _, _ => none
    | some (.sl e), .o (.s i k n) => match E.ty e with
      | some (.i _) => sliceBds n (lo.map (opnd tm)) (hi.map (opnd tm)) fun l h => κ (.o (.s i (k + l) (h - l))) m
      | _ => none
    | some (.sl e), .o .z => match E.ty e with
      | some _ => sliceBds 0 (lo.map (opnd tm)) (hi.map (opnd tm)) fun _ _ => κ (.o .z) m
      | none => none
    | _, _ => none
  | .slice t x lo hi (some c) => slice3K E m t (opnd tm x) (lo.map (opnd tm)) (hi.map (opnd tm)) (opnd tm c) κ
  | .fieldAddr t x f => match E.ty t, opnd tm x with
    | some (.st _ fs), .o (.a i k) => match fs[f]? with
      | some (off, ft) => match E.ty ft with
        | some fd => cond (decide (fd.size = 0)) none (κ (.o (.a i (k + off))) m)
        | none => none
      | none => none
    | _, _ => none
  | .field t x f => match E.ty t, opnd tm x with
    | some (.st _ fs), .o (.g vs) => match fs[f]? with
      | some (off, ft) => match E.ty ft with
        | some td => match ofCells td ((vs.drop off).take td.size) with
          | some v => κ (.o v) m
          | none => none
        | none => none
      | none => none
    | _, _ => none
  | .indexAddr t x ix => match E.ty t, opnd tm x, opnd tm ix with
    | some (.arr n _), .o (.a i k), .o (.p (.int _ j)) => cond (decide (0 ≤ j ∧ j < (n : Int))) (κ (.o (.a i (k + j.toNat))) m) none
    | some (.sl e), .o (.f i), .o (.p (.int _ j)) => match E.ty e, m[i]? with
      | some (.i _), some (_, .w _ n _) => cond (decide (0 ≤ j ∧ j < (n : Int))) (κ (.o (.a i j.toNat)) m) none
      | _, _ => none
    | some (.sl e), .o (.s i k n), .o (.p (.int _ j)) => match (E.ty e).map Ty.size with
      | some sz => cond (decide (0 ≤ j ∧ j < (n : Int))) (κ (.o (.a i (k + j.toNat * sz))) m) none
      | none => none
    | _, _, _ => none
  | .index t x ix => match E.ty t, opnd tm x, opnd tm ix with
    | some (.arr n k), .o (.r k' n' xs), .o (.p (.int _ j)) => cond (decide (0 ≤ j ∧ j < (n : Int) ∧ k = k' ∧ n = n')) (κ (.o (.p (.int k (xs.getD j.toNat 0)))) m) none
    | some .str, .o (.p (.string s)), .o (.p (.int _ j)) => cond (decide (0 ≤ j ∧ j < (s.size : Int))) (κ (.o (.p (.int .u8 ((s.data.toList.getD j.toNat 0).toNat : Int)))) m) none
    | _, _, _ => none
  | .extract x i => match opnd tm x with
    | .t l => match l[i]? with
      | some v => κ (.o v) m
      | none => none
    | _ => none
  | .call c => match c.callee with
    | .value (.func f) => match E.fn f with
      | some F => contentsK m (c.args.toList.map (opnd tm)) fun ds => F ds fun res => bif shares res && anyOwn m (c.args.toList.map (opnd tm)) then none else κ (lone (resV (res.length == 1) m res).1) (resV (res.length == 1) m res).2
      | none => none
    | .builtin b => builtinK E b c.argTypes.toList m (c.args.toList.map (opnd tm)) κ
    | _ => none
  | _ => none

/-- The blocks that an operation writes, and those that it reads. -/
def foot (tm : List V) : Op → List Nat × List Nat
  | .store _ x _ => ((nameOf (opnd tm x)).toList, [])
  | .load _ x => ([], (nameOf (opnd tm x)).toList)
  | .slice _ x _ _ _ => ([], (nameOf (opnd tm x)).toList)
  | .call { callee := .builtin _, .. } => ([], [])
  | .call c => ([], c.args.toList.filterMap fun x => nameOf (opnd tm x))
  | _ => ([], [])
/-- These are taken in the text's order alone. -/
def writesMore : Op → Bool
  | .call { callee := .builtin .append, .. } => true
  | .call { callee := .builtin .copy, .. } => true
  | _ => false
abbrev Foots := List (Nat × List Nat × List Nat)
def clash (a : Nat) (acc : Foots) (f : List Nat × List Nat) : Bool :=
  acc.any fun q => !(a.testBit q.1) && (f.1.any (fun n => q.2.1.contains n || q.2.2.contains n) || q.2.1.any f.2.contains)

/-- The call's own blocks among these are no longer to be written. -/
def lendTo (m : Mem) : List V → Mem
  | [] => m
  | v :: l => lendTo (match nameOf v with
    | some i => match m[i]? with
      | some (.mine, b) => m.set i (.new, b)
      | _ => m
    | none => m) l
def lendK (E : Env) (tm : List V) (m : Mem) : Op → Mem
  | .call { callee := .value (.func f), args, .. } => bif E.give f then lendTo m (args.toList.map (opnd tm)) else m
  | _ => m

/-- Operations in the text's order; A: what stands ahead of each (a drawn region), none: the order is the text's. -/
def evOps (E : Env) (all : Array Oper) (A : Option (List Nat)) : List Oper → Nat → Foots → List V → Mem → (List V → Mem → R) → R
  | [], _, _, tm, m, κ => κ tm m
  | o :: rest, i, acc, tm, m, κ =>
    let go (tm : List V) : R :=
      match A with
      | none => opK E tm (lendK E tm m o.op) o.op fun v m => evOps E all A rest (i + 1) acc (putT tm o.dst v) m κ
      | some L => bif writesMore o.op || clash (L.getD i 0) acc (foot tm o.op) then none else
        opK E tm m o.op fun v m' => evOps E all A rest (i + 1) ((i, foot tm o.op) :: acc) (putT tm o.dst v) m' κ
    let pass (tm : List V) : R := evOps E all A rest (i + 1) acc (putT tm o.dst (.t [])) m κ
    match o.guard with
    | none => go tm
    | some (j, want) => match (all[j]?).bind (·.dst) with
      | some d => match getT tm d with
        | .o (.p (.bool b)) => cond b
          (bif want then go (tm.set d (.o (.p (.bool true)))) else pass (tm.set d (.o (.p (.bool true)))))
          (bif want then pass (tm.set d (.o (.p (.bool false)))) else go (tm.set d (.o (.p (.bool false)))))
        | .t [] => pass tm
        | _ => none
      | none => none

def renV (ns : List Nat) : V → V
  | .o (.a i k) => .o (.a (ns.idxOf i) k)
  | .o (.s i k n) => .o (.s (ns.idxOf i) k n)
  | .o (.f i) => .o (.f (ns.idxOf i))
  | .t _ => .o .u
  | v => v
def insOnce (ns : List Nat) (i : Nat) : List Nat := bif ns.contains i then ns else ns ++ [i]
/-- The blocks that live slots name, in the slots' order. -/
def namesOf (tm : List V) (L : List Nat) : List Nat := L.foldl (fun ns t => match nameOf (getT tm t) with | some i => insOnce ns i | none => ns) []
def gcT (L : List Nat) (tm : List V) : List V := tm.zipIdx.map fun q => bif L.contains q.2 then renV (namesOf tm L) q.1 else .o .u
def gcM (L : List Nat) (tm : List V) (m : Mem) : Mem := (namesOf tm L).map fun i => m.getD i (.old, .dead)

def loopN (L : List Nat) (body : List V → Mem → (X → List V → Mem → R) → R) : Nat → List V → Mem → (X → List V → Mem → R) → R
  | 0, _, _, _ => none
  | f + 1, tm, m, κ => body tm m fun x tm m => match x with
    | .normal => loopN L body f (gcT L tm) (gcM L tm m) κ
    | x => κ x tm m

/-- The same, what comes out told as far as the slots of Lx tell it. -/
def loopX (L Lx : List Nat) (body : List V → Mem → (X → List V → Mem → R) → R) : Nat → List V → Mem → (X → List V → Mem → R) → R
  | 0, _, _, _ => none
  | f + 1, tm, m, κ => body tm m fun x tm m => match x with
    | .normal => loopX L Lx body f (gcT L tm) (gcM L tm m) κ
    | x => κ x (gcT Lx tm) (gcM Lx tm m)

def ev (E : Env) : Nat → Code → List V → Mem → (X → List V → Mem → R) → R
  | _, .skip, tm, m, κ => κ .normal tm m
  | _, .region _ ops draw, tm, m, κ => bif draw && !calm ops then none else evOps E ops (bif draw then some (aheads ops.toList) else none) ops.toList 0 [] tm m fun tm m => κ .normal tm m
  | b, .seq x y, tm, m, κ => ev E b x tm m fun e tm m => match e with
    | .normal => ev E b y tm m κ
    | e => κ e tm m
  | b, .cond c x y, tm, m, κ => match c with
    | .tmp t => match getT tm t with
      | .o (.p (.bool v)) => cond v (ev E b x (tm.set t (.o (.p (.bool true)))) m κ) (ev E b y (tm.set t (.o (.p (.bool false)))) m κ)
      | _ => none
    | _ => none
  | _, .block id x, tm, m, κ => ev E id x tm m fun e tm m => match e with
    | .exit j => bif j == id then κ .normal tm m else κ (.exit j) tm m
    | e => κ e tm m
  | b, .loop x, tm, m, κ => match E.lp b with
    | some F => F (gcT (E.live b) tm) (gcM (E.live b) tm m) κ
    | none => loopN (E.live b) (fun tm m κ => ev E b x tm m κ) E.fuel (gcT (E.live b) tm) (gcM (E.live b) tm m) κ
  | _, .exit id, tm, m, κ => κ (.exit id) tm m
  | _, .ret, tm, m, κ => κ .ret tm m
  | _, _, _, _, _ => none

/-- The loops of some code, each with the block it stands in. -/
def loopsOf : Nat → Code → List (Nat × Code)
  | b, .seq x y => loopsOf b x ++ loopsOf b y
  | b, .cond _ x y => loopsOf b x ++ loopsOf b y
  | _, .block id x => loopsOf id x
  | b, .loop x => (b, x) :: loopsOf b x
  | _, _ => []

/-- What comes in, laid into memory. -/
def argV (m : Mem) : List D → List V × Mem
  | [] => ([], m)
  | .p v :: l => (.o (.p v) :: (argV m l).1, (argV m l).2)
  | .r k n xs :: l => (.o (.r k n xs) :: (argV m l).1, (argV m l).2)
  | .g cs :: l => (.o (.g cs) :: (argV m l).1, (argV m l).2)
  | .w k xs :: l => (.o (.f m.length) :: (argV (m ++ [(.old, .w k xs.length xs)]) l).1, (argV (m ++ [(.old, .w k xs.length xs)]) l).2)
  | .c n cs :: l => (.o (.s m.length 0 n) :: (argV (m ++ [(.old, .c cs)]) l).1, (argV (m ++ [(.old, .c cs)]) l).2)
def ownerOf (one : Bool) (m : Mem) : V → Own
  | .o (.f i) => match m[i]? with
    | some (.mine, _) => bif one then .mine else .new
    | some (ow, _) => ow
    | none => .old
  | .o (.s i k _) => match m[i]? with
    | some (.mine, _) => bif one && k == 0 then .mine else .new
    | some (ow, _) => ow
    | none => .old
  | _ => .mine
def outK (E : Env) (one : Bool) (tm : List V) (m : Mem) (rv : ResultVar) (ty : TypeId) (κ : Own × D → R) : R :=
  match rv with
  | .tmp t => match getT tm t with
    | .o .z => match kindOf E ty with
      | some k => κ (.mine, .w k [])
      | none => none
    | v => contentK m v fun d => κ (ownerOf one m v, d)
  | .cell t ty => match getT tm t, E.ty ty with
    | .o (.a i 0), some td => match m[i]? with
      | some (_, .w kd n xs) => match td with
        | .arr n' _ => cond (decide (n = n')) (κ (.mine, .r kd n xs)) none
        | _ => none
      | some (_, .c vs) => cond (decide (td.size = vs.length)) (match ofCells td vs with
        | some (.p v) => κ (.mine, .p v)
        | some (.g cs) => κ (.mine, .g cs)
        | _ => none) none
      | _ => none
    | _, _ => none
def outsK (E : Env) (one : Bool) (tm : List V) (m : Mem) : List (ResultVar × TypeId) → (List (Own × D) → R) → R
  | [], κ => κ []
  | (r, t) :: l, κ => outK E one tm m r t fun d => outsK E one tm m l fun ds => κ (d :: ds)
/-- A call of a function, evaluated. -/
def evFn (E : Env) (f : Func) (args : List D) : R :=
  match f.body with
  | none => none
  | some c => bif args.length == f.params.size && f.nfree == 0 then
      ev E 0 c ((argV [] args).1 ++ List.replicate (f.ntmps - args.length) (.o .u)) (argV [] args).2 fun x tm m => match x with
        | .exit _ => none
        | _ => outsK E (f.results.size == 1) tm m (f.results.toList.zip f.resultTypes.toList) some
    else none
end Go.Vm
