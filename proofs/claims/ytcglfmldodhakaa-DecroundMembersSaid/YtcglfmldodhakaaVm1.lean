/-
  A small evaluator of code over virtual memory, and what one operation does on the machine. No statement is proved here.
-/
import Derived.WalkKit
import Derived.Orders
import Derived.Deep.MidRow
import Derived.Below
import Derived.OrdersHeld
import Derived.Laws.Tables
import Derived.Great.BuildSlice

namespace Go.Vm

/-- A block of memory: whole numbers of one kind (and how many), or cells. -/
inductive Blk where
  | w (k : IntKind) (n : Nat) (xs : List Int)
  | c (vs : List Value)
  | dead

/-- What a slot holds: a plain value; an array of whole numbers; a struct's cells; the address of a cell; a slice; a block of numbers as a slice, whole; the slice without room; nothing that is known. -/
inductive V0 where
  | p (v : Value)
  | r (k : IntKind) (n : Nat) (xs : List Int)
  | g (vs : List Value)
  | a (i k : Nat)
  | s (i k n : Nat)
  | f (i : Nat)
  | z
  | u

inductive V where
  | o (x : V0)
  | t (l : List V0)

/-- What is handed from function to function. -/
inductive D where
  | p (v : Value)
  | r (k : IntKind) (n : Nat) (xs : List Int)
  | g (vs : List Value)
  | w (k : IntKind) (xs : List Int)
  | c (n : Nat) (vs : List Value)

/-- What is known of a type: a number, a bool, a string, an array of numbers, a struct (its zero cells; each field's place and type), a slice. -/
inductive Ty where
  | i (k : IntKind)
  | b
  | str
  | arr (n : Nat) (k : IntKind)
  | st (zs : List Value) (fs : List (Nat × TypeId))
  | sl (e : TypeId)
  | ar (n : Nat) (zs : List Value) (e : TypeId)

/-- Whose a block is: the call's own, and to be written; new in the call; led to from elsewhere. -/
inductive Own where
  | mine | new | old
  deriving DecidableEq
abbrev Mem := List (Own × Blk)
abbrev R := Option (List (Own × D))

inductive X where
  | normal
  | exit (id : Nat)
  | ret

structure Env where
  ty : TypeId → Option Ty
  /-- a call: what comes of it, each with whose it is -/
  fn : FuncId → Option (List D → (List (Own × D) → R) → R)
  /-- what is live at the head of the loop in this block -/
  live : Nat → List Nat
  fuel : Nat
  /-- a loop, by the block it stands in: what comes of it, from its head on -/
  lp : Nat → Option (List V → Mem → (X → List V → Mem → R) → R) := fun _ => none
  /-- what is live behind the loop in this block (of a loop that has a contract) -/
  out : Nat → List Nat := fun _ => []
  /-- functions whose results may lead into what was handed to them: that is given up ahead of the call -/
  give : FuncId → Bool := fun _ => false

/-- Not a function: where a call's 'give' holds of it, slices that are laid out are not to be written. -/
def softId : FuncId := 1000000
def cellsW (k : IntKind) (n : Nat) (xs : List Int) : List Value := (List.range n).map fun j => .int k (xs.getD j 0)
def intOf' : Value → Int | .int _ x => x | _ => 0

def Ty.size : Ty → Nat
  | .arr n _ => n
  | .st zs _ => zs.length
  | .ar _ zs _ => zs.length
  | _ => 1
def Ty.isAgg : Ty → Bool
  | .arr .. => true
  | .st .. => true
  | .ar .. => true
  | _ => false
def Ty.zero : Ty → Option V0
  | .i k => some (.p (.int k 0))
  | .b => some (.p (.bool false))
  | .str => some (.p (.string ByteArray.empty))
  | .arr n k => some (.r k n (List.replicate n 0))
  | .st zs _ => some (.g zs)
  | .sl _ => some .z
  | .ar _ zs _ => some (.g zs)

def V0.cells : V0 → Option (List Value)
  | .p v => some [v]
  | .r k n xs => some (cellsW k n xs)
  | .g vs => some vs
  | _ => none

def isKind (k : IntKind) : Value → Bool
  | .int k' _ => decide (k' = k)
  | _ => false
/-- A value out of its cells. -/
def ofCells : Ty → List Value → Option V0
  | .i _, [v] => some (.p v)
  | .b, [v] => some (.p v)
  | .str, [v] => some (.p v)
  | .arr n k, vs => bif vs.all (isKind k) && vs.length == n then some (.r k n (vs.map intOf')) else none
  | .st zs _, vs => bif vs.length == zs.length then some (.g vs) else none
  | _, _ => none

def blkOf : V0 → Option Blk
  | .p v => some (.c [v])
  | .r k n xs => some (.w k n xs)
  | .g vs => some (.c vs)
  | _ => none

def getT (tm : List V) (t : Nat) : V := tm.getD t (.o .u)
def putT (tm : List V) (d : Option Nat) (v : V) : List V := match d with | some d => tm.set d v | none => tm

/-- How long a slice or a string may be. -/
def lim : Nat := 2 ^ 47
/-- A plain value of its kind's range. -/
def wfB : Value → Bool
  | .int k n => decide (k.min ≤ n) && decide (n ≤ k.max)
  | .bool _ => true
  | .string s => decide (s.size ≤ lim)
  | _ => false
def constV : Value → V0
  | .int k n => bif wfB (.int k n) then .p (.int k n) else .u
  | .bool b => .p (.bool b)
  | .string s => bif wfB (.string s) then .p (.string s) else .u
  | .slice none 0 0 => .z
  | _ => .u

def opnd (tm : List V) : Operand → V
  | .tmp t => getT tm t
  | .const v => .o (constV v)
  | _ => .o .u

/-- The blocks that a value names, as data. -/
def splice {α : Type} (l : List α) (k : Nat) (new : List α) : List α := l.take k ++ new ++ l.drop (k + new.length)

def loadV (td : Ty) (m : Mem) (i k : Nat) (κ : V → R) : R :=
  match m[i]? with
  | some (_, .w kd n xs) => match td with
    | .i _ => cond (decide (k < n)) (κ (.o (.p (.int kd (xs.getD k 0))))) none
    | .arr n' _ => cond (decide (k = 0 ∧ n' = n)) (κ (.o (.r kd n xs))) none
    | _ => none
  | some (_, .c vs) => cond (decide (k + td.size ≤ vs.length)) (match ofCells td ((vs.drop k).take td.size) with | some v => κ (.o v) | none => none) none
  | _ => none

def storeV (td : Ty) (m : Mem) (i k : Nat) (x : V0) (κ : V → Mem → R) : R :=
  match m[i]? with
  | some (.mine, .w kd n xs) => match x with
    | .p (.int kd' v) => cond (decide (k < n ∧ kd' = kd ∧ td.size = 1)) (κ (.o .u) (m.set i (.mine, .w kd n (xs.set k v)))) none
    | .r kd' n' ys => cond (decide (k = 0 ∧ n' = n ∧ kd' = kd ∧ td.size = n)) (κ (.o .u) (m.set i (.mine, .w kd n ys))) none
    | _ => none
  | some (.mine, .c vs) => match x.cells with
    | some cs => cond (decide (k + cs.length ≤ vs.length ∧ td.size = cs.length)) (κ (.o .u) (m.set i (.mine, .c (splice vs k cs)))) none
    | none => none
  | _ => none

def eqCells : List Value → List Value → Option Bool
  | [], [] => some true
  | .int k x :: l, .int k' y :: l' => if k = k' then (eqCells l l').map (cond (x == y) · false) else none
  | .bool x :: l, .bool y :: l' => (eqCells l l').map (cond (x == y) · false)
  | .string x :: l, .string y :: l' => (eqCells l l').map (cond (x == y) · false)
  | _, _ => none
/-- Are these cells of the kinds of those? -/
def likeZ : List Value → List Value → Bool
  | [], [] => true
  | .int k _ :: l, .int k' _ :: l' => decide (k = k') && likeZ l l'
  | .bool _ :: l, .bool _ :: l' => likeZ l l'
  | .string _ :: l, .string _ :: l' => likeZ l l'
  | _, _ => false

def eqV (td : Option Ty) : V0 → V0 → Option Bool
  | .p (.bool x), .p (.bool y) => match td with
    | some .b => some (x == y)
    | _ => none
  | .p (.string x), .p (.string y) => match td with
    | some .str => some (x == y)
    | _ => none
  | .r k n xs, .r k' n' ys => match td with
    | some (.arr n'' k'') => bif decide (n = n'' ∧ n' = n'' ∧ k = k'' ∧ k' = k'') then some (decide (xs = ys)) else none
    | _ => none
  | .g xs, .g ys => match td with
    | some (.st zs _) => bif likeZ zs xs && likeZ zs ys then eqCells xs ys else none
    | _ => none
  | _, _ => none

/-- An operation on two whole numbers of one kind: does it fail, and what it comes to. -/
def intV (op : BinOp) (k : IntKind) (x y : Int) : Option (Bool × Value) :=
  match op with
  | .add => some (false, .int k (k.wrap (x + y)))
  | .sub => some (false, .int k (k.wrap (x - y)))
  | .mul => some (false, .int k (k.wrap (x * y)))
  | .quo => some (decide (y = 0), .int k (k.wrap (x.tdiv y)))
  | .rem => some (decide (y = 0), .int k (x.tmod y))
  | .and => some (false, .int k (Go.bits .and k x y))
  | .or => some (false, .int k (Go.bits .or k x y))
  | .xor => some (false, .int k (Go.bits .xor k x y))
  | .andNot => some (false, .int k (Go.bits .andNot k x y))
  | .eql => some (false, .bool (x == y))
  | .neq => some (false, .bool (x != y))
  | .lss => some (false, .bool (decide (x < y)))
  | .leq => some (false, .bool (decide (x ≤ y)))
  | .gtr => some (false, .bool (decide (x > y)))
  | .geq => some (false, .bool (decide (x ≥ y)))
  | _ => none

def shlI (k : IntKind) (x y : Int) : Int := k.wrap (x * 2 ^ (min y.toNat k.bits))
def shrI (k : IntKind) (x y : Int) : Int := x.fdiv (2 ^ (min y.toNat k.bits))

def binV (td : Option Ty) (op : BinOp) (x y : V) : Option (Bool × Value) :=
  match op, x, y with
  | .shl, .o (.p (.int k a)), .o (.p (.int _ b)) => some (decide (b < 0), .int k (shlI k a b))
  | .shr, .o (.p (.int k a)), .o (.p (.int _ b)) => some (decide (b < 0), .int k (shrI k a b))
  | op, .o (.p (.int k a)), .o (.p (.int k' b)) => if k = k' then intV op k a b else none
  | .add, .o (.p (.string a)), .o (.p (.string b)) => match td with
    | some .str => some (decide (lim < a.size + b.size), .string (a ++ b))
    | _ => none
  | .eql, .o x, .o y => match eqV td x y with | some b => some (false, .bool b) | none => none
  | .neq, .o x, .o y => match eqV td x y with | some b => some (false, .bool (!b)) | none => none
  | _, _, _ => none
def binK (td : Option Ty) (op : BinOp) (x y : V) (κ : V0 → R) : R :=
  match binV td op x y with
  | some (bad, v) => cond bad none (κ (.p v))
  | none => none

def buildArr (k : IntKind) (xs : List Int) : List (Nat × V) → Option (List Int)
  | [] => some xs
  | (i, .o (.p (.int k' x))) :: l => bif decide (i < xs.length ∧ k' = k) then buildArr k (xs.set i x) l else none
  | _ => none
def realOf : V → Option Value
  | .o (.p v) => some v
  | .o (.r k n xs) => some (.agg (cellsW k n xs).toArray)
  | .o (.g vs) => some (.agg vs.toArray)
  | _ => none
def realsOf : List (Nat × V) → Option (List (Nat × Value))
  | [] => some []
  | (i, v) :: l => match realOf v, realsOf l with
    | some r, some rs => some ((i, r) :: rs)
    | _, _ => none
/-- The places of a struct's fields. -/
def placesOf (E : Env) : List (Nat × TypeId) → Option (List (Nat × Nat))
  | [] => some []
  | (off, t) :: l => match E.ty t, placesOf E l with
    | some td, some ps => some ((off, td.size) :: ps)
    | _, _ => none

def kindHd : List Value → Option IntKind
  | .int k _ :: _ => some k
  | _ => none
/-- The content of what is handed on. -/
def contentK (m : Mem) (v : V) (κ : D → R) : R :=
  match v with
  | .o (.p v) => κ (.p v)
  | .o (.r k n xs) => κ (.r k n xs)
  | .o (.g vs) => κ (.g vs)
  | .o .z => κ (.w .u64 [])
  | .o (.f i) => match m[i]? with
    | some (_, .w kd _ xs) => κ (.w kd xs)
    | _ => none
  | .o (.s i k n) => match m[i]? with
    | some (_, .w kd n' xs) => cond (decide (k + n ≤ n')) (κ (.w kd ((xs.drop k).take n))) none
    | some (_, .c vs) => bif k == 0 then cond (decide (k = 0 ∧ 0 < n ∧ 0 < vs.length)) (κ (.c n vs)) none
      else match kindHd (vs.drop k) with
        | some kd => cond (decide (k + n ≤ vs.length) && ((vs.drop k).take n).all (isKind kd)) (κ (.w kd (((vs.drop k).take n).map intOf'))) none
        | none => none
    | _ => none
  | _ => none
def contentsK (m : Mem) : List V → (List D → R) → R
  | [], κ => κ []
  | v :: l, κ => contentK m v fun d => contentsK m l fun ds => κ (d :: ds)

def unlessOne (one : Bool) (ow : Own) : Own := bif one then ow else match ow with | .mine => .new | ow => ow
/-- What comes back from a call, laid into memory; 'one': nothing else comes back. -/
def resV (one : Bool) (m : Mem) : List (Own × D) → List V0 × Mem
  | [] => ([], m)
  | (_, .p v) :: l => (.p v :: (resV one m l).1, (resV one m l).2)
  | (_, .r k n xs) :: l => (.r k n xs :: (resV one m l).1, (resV one m l).2)
  | (_, .g cs) :: l => (.g cs :: (resV one m l).1, (resV one m l).2)
  | (ow, .w k xs) :: l => (.f m.length :: (resV one (m ++ [(unlessOne one ow, .w k xs.length xs)]) l).1, (resV one (m ++ [(unlessOne one ow, .w k xs.length xs)]) l).2)
  | (ow, .c n cs) :: l => (.s m.length 0 n :: (resV one (m ++ [(unlessOne one ow, .c cs)]) l).1, (resV one (m ++ [(unlessOne one ow, .c cs)]) l).2)
def lone : List V0 → V
  | [x] => .o x
  | l => .t l
def shares : List (Own × D) → Bool
  | [] => false
  | (.old, .w ..) :: _ => true
  | (.old, .c ..) :: _ => true
  | _ :: l => shares l
def nameOf : V → Option Nat
  | .o (.a i _) => some i
  | .o (.s i _ _) => some i
  | .o (.f i) => some i
  | _ => none
/-- Is one of these blocks the call's own? -/
def anyOwn (m : Mem) (l : List V) : Bool := l.any fun v => match nameOf v with
  | some i => match m[i]? with
    | some (.mine, _) => true
    | _ => false
  | none => false

def sliceBds (n : Nat) (lo hi : Option V) (κ : Nat → Nat → R) : R :=
  let withHi (h : Nat) : R := match lo with
    | none => κ 0 h
    | some (.o (.p (.int _ l))) => cond (decide (0 ≤ l ∧ l ≤ (h : Int))) (κ l.toNat h) none
    | _ => none
  match hi with
  | none => withHi n
  | some (.o (.p (.int _ h))) => cond (decide (0 ≤ h ∧ h ≤ (n : Int))) (withHi h.toNat) none
  | _ => none

/-- Is that a slice? -/
def isSlV (m : Mem) : V0 → Bool
  | .s .. => true
  | .z => true
  | .f i => (m[i]?).any fun | (_, .w ..) => true | _ => false
  | _ => false
def kindOf (E : Env) (t : TypeId) : Option IntKind := match E.ty t with
  | some (.sl e) => match E.ty e with
    | some (.i k) => some k
    | _ => none
  | _ => none
def elemSize (E : Env) (t : TypeId) : Option Nat := match E.ty t with
  | some (.sl e) => (E.ty e).map Ty.size
  | _ => none

def appendK (kd : IntKind) (m : Mem) (x y : V) (κ : V → Mem → R) : R :=
  contentK m y fun d => match d with
    | .w kd' ys => match x with
      | .o .z => cond (decide (kd = kd' ∧ ys.length ≤ 17592186044416)) (κ (.o (.f m.length)) (m ++ [(.mine, .w kd ys.length ys)])) none
      | .o (.f i) => match m[i]? with
        | some (.mine, .w kx nx xs) => cond (decide (kd = kd' ∧ kx = kd ∧ nameOf y ≠ some i ∧ nx + ys.length ≤ 17592186044416)) (κ (.o (.f m.length)) (m.set i (.old, .dead) ++ [(.mine, .w kd (nx + ys.length) (xs ++ ys))])) none
        | _ => none
      | _ => none
    | _ => none

def copyK (m : Mem) (i k n : Nat) (kd : IntKind) (n' : Nat) (xs : List Int) (y : V) (κ : V → Mem → R) : R :=
  contentK m y fun d => match d with
    | .w kd' ys => cond (decide (kd = kd' ∧ k + n ≤ n' ∧ nameOf y ≠ some i)) (κ (.o (.p (.int .i64 ((min ys.length n : Nat) : Int)))) (m.set i (.mine, .w kd n' (splice xs k (ys.take n))))) none
    | _ => none

def builtinK (E : Env) (b : Builtin) (ts : List TypeId) (m : Mem) (args : List V) (κ : V → Mem → R) : R :=
  match b, args with
  | .len, [x] => match ts with
    | t :: _ => match E.ty t, x with
      | some (.sl _), .o (.s _ _ n) => κ (.o (.p (.int .i64 (n : Int)))) m
      | some (.sl _), .o (.f i) => match m[i]? with
        | some (_, .w _ n _) => κ (.o (.p (.int .i64 (n : Int)))) m
        | _ => none
      | some (.sl _), .o .z => κ (.o (.p (.int .i64 0))) m
      | some .str, .o (.p (.string s)) => κ (.o (.p (.int .i64 (s.size : Int)))) m
      | _, _ => none
    | _ => none
  | .max, [.o (.p (.int k x)), .o (.p (.int k' y))] => bif decide (k = k') then κ (.o (.p (.int k (if y > x then y else x)))) m else none
  | .min, [.o (.p (.int k x)), .o (.p (.int k' y))] => bif decide (k = k') then κ (.o (.p (.int k (if y < x then y else x)))) m else none
  | .append, [x, y] => match ts with
    | [t, tx] => match kindOf E t, E.ty tx with
      | some kd, some (.sl _) => appendK kd m x y κ
      | _, _ => none
    | _ => none
  | .copy, [.o (.f i), y] => match ts, m[i]? with
    | [t, _], some (.mine, .w kd n xs) => bif decide (kindOf E t = some kd) then copyK m i 0 n kd n xs y κ else none
    | _, _ => none
  | .copy, [.o (.s i k n), y] => match ts, m[i]? with
    | [t, _], some (.mine, .w kd n' xs) => bif decide (kindOf E t = some kd) then copyK m i k n kd n' xs y κ else none
    | _, _ => none
  | _, _ => none

/-- Which tmps an operation looks at. -/
def looks (all : Array Oper) (o : Oper) : List Nat :=
  (o.op.operands.toList.filterMap fun | .tmp t => some t | _ => none) ++ (match o.guard with | some (g, _) => ((all[g]?).bind (·.dst)).toList | none => [])
/-- Whoever must stand ahead of an operation, whatever the order: a bit for each. -/
def aheadOf (acc : List Nat) (es : List Edge) : Nat := es.foldl (fun s e => bif Region.binds .any e && decide (e.on < acc.length) then s ||| (2 ^ e.on) ||| acc.getD e.on 0 else s) 0
def aheadsFrom : List Oper → List Nat → List Nat
  | [], acc => acc
  | o :: l, acc => aheadsFrom l (acc ++ [aheadOf acc o.after.toList])
def aheads (ops : List Oper) : List Nat := aheadsFrom ops []
/-- Two operations of a drawn region, one ahead of the other in the text: they are tied, or neither looks at what the other lays; and they lay different slots. -/
def apart2 (ops : Array Oper) (tied : Bool) (o o' : Oper) : Bool :=
  (match o.dst with | some d => (tied || !(looks ops o').contains d) && o'.dst != some d | none => true) &&
  (match o'.dst with | some d => tied || !(looks ops o).contains d | none => true)
/-- Whatever order a drawn region takes, it comes to what the text's order comes to. -/
def calm (ops : Array Oper) : Bool :=
  let A := aheads ops.toList
  ops.toList.zipIdx.all fun q => q.1.after.all (fun e => !Region.binds .any e || decide (e.on < q.2)) && ops.toList.zipIdx.all fun q' => decide (q'.2 ≤ q.2) || apart2 ops ((A.getD q'.2 0).testBit q.2) q.1 q'.1

/-- 'x[:0:0]'. -/
def slice3K (E : Env) (m : Mem) (t : TypeId) (x : V) (lo hi : Option V) (c : V) (κ : V → Mem → R) : R :=
  match E.ty t with
  | some (.sl e) => match E.ty e with
    | some _ => match x, lo, hi, c with
      | .o v, none, some (.o (.p (.int _ h))), .o (.p (.int _ c)) => cond (isSlV m v && decide (h = 0 ∧ c = 0)) (κ (.o .z) m) none
      | _, _, _, _ => none
    | none => none
  | _ => none

/-- Is that the test of a slice against nil? -/
def isNilTest (op : BinOp) (y : Operand) : Bool := match op, y with
  | .eql, .const (.slice none 0 0) => true
  | _, _ => false
def slLen (m : Mem) : V0 → Option Nat
  | .s _ _ n => some n
  | .z => some 0
  | .f i => match m[i]? with
    | some (_, .w _ n _) => some n
    | _ => none
  | _ => none
/-- Both come to the same. -/
noncomputable def both (a b : R) : R := open Classical in if a = b then a else none
theorem both_same (a : R) : both a a = a := if_pos rfl
theorem both_some {a b : R} {r : List (Own × D)} (h : both a b = some r) : a = some r ∧ b = some r := by
  unfold both at h
  split at h
  · rename_i e; subst e; exact ⟨h, h⟩
  · cases h
/-- 'x == nil' of a slice: only an empty one may be nil. -/
noncomputable def nilK (E : Env) (t : TypeId) (m : Mem) (x : V) (κ : V → Mem → R) : R :=
  match E.ty t, x with
  | some (.sl _), .o v => match slLen m v with
    | some n => both (cond (decide (n = 0)) (κ (.o (.p (.bool true))) m) (κ (.o (.p (.bool false))) m)) (κ (.o (.p (.bool false))) m)
    | none => none
  | _, _ => none

/-- One operation. -/
noncomputable def opK (E : Env) (tm : List V) (m : Mem) (o : Op) (κ : V → Mem → R) : R :=
  match o with
  | .move x | .assign x => κ (opnd tm x) m
  | .pick c a b => match opnd tm c with
    | .o (.p (.bool t)) => cond t (κ (opnd tm a) m) (κ (opnd tm b) m)
    | _ => none
  | .alloc t => match (E.ty t).bind Ty.zero with
    | some v => match blkOf v with
      | some b => κ (.o (.a m.length 0)) (m ++ [(.mine, b)])
      | none => none
    | none => none
  | .box t x => match E.ty t, opnd tm x with
    | some td, .o v => match blkOf v with
      | some b => cond (decide ((b matches .w ..) = (td matches .arr ..))) (κ (.o (.a m.length 0)) (m ++ [(.mine, b)])) none
      | none => none
    | _, _ => none
  | .build t ps => match E.ty t with
    | some (.arr n k) => match buildArr k (List.replicate n 0) (ps.toList.map fun q => (q.1, opnd tm q.2)) with
      | some xs => κ (.o (.r k n xs)) m
      | none => none
    | some (.st zs fs) => match placesOf E fs, realsOf (ps.toList.map fun q => (q.1, opnd tm q.2)) with
      | some pl, some rs => match Instr.fill (pl[·]?) zs.toArray rs with
        | some vs => κ (.o (.g vs.toList)) m
        | none => none
      | _, _ => none
    | _ => none
  | .buildSlice t n ps => match E.ty t with
    | some (.sl e) => match E.ty e with
      | some (.i k) => bif n == 0 then (bif ps.size == 0 then κ (.o .z) m else none) else
        match buildArr k (List.replicate n 0) (ps.toList.map fun q => (q.1, opnd tm q.2)) with
        | some xs => cond (decide (n ≤ 16777216)) (κ (.o (.f m.length)) (m ++ [(bif E.give softId then .new else .mine, .w k n xs)])) none
        | none => none
      | some (.st zs _) => match realsOf (ps.toList.map fun q => (q.1, opnd tm q.2)) with
        | some rs => match Instr.fill (fun i => some (i * zs.length, zs.length)) ((Array.range (n * zs.length)).map (zs.toArray[· % zs.toArray.size]!)) rs with
          | some vs => cond (decide (0 < n * zs.length ∧ n * zs.length ≤ 16777216)) (κ (.o (.s m.length 0 n)) (m ++ [(.mine, .c vs.toList)])) none
          | none => none
        | none => none
      | _ => none
    | _ => none
  | .load t x => match E.ty t, opnd tm x with
    | some td, .o (.a i k) => loadV td m i k fun v => κ v m
    | _, _ => none
  | .store t x y => match E.ty t, opnd tm x, opnd tm y with
    | some td, .o (.a i k), .o v => storeV td m i k v κ
    | _, _, _ => none
  | .binOp op t x y _ => bif isNilTest op y then nilK E t m (opnd tm x) κ else binK (E.ty t) op (opnd tm x) (opnd tm y) fun v => κ (.o v) m
  | .unOp .not _ x => match opnd tm x with
    | .o (.p (.bool b)) => κ (.o (.p (.bool (!b)))) m
    | _ => none
  | .unOp .neg _ x => match opnd tm x with
    | .o (.p (.int k x)) => κ (.o (.p (.int k (k.wrap (0 - x))))) m
    | _ => none
  | .convert s t x => match E.ty s, E.ty t, opnd tm x with
    | some _, some (.i k), .o (.p (.int _ x)) => κ (.o (.p (.int k (k.wrap x)))) m
    | _, _, _ => none
  | .makeSlice t l c => match kindOf E t, opnd tm l, opnd tm c with
    | some k, .o (.p (.int _ l)), .o (.p (.int _ c)) => cond (decide (0 ≤ l ∧ l ≤ c ∧ c ≤ 17592186044416)) (κ (.o (.f m.length)) (m ++ [(.mine, .w k l.toNat (List.replicate l.toNat 0))])) none
    | _, _, _ => none
  | .slice t x lo hi none => match E.ty t, opnd tm x with
    | some (.arr n _), .o (.a i 0) => match m[i]? with
      | some (_, .w _ n' _) => cond (decide (n' = n)) (bif lo.isNone && hi.isNone then κ (.o (.f i)) m else sliceBds n (lo.map (opnd tm)) (hi.map (opnd tm)) fun l h => κ (.o (.s i l (h - l))) m) none
      | _ => none
    | some (.sl e), .o (.f i) => match E.ty e, m[i]? with
      | some (.i _), some (_, .w _ n _) => sliceBds n (lo.map (opnd tm)) (hi.map (opnd tm)) fun l h => κ (.o (.s i l (h - l))) m
      | _, _ => none
    | some (.sl e), .o (.s i k n) => match E.ty e with
      | some (.i _) => sliceBds n (lo.map (opnd tm)) (hi.map (opnd tm)) fun l h => κ (.o (.s i (k + l) (h - l))) m
      | _ => none
    | some (.sl e), .o .z => match E.ty e with
      | some _ => sliceBds 0 (lo.map (opnd tm)) (hi.map (opnd tm)) fun _ _ => κ (.o .z) m
      | none => none
    | some (.arr n _), .o (.a i k) => match m[i]? with
      | some (_, .c vs) => cond (decide (k + n ≤ vs.length ∧ 0 < n)) (bif lo.isNone && hi.isNone then κ (.o (.s i k n)) m else none) none
      | _ => none
    | _, _ => none
  | .slice t x lo hi (some c) => slice3K E m t (opnd tm x) (lo.map (opnd tm)) (hi.map (opnd tm)) (opnd tm c) κ
  | .fieldAddr t x f => match E.ty t, opnd tm x with
    | some (.st _ fs), .o (.a i k) => match fs[f]? with
      | some (off, ft) => match E.ty ft with
        | some fd => cond (decide (fd.size = 0)) none (κ (.o (.a i (k + off))) m)
        | none => none
      | none => none
    | _, _ => none
  | .field t x f => match E.ty t, opnd tm x with
    | some (.st _ fs), .o (.g vs) => match fs[f]? with
      | some (off, ft) => match E.ty ft with
        | some td => match ofCells td ((vs.drop off).take td.size) with
          | some v => κ (.o v) m
          | none => none
        | none => none
      | none => none
    | _, _ => none
  | .indexAddr t x ix => match E.ty t, opnd tm x, opnd tm ix with
    | some (.arr n _), .o (.a i k), .o (.p (.int _ j)) => cond (decide (0 ≤ j ∧ j < (n : Int))) (κ (.o (.a i (k + j.toNat))) m) none
    | some (.sl e), .o (.f i), .o (.p (.int _ j)) => match E.ty e, m[i]? with
      | some (.i _), some (_, .w _ n _) => cond (decide (0 ≤ j ∧ j < (n : Int))) (κ (.o (.a i j.toNat)) m) none
      | _, _ => none
    | some (.sl e), .o (.s i k n), .o (.p (.int _ j)) => match (E.ty e).map Ty.size with
      | some sz => cond (decide (0 ≤ j ∧ j < (n : Int))) (κ (.o (.a i (k + j.toNat * sz))) m) none
      | none => none
    | some (.ar n _ e), .o (.a i k), .o (.p (.int _ j)) => match (E.ty e).map Ty.size with
      | some sz => cond (decide (0 ≤ j ∧ j < (n : Int))) (κ (.o (.a i (k + j.toNat * sz))) m) none
      | none => none
    | _, _, _ => none
  | .index t x ix => match E.ty t, opnd tm x, opnd tm ix with
    | some (.arr n k), .o (.r k' n' xs), .o (.p (.int _ j)) => cond (decide (0 ≤ j ∧ j < (n : Int) ∧ k = k' ∧ n = n')) (κ (.o (.p (.int k (xs.getD j.toNat 0)))) m) none
    | some .str, .o (.p (.string s)), .o (.p (.int _ j)) => cond (decide (0 ≤ j ∧ j < (s.size : Int))) (κ (.o (.p (.int .u8 ((s.data.toList.getD j.toNat 0).toNat : Int)))) m) none
    | _, _, _ => none
  | .extract x i => match opnd tm x with
    | .t l => match l[i]? with
      | some v => κ (.o v) m
      | none => none
    | _ => none
  | .call c => match c.callee with
    | .value (.func f) => match E.fn f with
      | some F => contentsK m (c.args.toList.map (opnd tm)) fun ds => F ds fun res => bif shares res && anyOwn m (c.args.toList.map (opnd tm)) then none else κ (lone (resV (res.length == 1) m res).1) (resV (res.length == 1) m res).2
      | none => none
    | .builtin b => builtinK E b c.argTypes.toList m (c.args.toList.map (opnd tm)) κ
    | _ => none
  | _ => none

/-- The blocks that an operation writes, and those that it reads. -/
def foot (tm : List V) : Op → List Nat × List Nat
  | .store _ x _ => ((nameOf (opnd tm x)).toList, [])
  | .load _ x => ([], (nameOf (opnd tm x)).toList)
  | .slice _ x _ _ _ => ([], (nameOf (opnd tm x)).toList)
  | .call { callee := .builtin _, .. } => ([], [])
  | .call c => ([], c.args.toList.filterMap fun x => nameOf (opnd tm x))
  | _ => ([], [])
/-- These are taken in the text's order alone. -/
def writesMore : Op → Bool
  | .call { callee := .builtin .append, .. } => true
  | .call { callee := .builtin .copy, .. } => true
  | .binOp op _ _ y _ => isNilTest op y
  | _ => false
abbrev Foots := List (Nat × List Nat × List Nat)
def clash (a : Nat) (acc : Foots) (f : List Nat × List Nat) : Bool :=
  acc.any fun q => !(a.testBit q.1) && (f.1.any (fun n => q.2.1.contains n || q.2.2.contains n) || q.2.1.any f.2.contains)

/-- The call's own blocks among these are no longer to be written. -/
def lendTo (m : Mem) : List V → Mem
  | [] => m
  | v :: l => lendTo (match nameOf v with
    | some i => match m[i]? with
      | some (.mine, b) => m.set i (.new, b)
      | _ => m
    | none => m) l
def lendK (E : Env) (tm : List V) (m : Mem) : Op → Mem
  | .call { callee := .value (.func f), args, .. } => bif E.give f then lendTo m (args.toList.map (opnd tm)) else m
  | _ => m
/-- The same of all calls of a drawn region, ahead of it. -/
def lendAll (E : Env) (tm : List V) (m : Mem) : List Oper → Mem
  | [] => m
  | o :: l => lendAll E tm (lendK E tm m o.op) l

/-- Operations in the text's order; A: what stands ahead of each (a drawn region), none: the order is the text's. -/
noncomputable def evOps (E : Env) (all : Array Oper) (A : Option (List Nat)) : List Oper → Nat → Foots → List V → Mem → (List V → Mem → R) → R
  | [], _, _, tm, m, κ => κ tm m
  | o :: rest, i, acc, tm, m, κ =>
    let go (tm : List V) : R :=
      match A with
      | none => opK E tm (lendK E tm m o.op) o.op fun v m => evOps E all A rest (i + 1) acc (putT tm o.dst v) m κ
      | some L => bif writesMore o.op || clash (L.getD i 0) acc (foot tm o.op) then none else
        opK E tm m o.op fun v m' => evOps E all A rest (i + 1) ((i, foot tm o.op) :: acc) (putT tm o.dst v) m' κ
    let pass (tm : List V) : R := evOps E all A rest (i + 1) acc (putT tm o.dst (.t [])) m κ
    match o.guard with
    | none => go tm
    | some (j, want) => match (all[j]?).bind (·.dst) with
      | some d => match getT tm d with
        | .o (.p (.bool b)) => cond b
          (bif want then go (tm.set d (.o (.p (.bool true)))) else pass (tm.set d (.o (.p (.bool true)))))
          (bif want then pass (tm.set d (.o (.p (.bool false)))) else go (tm.set d (.o (.p (.bool false)))))
        | .t [] => pass tm
        | _ => none
      | none => none

def renV (ns : List Nat) : V → V
  | .o (.a i k) => .o (.a (ns.idxOf i) k)
  | .o (.s i k n) => .o (.s (ns.idxOf i) k n)
  | .o (.f i) => .o (.f (ns.idxOf i))
  | .t _ => .o .u
  | v => v
def insOnce (ns : List Nat) (i : Nat) : List Nat := bif ns.contains i then ns else ns ++ [i]
/-- The blocks that live slots name, in the slots' order. -/
def namesOf (tm : List V) (L : List Nat) : List Nat := L.foldl (fun ns t => match nameOf (getT tm t) with | some i => insOnce ns i | none => ns) []
def gcT (L : List Nat) (tm : List V) : List V := tm.zipIdx.map fun q => bif L.contains q.2 then renV (namesOf tm L) q.1 else .o .u
def gcM (L : List Nat) (tm : List V) (m : Mem) : Mem := (namesOf tm L).map fun i => m.getD i (.old, .dead)

def loopN (L : List Nat) (body : List V → Mem → (X → List V → Mem → R) → R) : Nat → List V → Mem → (X → List V → Mem → R) → R
  | 0, _, _, _ => none
  | f + 1, tm, m, κ => body tm m fun x tm m => match x with
    | .normal => loopN L body f (gcT L tm) (gcM L tm m) κ
    | x => κ x tm m

/-- The same, what comes out told as far as the slots of Lx tell it. -/
def loopX (L Lx : List Nat) (body : List V → Mem → (X → List V → Mem → R) → R) : Nat → List V → Mem → (X → List V → Mem → R) → R
  | 0, _, _, _ => none
  | f + 1, tm, m, κ => body tm m fun x tm m => match x with
    | .normal => loopX L Lx body f (gcT L tm) (gcM L tm m) κ
    | x => κ x (gcT Lx tm) (gcM Lx tm m)

noncomputable def ev (E : Env) : Nat → Code → List V → Mem → (X → List V → Mem → R) → R
  | _, .skip, tm, m, κ => κ .normal tm m
  | _, .region _ ops draw, tm, m, κ => bif draw && !calm ops then none else evOps E ops (bif draw then some (aheads ops.toList) else none) ops.toList 0 [] tm (bif draw then lendAll E tm m ops.toList else m) fun tm m => κ .normal tm m
  | b, .seq x y, tm, m, κ => ev E b x tm m fun e tm m => match e with
    | .normal => ev E b y tm m κ
    | e => κ e tm m
  | b, .cond c x y, tm, m, κ => match c with
    | .tmp t => match getT tm t with
      | .o (.p (.bool v)) => cond v (ev E b x (tm.set t (.o (.p (.bool true)))) m κ) (ev E b y (tm.set t (.o (.p (.bool false)))) m κ)
      | _ => none
    | _ => none
  | _, .block id x, tm, m, κ => ev E id x tm m fun e tm m => match e with
    | .exit j => bif j == id then κ .normal tm m else κ (.exit j) tm m
    | e => κ e tm m
  | b, .loop x, tm, m, κ => match E.lp b with
    | some F => F (gcT (E.live b) tm) (gcM (E.live b) tm m) κ
    | none => loopN (E.live b) (fun tm m κ => ev E b x tm m κ) E.fuel (gcT (E.live b) tm) (gcM (E.live b) tm m) κ
  | _, .exit id, tm, m, κ => κ (.exit id) tm m
  | _, .ret, tm, m, κ => κ .ret tm m
  | _, _, _, _, _ => none

/-- The loops of some code, each with the block it stands in. -/
def loopsOf : Nat → Code → List (Nat × Code)
  | b, .seq x y => loopsOf b x ++ loopsOf b y
  | b, .cond _ x y => loopsOf b x ++ loopsOf b y
  | _, .block id x => loopsOf id x
  | b, .loop x => (b, x) :: loopsOf b x
  | _, _ => []

/-- What comes in, laid into memory. -/
def argV (m : Mem) : List D → List V × Mem
  | [] => ([], m)
  | .p v :: l => (.o (.p v) :: (argV m l).1, (argV m l).2)
  | .r k n xs :: l => (.o (.r k n xs) :: (argV m l).1, (argV m l).2)
  | .g cs :: l => (.o (.g cs) :: (argV m l).1, (argV m l).2)
  | .w k xs :: l => (.o (.f m.length) :: (argV (m ++ [(.old, .w k xs.length xs)]) l).1, (argV (m ++ [(.old, .w k xs.length xs)]) l).2)
  | .c n cs :: l => (.o (.s m.length 0 n) :: (argV (m ++ [(.old, .c cs)]) l).1, (argV (m ++ [(.old, .c cs)]) l).2)
def ownerOf (one : Bool) (m : Mem) : V → Own
  | .o (.f i) => match m[i]? with
    | some (.mine, _) => bif one then .mine else .new
    | some (ow, _) => ow
    | none => .old
  | .o (.s i k _) => match m[i]? with
    | some (.mine, _) => bif one && k == 0 then .mine else .new
    | some (ow, _) => ow
    | none => .old
  | _ => .mine
def outK (E : Env) (one : Bool) (tm : List V) (m : Mem) (rv : ResultVar) (ty : TypeId) (κ : Own × D → R) : R :=
  match rv with
  | .tmp t => match getT tm t with
    | .o .z => match kindOf E ty with
      | some k => κ (bif one then .mine else .new, .w k [])
      | none => none
    | v => contentK m v fun d => κ (ownerOf one m v, d)
  | .cell t ty => match getT tm t, E.ty ty with
    | .o (.a i 0), some td => match m[i]? with
      | some (_, .w kd n xs) => match td with
        | .arr n' _ => cond (decide (n = n')) (κ (.mine, .r kd n xs)) none
        | _ => none
      | some (_, .c vs) => cond (decide (td.size = vs.length)) (match ofCells td vs with
        | some (.p v) => κ (.mine, .p v)
        | some (.g cs) => κ (.mine, .g cs)
        | _ => none) none
      | _ => none
    | _, _ => none
def outsK (E : Env) (one : Bool) (tm : List V) (m : Mem) : List (ResultVar × TypeId) → (List (Own × D) → R) → R
  | [], κ => κ []
  | (r, t) :: l, κ => outK E one tm m r t fun d => outsK E one tm m l fun ds => κ (d :: ds)
/-- A call of a function, evaluated. -/
noncomputable def evFn (E : Env) (f : Func) (args : List D) : R :=
  match f.body with
  | none => none
  | some c => bif args.length == f.params.size && f.nfree == 0 then
      ev E 0 c ((argV [] args).1 ++ List.replicate (f.ntmps - args.length) (.o .u)) (argV [] args).2 fun x tm m => match x with
        | .exit _ => none
        | _ => outsK E (f.results.size == 1) tm m (f.results.toList.zip f.resultTypes.toList) some
    else none
end Go.Vm

namespace Go.Vm
open Go.RowKit (Below)
variable {P : Program}

abbrev Nm := Nat → Option (Nat × Nat)

def inR (k : IntKind) (xs : List Int) : Prop := ∀ x ∈ xs, wfB (.int k x) = true
def wfL (vs : List Value) : Prop := ∀ v ∈ vs, wfB v = true
def bsize (w : World) (b : Nat) : Nat := match w.heap[b]? with | some (.cells c _ _) => c.size | _ => 0

def mineAt (m : Mem) (i : Nat) : Prop := ∃ b, m[i]? = some (.mine, b)
/-- How many numbers a block has. -/
def blkN (m : Mem) (i : Nat) : Option Nat := match m[i]? with
  | some (_, .w _ n _) => some n
  | _ => none
/-- How a slice reads: from cell k of block i on. -/
def SlR (ρ : Nm) (m : Mem) (w : World) (i k n : Nat) (r : Value) : Prop := i < m.length ∧ ∃ ad cap, r = .slice ad n cap ∧ n ≤ cap ∧ n ≤ lim ∧ (n = 0 ∨ ∃ b o, ρ i = some (b, o) ∧ ad = some ⟨b, o + k, none⟩) ∧
      (mineAt m i → cap = 0 ∨ ∃ b, ρ i = some (b, 0) ∧ ad = some ⟨b, k, none⟩ ∧ k + cap ≤ bsize w b)
/-- How a value reads; of m: how many blocks there are, which are the call's own, how many numbers each has. -/
def VR0 (ρ : Nm) (m : Mem) (w : World) : V0 → Value → Prop
  | .p v, r => r = v ∧ wfB v = true
  | .r k n xs, r => r = .agg (xs.map (Value.int k)).toArray ∧ xs.length = n ∧ n ≤ lim ∧ inR k xs
  | .g vs, r => r = .agg vs.toArray ∧ wfL vs
  | .a i k, r => i < m.length ∧ ∃ b o, ρ i = some (b, o) ∧ r = .pointer (some ⟨b, o + k, none⟩)
  | .s i k n, r => SlR ρ m w i k n r
  | .f i, r => i < m.length ∧ ∀ n, blkN m i = some n → SlR ρ m w i 0 n r
  | .z, r => ∃ ad, r = .slice ad 0 0
  | .u, _ => True

def all2 {α β : Type} (S : α → β → Prop) : List α → List β → Prop
  | [], [] => True
  | a :: l, b :: l' => S a b ∧ all2 S l l'
  | _, _ => False

def VR (ρ : Nm) (m : Mem) (w : World) : V → Value → Prop
  | .o x, r => VR0 ρ m w x r
  | .t l, r => ∃ rs : List Value, r = .tuple rs.toArray ∧ all2 (VR0 ρ m w) l rs

/-- A block reads as it is told. -/
def BlkOK (ρ : Nm) (w : World) (i : Nat) : Blk → Prop
  | .w k n xs => xs.length = n ∧ n ≤ lim ∧ inR k xs ∧ (n = 0 ∨ ∃ b o, ρ i = some (b, o) ∧ w.rangeAt b o (xs.map (Value.int k)))
  | .c vs => wfL vs ∧ (vs = [] ∨ ∃ b o, ρ i = some (b, o) ∧ w.rangeAt b o vs)
  | .dead => True
/-- A block of the call's own may be written. -/
def MineOK (ρ : Nm) (w : World) (i : Nat) : Prop := ∀ b o, ρ i = some (b, o) → o = 0 ∧ ∃ c e, w.heap[b]? = some (.cells c e (0, 0))

/-- How what is handed on reads. -/
def DR (w : World) : D → Value → Prop
  | .p v, r => r = v ∧ wfB v = true
  | .r k n xs, r => r = .agg (xs.map (Value.int k)).toArray ∧ xs.length = n ∧ n ≤ lim ∧ inR k xs
  | .g vs, r => r = .agg vs.toArray ∧ wfL vs
  | .w k xs, r => ∃ ad cap, r = .slice ad xs.length cap ∧ xs.length ≤ cap ∧ xs.length ≤ lim ∧ inR k xs ∧ (xs.length = 0 ∨ ∃ b o, ad = some ⟨b, o, none⟩ ∧ w.rangeAt b o (xs.map (Value.int k)))
  | .c n vs, r => ∃ ad cap, r = .slice ad n cap ∧ n ≤ cap ∧ n ≤ lim ∧ wfL vs ∧ (n = 0 ↔ vs = []) ∧ (n = 0 ∨ ∃ b o, ad = some ⟨b, o, none⟩ ∧ w.rangeAt b o vs)
def D.wf : D → Prop
  | .p v => wfB v = true
  | .r k n xs => xs.length = n ∧ n ≤ lim ∧ inR k xs
  | .g vs => wfL vs
  | .w k xs => xs.length ≤ lim ∧ inR k xs
  | .c n vs => n ≤ lim ∧ wfL vs ∧ (n = 0 ↔ vs = [])
def D.isSl : D → Bool
  | .w .. => true
  | .c .. => true
  | _ => false

theorem DR.wf {w : World} {d : D} {r : Value} (h : DR w d r) : d.wf := by
  cases d with
  | p v => exact h.2
  | r k n xs => exact ⟨h.2.1, h.2.2.1, h.2.2.2⟩
  | g vs => exact h.2
  | w k xs => obtain ⟨_, _, _, _, h1, h2, _⟩ := h; exact ⟨h1, h2⟩
  | c n vs => obtain ⟨_, _, _, _, h1, h2, h3, _⟩ := h; exact ⟨h1, h2, h3⟩

/-- The block that a slice leads into. -/
def blockOf : Value → Option Nat
  | .slice (some a) _ _ => some a.block
  | _ => none

/-- Of one result: how it reads, and whose it is. -/
def ResOK (w w' : World) (args : List Value) (one : Prop) : Own × D → Value → Prop
  | (ow, d), r => DR w' d r ∧ (d.isSl = true → match ow with
    | .mine => (∃ ad n cap, r = .slice ad n cap ∧ (cap = 0 ∨ ∃ b, ad = some ⟨b, 0, none⟩ ∧ w.heap.size ≤ b ∧ (one → (∃ c e, w'.heap[b]? = some (.cells c e (0, 0))) ∧ cap ≤ bsize w' b)))
    | .new => ∀ b ad n cap, r = .slice (some ad) n cap → n ≠ 0 → ad.block = b → w.heap.size ≤ b
    | .old => ∀ b ad n cap, r = .slice (some ad) n cap → n ≠ 0 → ad.block = b → w.heap.size ≤ b ∨ ∃ v, v ∈ args ∧ ∃ ad n cap, v = .slice (some ad) n cap ∧ n ≠ 0 ∧ ad.block = b)

def tupleOf : List Value → Value
  | [v] => v
  | l => .tuple l.toArray

/-- A call comes to this. -/
def CallsTo (P : Program) (f : FuncId) (args : Array Value) (w : World) (post : Value → World → Prop) : Prop :=
  (∃ rv w', (callFunc f args).run P w = .ok (.value rv) w' ∧ post rv w') ∨
  ((callFunc f args).run P w = .ok (.enter f args) w ∧ Calls P f args w fun e w' => ∃ rv, e = .returned rv ∧ post rv w')

/-- The answer to a call is right: in whatever world that reads so. -/
def CallOK (P : Program) (f : FuncId) (ds : List D) (res : List (Own × D)) : Prop :=
  ∀ (w : World) (vs : List Value), all2 (DR w) ds vs →
    CallsTo P f vs.toArray w fun rv w' => Below w.heap.size w w' ∧ ∃ rs, rv = tupleOf rs ∧ all2 (ResOK w w' vs (res.length = 1)) res rs

/-- What an environment's answer for a function owes. -/
def FnOK (P : Program) (f : FuncId) (F : List D → (List (Own × D) → R) → R) : Prop :=
  ∀ ds κ r, (∀ d ∈ ds, d.wf) → F ds κ = some r → ∃ res, κ res = some r ∧ CallOK P f ds res

def structOf (P : Program) (t : TypeId) : Option (List (Nat × TypeId)) := match P.underlying t with
  | some (.struct F) => some (F.toList.map fun f => (f.offset, f.type))
  | _ => none
def Ty.real : Ty → Value
  | .i k => .int k 0
  | .b => .bool false
  | .str => .string ByteArray.empty
  | .arr n k => .agg ((List.replicate n (0 : Int)).map (Value.int k)).toArray
  | .st zs _ => .agg zs.toArray
  | .sl _ => .slice none 0 0
  | .ar _ zs _ => .agg zs.toArray
def TdOK (P : Program) (t : TypeId) (td : Ty) : Prop :=
  (P.info? t).map (·.size) = some td.size ∧ (P.info? t).bind (·.zero) = some td.real ∧ match td with
  | .i k => P.underlying t = some (.int k) ∧ ∃ bb, (P.info? t).map (·.bytes) = some bb ∧ bb ≤ 8
  | .b => P.underlying t = some .bool
  | .str => P.underlying t = some .string
  | .arr n k => n ≤ lim ∧ ∃ e, P.underlying t = some (.array n e) ∧ P.underlying e = some (.int k) ∧ (P.info? e).map (·.size) = some 1
  | .st zs fs => structOf P t = some fs ∧ zs.all wfB = true
  | .sl e => P.underlying t = some (.slice e)
  | .ar n zs e => P.underlying t = some (.array n e) ∧ zs.all wfB = true

/-- What '==' of two arrays or structs comes to. -/
def EqOK (P : Program) (t : TypeId) (td : Ty) : Prop := match td with
  | .arr n k => P.eqGuardType P.depth t = false ∧ ∀ (w : World) (xs ys : List Int), xs.length = n → ys.length = n →
      (Op.equalIn 10000 t (.agg (xs.map (Value.int k)).toArray) (.agg (ys.map (Value.int k)).toArray)).run P w = .ok (decide (xs = ys)) w
  | .st zs _ => P.eqGuardType P.depth t = false ∧ ∀ (w : World) (xs ys : List Value) (b : Bool), wfL xs → wfL ys → likeZ zs xs = true → likeZ zs ys = true → eqCells xs ys = some b →
      (Op.equalIn 10000 t (.agg xs.toArray) (.agg ys.toArray)).run P w = .ok b w
  | _ => True

structure EnvOK (P : Program) (E : Env) : Prop where
  ty : ∀ t td, E.ty t = some td → TdOK P t td
  eq : ∀ t td, E.ty t = some td → EqOK P t td
  fn : ∀ f F, E.fn f = some F → FnOK P f F

/-- What is told over m holds over m': no block has gone, none has become the call's own, none has another length. -/
def StLe (m m' : Mem) : Prop := m.length ≤ m'.length ∧ (∀ i, i < m.length → mineAt m' i → mineAt m i) ∧ ∀ i n, i < m.length → blkN m' i = some n → blkN m i = some n
theorem StLe.refl (m : Mem) : StLe m m := ⟨Nat.le_refl _, fun _ _ h => h, fun _ _ _ h => h⟩
theorem StLe.append (m nb : Mem) : StLe m (m ++ nb) := ⟨by simp, fun i hi h => by
  obtain ⟨b, hb⟩ := h
  rw [List.getElem?_append_left hi] at hb
  exact ⟨b, hb⟩, fun i n hi h => by
  unfold blkN at h ⊢
  rwa [List.getElem?_append_left hi] at h⟩
theorem StLe.trans {a b c : Mem} (h : StLe a b) (k : StLe b c) : StLe a c := ⟨Nat.le_trans h.1 k.1, fun i hi hm => h.2.1 i hi (k.2.1 i (Nat.lt_of_lt_of_le hi h.1) hm),
  fun i n hi hn => h.2.2 i n hi (k.2.2 i n (Nat.lt_of_lt_of_le hi h.1) hn)⟩
/-- A block is written, or given up. -/
theorem StLe.set (m : Mem) (i : Nat) (s : Own) (blk : Blk) (h : s = .mine → mineAt m i) (hn : ∀ k n xs, blk = .w k n xs → blkN m i = some n) : StLe m (m.set i (s, blk)) := ⟨by simp, fun j hj hm => by
  obtain ⟨b, hb⟩ := hm
  by_cases e : i = j
  · subst e
    rw [List.getElem?_set_self hj] at hb
    cases hb
    exact h rfl
  · rw [List.getElem?_set_ne e] at hb; exact ⟨b, hb⟩, fun j n hj hm => by
  by_cases e : i = j
  · subst e
    unfold blkN at hm
    rw [List.getElem?_set_self hj] at hm
    cases blk with
    | w k n' xs => cases hm; exact hn _ _ _ rfl
    | _ => cases hm
  · unfold blkN at hm ⊢
    rwa [List.getElem?_set_ne e] at hm⟩

/-- The old blocks are as they were in size. -/
def Sizes (w w' : World) : Prop := ∀ b, b < w.heap.size → bsize w' b = bsize w b

theorem SlR.mono {ρ ρ' : Nm} {m m' : Mem} {w w' : World} {i k n : Nat} {r : Value} (hr : ∀ i b o, i < m.length → ρ i = some (b, o) → ρ' i = some (b, o) ∧ bsize w' b = bsize w b)
    (hm : StLe m m') (h : SlR ρ m w i k n r) : SlR ρ' m' w' i k n r := by
  obtain ⟨hi, ad, cap, h1, h2, h3, h4, h5⟩ := h
  refine ⟨Nat.lt_of_lt_of_le hi hm.1, ad, cap, h1, h2, h3, ?_, ?_⟩
  · rcases h4 with h4 | ⟨b, o, h4, h4'⟩
    · exact .inl h4
    · exact .inr ⟨b, o, (hr i b o hi h4).1, h4'⟩
  · intro hm'
    rcases h5 (hm.2.1 i hi hm') with h5 | ⟨b, h5, h5', h5''⟩
    · exact .inl h5
    · exact .inr ⟨b, (hr i b 0 hi h5).1, h5', by rw [(hr i b 0 hi h5).2]; exact h5''⟩
theorem VR0.mono {ρ ρ' : Nm} {m m' : Mem} {w w' : World} {x : V0} {r : Value} (hr : ∀ i b o, i < m.length → ρ i = some (b, o) → ρ' i = some (b, o) ∧ bsize w' b = bsize w b)
    (hm : StLe m m') (h : VR0 ρ m w x r) : VR0 ρ' m' w' x r := by
  cases x with
  | p v => exact h
  | r k n xs => exact h
  | g vs => exact h
  | a i k =>
    obtain ⟨hi, b, o, h1, h2⟩ := h
    exact ⟨Nat.lt_of_lt_of_le hi hm.1, b, o, (hr i b o hi h1).1, h2⟩
  | s i k n => exact SlR.mono hr hm h
  | f i =>
    obtain ⟨hi, h⟩ := h
    exact ⟨Nat.lt_of_lt_of_le hi hm.1, fun n hn => SlR.mono hr hm (h n (hm.2.2 i n hi hn))⟩
  | z => exact h
  | u => trivial
theorem all2.mono {α β : Type} {S S' : α → β → Prop} (h : ∀ a b, S a b → S' a b) : ∀ (l : List α) (l' : List β), all2 S l l' → all2 S' l l'
  | [], [], _ => trivial
  | _ :: l, _ :: l', ⟨h1, h2⟩ => ⟨h _ _ h1, all2.mono h l l' h2⟩
theorem all2.length {α β : Type} {S : α → β → Prop} : ∀ (l : List α) (l' : List β), all2 S l l' → l.length = l'.length
  | [], [], _ => rfl
  | _ :: l, _ :: l', ⟨_, h2⟩ => by simp [all2.length l l' h2]
theorem VR.mono {ρ ρ' : Nm} {m m' : Mem} {w w' : World} {x : V} {r : Value} (hr : ∀ i b o, i < m.length → ρ i = some (b, o) → ρ' i = some (b, o) ∧ bsize w' b = bsize w b)
    (hm : StLe m m') (h : VR ρ m w x r) : VR ρ' m' w' x r := by
  cases x with
  | o x => exact VR0.mono hr hm h
  | t l =>
    obtain ⟨rs, h1, h2⟩ := h
    exact ⟨rs, h1, h2.mono (fun _ _ h => VR0.mono hr hm h)⟩
end Go.Vm

namespace Go.Vm
open Go.RowKit (Below)
variable {P : Program}

/-- An operation comes to a value and a world. -/
def Does (P : Program) (o : Oper) (a : Act) (w : World) (post : Value → World → Prop) : Prop :=
  ∀ (K : Act → World → Prop) (Q : Exit → Act → World → Prop), (∀ rv w', post rv w' → K (a.put o.dst rv) w') → o.wp P a w K Q
theorem does_value {o : Oper} {a : Act} {w w' : World} {post : Value → World → Prop} {rv : Value} (h : (execOp a.eval o).run P w = .ok (.value rv) w') (hp : post rv w') : Does P o a w post := by
  intro K Q hK
  unfold Oper.wp
  rw [h]
  exact hK _ _ hp
theorem does_skip {o : Oper} {a : Act} {w w' : World} {post : Value → World → Prop} (h : (execOp a.eval o).run P w = .ok .skip w') (hp : post undef w') : Does P o a w post := by
  intro K Q hK
  unfold Oper.wp
  rw [h]
  exact hK _ _ hp
theorem Does.mono {o : Oper} {a : Act} {w : World} {post post' : Value → World → Prop} (h : Does P o a w post) (hp : ∀ rv w', post rv w' → post' rv w') : Does P o a w post' :=
  fun K Q hK => h K Q fun rv w' hr => hK rv w' (hp rv w' hr)

/-- A block that has not been given up. -/
def liveAt (m : Mem) (i : Nat) : Prop := ∃ s b, m[i]? = some (s, b) ∧ b ≠ .dead

structure NewOK (ρ : Nm) (m : Mem) (w w' : World) (fr : List Nat) (ρ' : Nm) (nb : Mem) : Prop where
  blk : ∀ j s b, nb[j]? = some (s, b) → BlkOK ρ' w' (m.length + j) b
  mine : ∀ j b, nb[j]? = some (.mine, b) → MineOK ρ' w' (m.length + j) ∧ ∀ c o, ρ' (m.length + j) = some (c, o) → w.heap.size ≤ c
  apart : ∀ j b j' c o o', nb[j]? = some (.mine, b) → j' < nb.length → ρ' (m.length + j) = some (c, o) → ρ' (m.length + j') = some (c, o') → j = j'
  new : ∀ j b, nb[j]? = some (.new, b) → ∀ c o, ρ' (m.length + j) = some (c, o) → w.heap.size ≤ c
  old : ∀ j b, nb[j]? = some (.old, b) → ∀ c o, ρ' (m.length + j) = some (c, o) → w.heap.size ≤ c ∨ ∃ n, n ∈ fr ∧ liveAt m n ∧ ¬ mineAt m n ∧ ∃ o', ρ n = some (c, o')
  live : ∀ (j : Nat) (s : Own) (b : Blk), nb[j]? = some (s, b) → b ≠ .dead
  lt : ∀ j c o, j < nb.length → ρ' (m.length + j) = some (c, o) → c < w'.heap.size

/-- What an operation has done to memory: new blocks, or one block written. -/
inductive Eff (ρ : Nm) (m : Mem) (w : World) (fr : List Nat × List Nat) : V → Mem → Value → World → Nm → Prop
  | ext (nb : Mem) (ρ' : Nm) (v : V) (rv : Value) (w' : World) (hB : Below w.heap.size w w') (hρ : ∀ n, n < m.length ∨ m.length + nb.length ≤ n → ρ' n = ρ n)
      (hN : NewOK ρ m w w' fr.2 ρ' nb) (hV : VR ρ' (m ++ nb) w' v rv) : Eff ρ m w fr v (m ++ nb) rv w' ρ'
  | put (i b : Nat) (blk blk' : Blk) (w' : World) (hfw : i ∈ fr.1) (hm : m[i]? = some (.mine, blk)) (hb : ρ i = some (b, 0)) (hs : w'.heap.size = w.heap.size) (he : w'.os = w.os ∧ w'.tape = w.tape ∧ w'.output = w.output)
      (hf : ∀ k, k ≠ b → w'.heap[k]? = w.heap[k]?) (hz : bsize w' b = bsize w b) (hbk : BlkOK ρ w' i blk') (hmn : MineOK ρ w' i) (hd : blk' ≠ .dead)
      (hn : ∀ k n xs, blk' = .w k n xs → blkN m i = some n) : Eff ρ m w fr (.o .u) (m.set i (.mine, blk')) undef w' ρ

/-- Nothing new. -/
theorem NewOK.nil (ρ : Nm) (m : Mem) (w : World) (fr : List Nat) : NewOK ρ m w w fr ρ [] :=
  ⟨fun _ _ _ h => by simp at h, fun _ _ h => by simp at h, fun _ _ _ _ _ _ h => by simp at h, fun _ _ h => by simp at h, fun _ _ h => by simp at h, fun _ _ _ h => by simp at h, fun _ _ _ h => by simp at h⟩
theorem Eff.pure {ρ : Nm} {m : Mem} {w : World} {fr : List Nat × List Nat} {v : V} {rv : Value} (h : VR ρ m w v rv) : Eff ρ m w fr v m rv w ρ := by
  have := Eff.ext (fr := fr) [] ρ v rv w (Below.refl _ _) (fun _ _ => rfl) (NewOK.nil ρ m w fr.2) (by simpa using h)
  simpa using this

/-- What the evaluator's answer for an operation owes. -/
def Owes (P : Program) (ρ : Nm) (m : Mem) (o : Oper) (a : Act) (w : World) (fr : List Nat × List Nat) (κ : V → Mem → R) (r : List (Own × D)) : Prop :=
  ∃ v m', κ v m' = some r ∧ Does P o a w fun rv w' => ∃ ρ', Eff ρ m w fr v m' rv w' ρ'
theorem owes_pure {ρ : Nm} {m : Mem} {o : Oper} {a : Act} {w : World} {fr : List Nat × List Nat} {κ : V → Mem → R} {r : List (Own × D)} {v : V} {rv : Value} (hκ : κ v m = some r)
    (hr : (execOp a.eval o).run P w = .ok (.value rv) w) (h : VR ρ m w v rv) : Owes P ρ m o a w fr κ r :=
  ⟨v, m, hκ, does_value hr ⟨ρ, Eff.pure h⟩⟩

/-! ### Runs -/
theorem run_sizeOf' {t : TypeId} {n : Nat} (w : World) (h : (P.info? t).map (·.size) = some n) : (sizeOf t).run P w = .ok n w := by
  cases hq : P.info? t with
  | none => simp [hq] at h
  | some i =>
    have : i.size = n := by simpa [hq] using h
    simp [sizeOf, typeInfo, hq, this]
theorem run_zero' {t : TypeId} {v : Value} (w : World) (h : (P.info? t).bind (·.zero) = some v) : (zeroValue t).run P w = .ok v w := by
  cases hq : P.info? t with
  | none => simp [hq] at h
  | some i =>
    have : i.zero = some v := by simpa [hq] using h
    simp [zeroValue, typeInfo, hq, this]
theorem run_isAgg' {t : TypeId} {d : TypeDesc} (w : World) (h : P.underlying t = some d) : (isAgg t).run P w = .ok d.isRow w := by
  unfold isAgg
  rw [Sem.run_bind, run_underlying h w]
  cases d <;> simp_all
theorem run_part_agg {t : TypeId} {d : TypeDesc} {n : Nat} (w : World) (cs : Array Value) (off : Nat) (h : P.underlying t = some d) (hd : d.isRow = true) (hn : (P.info? t).map (·.size) = some n) :
    (part t cs off).run P w = .ok (.agg (cs.extract off (off + n))) w := by
  unfold part
  rw [Sem.run_bind, run_isAgg' w h, hd]
  simp [run_sizeOf' w hn]
theorem run_part_one {t : TypeId} {d : TypeDesc} (w : World) (cs : Array Value) (off : Nat) (v : Value) (h : P.underlying t = some d) (hd : d.isRow = false) (hv : cs[off]? = some v) :
    (part t cs off).run P w = .ok v w := by
  unfold part
  rw [Sem.run_bind, run_isAgg' w h, hd]
  simp [hv]

theorem wf_wrap (k : IntKind) (n : Int) : wfB (.int k (k.wrap n)) = true := by
  cases k <;> simp [wfB, IntKind.wrap, IntKind.min, IntKind.max, IntKind.signed, IntKind.bits] <;> (try split) <;> omega
theorem wf_bool (b : Bool) : wfB (.bool b) = true := rfl

/-- What is told of an operand. -/
theorem vr_const {ρ : Nm} {m : Mem} {w : World} (v : Value) : VR0 ρ m w (constV v) v := by
  unfold constV
  split
  · rename_i k n
    cases h : wfB (.int k n) <;> simp [VR0, h]
  · exact ⟨rfl, rfl⟩
  · rename_i s
    cases h : wfB (.string s) <;> simp [VR0, h]
  · exact ⟨none, rfl⟩
  · trivial

section ops
variable {E : Env} {ρ : Nm} {m : Mem} {w : World} {a : Act} {tm : List V} {κ : V → Mem → R} {r : List (Own × D)} {fr : List Nat × List Nat} {dst : Option Tmp} {ty : TypeId} {pos : String} {after : Array Edge} {guard : Option (Nat × Bool)}

theorem cond_some {b : Bool} {x y : R} {r : List (Own × D)} (h : cond b x y = some r) : (b = true ∧ x = some r) ∨ (b = false ∧ y = some r) := by
  cases b
  · exact .inr ⟨rfl, h⟩
  · exact .inl ⟨rfl, h⟩
theorem cond_none {b : Bool} {x : R} {r : List (Own × D)} (h : cond b x none = some r) : b = true ∧ x = some r := by
  cases b
  · cases h
  · exact ⟨rfl, h⟩
theorem cond_none' {b : Bool} {y : R} {r : List (Own × D)} (h : cond b none y = some r) : b = false ∧ y = some r := by
  cases b
  · exact ⟨rfl, h⟩
  · cases h

/-- A whole number in a slot. -/
theorem vr_int {x : V} {rv : Value} {k : IntKind} {n : Int} (h : VR ρ m w x rv) (hx : x = .o (.p (.int k n))) : rv = .int k n ∧ wfB (.int k n) = true := by
  subst hx
  exact h
theorem vr_bool {x : V} {rv : Value} {b : Bool} (h : VR ρ m w x rv) (hx : x = .o (.p (.bool b))) : rv = .bool b := by
  subst hx
  exact h.1

theorem ty_under (hE : EnvOK P E) {t : TypeId} {td : Ty} (h : E.ty t = some td) : ∃ d, P.underlying t = some d := by
  have h1 := (hE.ty _ _ h).2.2
  cases td with
  | i k => exact ⟨_, h1.1⟩
  | b => exact ⟨_, h1⟩
  | str => exact ⟨_, h1⟩
  | arr n k => obtain ⟨_, e, h1, _⟩ := h1; exact ⟨_, h1⟩
  | st zs fs =>
    have h2 := h1.1
    unfold structOf at h2
    cases hu : P.underlying t with
    | none => rw [hu] at h2; cases h2
    | some d => exact ⟨d, rfl⟩
  | sl e => exact ⟨_, h1⟩
  | ar n zs e => exact ⟨_, h1.1⟩

theorem op_move (x : Operand) (hx : VR ρ m w (opnd tm x) (a.eval x)) (h : opK E tm m (.move x) κ = some r) : Owes P ρ m ⟨dst, .move x, ty, pos, after, guard⟩ a w fr κ r :=
  owes_pure h (by simp [execOp]) hx
theorem op_assign (x : Operand) (hx : VR ρ m w (opnd tm x) (a.eval x)) (h : opK E tm m (.assign x) κ = some r) : Owes P ρ m ⟨dst, .assign x, ty, pos, after, guard⟩ a w fr κ r :=
  owes_pure h (by simp [execOp]) hx
theorem op_pick (c x y : Operand) (hc : VR ρ m w (opnd tm c) (a.eval c)) (hx : VR ρ m w (opnd tm x) (a.eval x)) (hy : VR ρ m w (opnd tm y) (a.eval y)) (h : opK E tm m (.pick c x y) κ = some r) :
    Owes P ρ m ⟨dst, .pick c x y, ty, pos, after, guard⟩ a w fr κ r := by
  simp only [opK] at h
  split at h
  · rename_i t ht
    have hc' := vr_bool hc ht
    rcases cond_some h with ⟨rfl, h⟩ | ⟨rfl, h⟩
    · exact owes_pure h (by simp [execOp, hc', asBool]) hx
    · exact owes_pure h (by simp [execOp, hc', asBool]) hy
  · cases h
theorem op_not (t : TypeId) (x : Operand) (hx : VR ρ m w (opnd tm x) (a.eval x)) (h : opK E tm m (.unOp .not t x) κ = some r) : Owes P ρ m ⟨dst, .unOp .not t x, ty, pos, after, guard⟩ a w fr κ r := by
  simp only [opK] at h
  split at h
  · rename_i b hb
    have hx' := vr_bool hx hb
    exact owes_pure h (by simp [execOp, hx', Op.unary]) ⟨rfl, rfl⟩
  · cases h
theorem op_neg (t : TypeId) (x : Operand) (hx : VR ρ m w (opnd tm x) (a.eval x)) (h : opK E tm m (.unOp .neg t x) κ = some r) : Owes P ρ m ⟨dst, .unOp .neg t x, ty, pos, after, guard⟩ a w fr κ r := by
  simp only [opK] at h
  split at h
  · rename_i k n hb
    have hx' := (vr_int hx hb).1
    exact owes_pure h (by simp [execOp, hx', Op.unary, Op.intArith]) ⟨rfl, wf_wrap _ _⟩
  · cases h
theorem op_convert (hE : EnvOK P E) (s t : TypeId) (x : Operand) (hx : VR ρ m w (opnd tm x) (a.eval x)) (h : opK E tm m (.convert s t x) κ = some r) :
    Owes P ρ m ⟨dst, .convert s t x, ty, pos, after, guard⟩ a w fr κ r := by
  simp only [opK] at h
  split at h
  · rename_i sd k _ n hs ht hb
    have hx' := (vr_int hx hb).1
    have hT := (hE.ty _ _ ht).2.2.1
    obtain ⟨d, hd⟩ := ty_under hE hs
    exact owes_pure h (by simp [execOp, hx', convert, run_underlying hd, run_underlying hT, Conv.intToInt]) ⟨rfl, wf_wrap _ _⟩
  · cases h
theorem op_extract (x : Operand) (i : Nat) (hx : VR ρ m w (opnd tm x) (a.eval x)) (h : opK E tm m (.extract x i) κ = some r) : Owes P ρ m ⟨dst, .extract x i, ty, pos, after, guard⟩ a w fr κ r := by
  simp only [opK] at h
  split at h
  · rename_i l hl
    split at h
    · rename_i v hv
      rw [hl] at hx
      obtain ⟨rs, h1, h2⟩ := hx
      have key : ∀ (l : List V0) (rs : List Value) (i : Nat) (v : V0), all2 (VR0 ρ m w) l rs → l[i]? = some v → ∃ rv, rs[i]? = some rv ∧ VR0 ρ m w v rv := by
        intro l
        induction l with
        | nil => intro rs i v _ h; simp at h
        | cons q l ih =>
          intro rs i v h h'
          cases rs with
          | nil => exact h.elim
          | cons q' rs =>
            cases i with
            | zero => simp at h'; subst h'; exact ⟨q', rfl, h.1⟩
            | succ i => exact ih rs i v h.2 (by simpa using h')
      obtain ⟨rv, h3, h4⟩ := key l rs i v h2 hv
      exact owes_pure (rv := rv) h (by simp [execOp, h1, Instr.extract, h3]) h4
    · cases h
  · cases h
/-- Of an operation on two whole numbers: what it comes to. -/
theorem intOp_run (op : BinOp) (t : TypeId) (k : IntKind) (x y : Int) (v : Value) (hx : wfB (.int k x) = true) (hs : op ≠ .shl ∧ op ≠ .shr) (h : intV op k x y = some (false, v)) :
    wfB v = true ∧ (binOp op t (.int k x) (.int k y)).run P w = .ok v w := by
  have hq : ∀ z : Int, wfB (.int k (Int.tmod x z)) = true := by
    intro z
    have h1 := Int.natAbs_tmod x z
    have h2 : (Int.tmod x z).natAbs ≤ x.natAbs := by rw [h1]; exact Nat.mod_le _ _
    have h3 : 0 ≤ x → 0 ≤ Int.tmod x z := fun h => Int.tmod_nonneg _ h
    have h4 : x ≤ 0 → Int.tmod x z ≤ 0 := fun h => by
      have := Int.tmod_nonneg z (show 0 ≤ -x by omega)
      rw [Int.neg_tmod] at this
      omega
    simp only [wfB, Bool.and_eq_true, decide_eq_true_eq] at hx ⊢
    have h5 : k.min ≤ 0 := by cases k <;> decide
    have h6 : 0 ≤ k.max := by cases k <;> decide
    omega
  cases op <;> simp only [intV, Option.some.injEq, Prod.mk.injEq, true_and] at h
  case add => subst h; exact ⟨wf_wrap _ _, by simp [binOp, Op.intArith]⟩
  case sub => subst h; exact ⟨wf_wrap _ _, by simp [binOp, Op.intArith]⟩
  case mul => subst h; exact ⟨wf_wrap _ _, by simp [binOp, Op.intArith]⟩
  case quo =>
    obtain ⟨h0, rfl⟩ := h
    exact ⟨wf_wrap _ _, by simp [binOp, Op.intDiv, of_decide_eq_false h0]⟩
  case rem =>
    obtain ⟨h0, rfl⟩ := h
    exact ⟨hq y, by simp [binOp, Op.intDiv, of_decide_eq_false h0]⟩
  case and => subst h; exact ⟨wf_wrap _ _, by simp [binOp]; rfl⟩
  case or => subst h; exact ⟨wf_wrap _ _, by simp [binOp]; rfl⟩
  case xor => subst h; exact ⟨wf_wrap _ _, by simp [binOp]; rfl⟩
  case andNot => subst h; exact ⟨wf_wrap _ _, by simp [binOp]; rfl⟩
  case eql => subst h; exact ⟨rfl, by simp [binOp, Op.intCmp]⟩
  case neq => subst h; exact ⟨rfl, by simp [binOp, Op.intCmp]⟩
  case lss => subst h; exact ⟨rfl, by simp [binOp, Op.intCmp]⟩
  case leq => subst h; exact ⟨rfl, by simp [binOp, Op.intCmp]⟩
  case gtr => subst h; exact ⟨rfl, by simp [binOp, Op.intCmp]⟩
  case geq => subst h; exact ⟨rfl, by simp [binOp, Op.intCmp]⟩
  all_goals first | (cases h; done) | exact absurd rfl hs.1 | exact absurd rfl hs.2

theorem wf_shr (k : IntKind) (x y : Int) (hx : wfB (.int k x) = true) : wfB (.int k (shrI k x y)) = true := by
  unfold shrI
  generalize min y.toNat k.bits = n
  have hp : (0 : Int) < 2 ^ n := Int.pow_pos (by decide)
  rw [Int.fdiv_eq_ediv_of_nonneg _ (by omega)]
  have h1 : 0 ≤ x → x / 2 ^ n ≤ x := fun h => Int.ediv_le_self _ h
  have h2 : 0 ≤ x → 0 ≤ x / 2 ^ n := fun h => Int.ediv_nonneg h (by omega)
  have h3 : x < 0 → x / 2 ^ n < 0 := fun h => Int.ediv_neg_of_neg_of_pos h hp
  have h4 : x < 0 → x ≤ x / 2 ^ n := fun h => by
    rw [Int.le_ediv_iff_mul_le hp]
    have : 1 ≤ (2 : Int) ^ n := by omega
    have h5 := Int.mul_le_mul_of_nonpos_left (show x ≤ 0 by omega) this
    omega
  simp only [wfB, Bool.and_eq_true, decide_eq_true_eq] at hx ⊢
  have h5 : k.min ≤ 0 := by cases k <;> decide
  have h6 : 0 ≤ k.max := by cases k <;> decide
  by_cases hh : 0 ≤ x
  · have := h1 hh; have := h2 hh; omega
  · have := h3 (by omega); have := h4 (by omega); omega

theorem guard_plain (op : BinOp) (t : TypeId) (x y : Operand) (u v : Value) (hu : wfB u = true) : (eqGuard op t x y u v).run P w = .ok () w := by
  cases u <;> first | (cases hu; done) | (cases op <;> cases v <;> rfl)

theorem guard_agg (op : BinOp) (t : TypeId) (x y : Operand) (xs ys : Array Value) (hm : P.eqGuardType P.depth t = false) : (eqGuard op t x y (.agg xs) (.agg ys)).run P w = .ok () w := run_eqGuard_agg w op t x y xs ys hm
theorem eqV_run (hE : EnvOK P E) (t : TypeId) (vx vy : V0) (rx ry : Value) (b : Bool) (h : eqV (E.ty t) vx vy = some b) (x y : Operand) (hx : VR ρ m w (.o vx) rx) (hy : VR ρ m w (.o vy) ry) :
    (eqGuard .eql t x y rx ry).run P w = .ok () w ∧ (binOp .eql t rx ry).run P w = .ok (.bool b) w ∧ (eqGuard .neq t x y rx ry).run P w = .ok () w ∧ (binOp .neq t rx ry).run P w = .ok (.bool (!b)) w := by
  unfold eqV at h
  split at h
  · rename_i p q
    obtain ⟨rfl, _⟩ := hx
    obtain ⟨rfl, _⟩ := hy
    split at h
    · rename_i ht
      injection h with h
      subst h
      have hu := (hE.ty _ _ ht).2.2
      have e : (Op.equalIn 10000 t (.bool p) (.bool q)).run P w = .ok (p == q) w := run_equalIn_bool' w 9999 t p q hu
      refine ⟨guard_plain _ _ _ _ _ _ rfl, ?_, guard_plain _ _ _ _ _ _ rfl, ?_⟩ <;> simp only [binOp, Op.equal, Op.maxDepth, Sem.run_bind, e, Result.andThen_ok] <;> rfl
    · cases h
  · rename_i p q
    obtain ⟨rfl, hp⟩ := hx
    obtain ⟨rfl, hq⟩ := hy
    split at h
    · injection h with h
      subst h
      refine ⟨guard_plain _ _ _ _ _ _ hp, ?_, guard_plain _ _ _ _ _ _ hp, ?_⟩ <;> simp [binOp, Op.stringOp] <;> exact (beq_toListBytes p q).symm
    · cases h
  · rename_i k n xs k' n' ys
    obtain ⟨rfl, h1, _⟩ := hx
    obtain ⟨rfl, h2, _⟩ := hy
    split at h
    · rename_i n2 k2 ht
      cases hd : decide (n = n2 ∧ n' = n2 ∧ k = k2 ∧ k' = k2) <;> rw [hd] at h
      · cases h
      · obtain ⟨rfl, rfl, rfl, rfl⟩ := of_decide_eq_true hd
        injection h with h
        subst h
        obtain ⟨g1, g2⟩ := hE.eq _ _ ht
        have e := g2 w xs ys h1 h2
        refine ⟨guard_agg _ _ _ _ _ _ g1, ?_, guard_agg _ _ _ _ _ _ g1, ?_⟩ <;> simp only [binOp, Op.equal, Op.maxDepth, Sem.run_bind, e, Result.andThen_ok] <;> rfl
    · cases h
  · rename_i xs ys
    obtain ⟨rfl, hwx⟩ := hx
    obtain ⟨rfl, hwy⟩ := hy
    split at h
    · rename_i zs fs ht
      cases hd : (likeZ zs xs && likeZ zs ys) <;> rw [hd] at h
      · cases h
      · obtain ⟨h1, h2⟩ := Bool.and_eq_true_iff.1 hd
        obtain ⟨g1, g2⟩ := hE.eq _ _ ht
        have e := g2 w xs ys b hwx hwy h1 h2 h
        refine ⟨guard_agg _ _ _ _ _ _ g1, ?_, guard_agg _ _ _ _ _ _ g1, ?_⟩ <;> simp only [binOp, Op.equal, Op.maxDepth, Sem.run_bind, e, Result.andThen_ok] <;> rfl
    · cases h
  · cases h

theorem op_bin (hE : EnvOK P E) (op : BinOp) (t yt : TypeId) (x y : Operand) (hn : isNilTest op y = false) (hx : VR ρ m w (opnd tm x) (a.eval x)) (hy : VR ρ m w (opnd tm y) (a.eval y)) (h : opK E tm m (.binOp op t x y yt) κ = some r) :
    Owes P ρ m ⟨dst, .binOp op t x y yt, ty, pos, after, guard⟩ a w fr κ r := by
  simp only [opK] at h
  rw [hn, cond_false] at h
  unfold binK at h
  split at h
  case h_2 => cases h
  rename_i bad v hb
  obtain ⟨rfl, h⟩ := cond_none' h
  suffices hh : wfB v = true ∧ ((do eqGuard op t x y (a.eval x) (a.eval y); binOp op t (a.eval x) (a.eval y) : Sem Value)).run P w = .ok v w by
    refine owes_pure (v := .o (.p v)) h ?_ ⟨rfl, hh.1⟩
    simp only [execOp]
    rw [Sem.run_bind, hh.2]
    rfl
  unfold binV at hb
  split at hb
  · rename_i k b k' c hx' hy'
    have hx1 := vr_int hx hx'
    have hy1 := vr_int hy hy'
    simp only [Option.some.injEq, Prod.mk.injEq] at hb
    obtain ⟨h0, rfl⟩ := hb
    refine ⟨wf_wrap _ _, ?_⟩
    simp only [hx1.1, hy1.1, Sem.run_bind, guard_plain (P := P) (w := w) _ t x y _ _ hx1.2, Result.andThen_ok]
    simp [binOp, Op.shift, of_decide_eq_false h0]
    rfl
  · rename_i k b k' c hx' hy'
    have hx1 := vr_int hx hx'
    have hy1 := vr_int hy hy'
    simp only [Option.some.injEq, Prod.mk.injEq] at hb
    obtain ⟨h0, rfl⟩ := hb
    refine ⟨wf_shr _ _ _ hx1.2, ?_⟩
    simp only [hx1.1, hy1.1, Sem.run_bind, guard_plain (P := P) (w := w) _ t x y _ _ hx1.2, Result.andThen_ok]
    simp [binOp, Op.shift, of_decide_eq_false h0]
    rfl
  · rename_i op' x0 y0 k b k' c n1 n2 hx' hy'
    have hx1 := vr_int hx hx'
    have hy1 := vr_int hy hy'
    split at hb
    · rename_i hk
      subst hk
      obtain ⟨h2, h3⟩ := intOp_run (P := P) (w := w) _ t k b c v hx1.2 ⟨n1, n2⟩ hb
      refine ⟨h2, ?_⟩
      simp only [hx1.1, hy1.1, Sem.run_bind, guard_plain (P := P) (w := w) _ t x y _ _ hx1.2, Result.andThen_ok, h3]
    · cases hb
  · rename_i s1 s2 hx' hy'
    split at hb
    case h_2 => cases hb
    rename_i ht
    simp only [Option.some.injEq, Prod.mk.injEq] at hb
    obtain ⟨h0, rfl⟩ := hb
    rw [hx'] at hx
    rw [hy'] at hy
    obtain ⟨e1, g1⟩ := hx
    obtain ⟨e2, g2⟩ := hy
    have h0 : s1.size + s2.size ≤ lim := by
      have := of_decide_eq_false h0
      omega
    refine ⟨by simpa [wfB, ByteArray.size_append] using h0, ?_⟩
    have h47 : lim = 140737488355328 := by decide
    have hlt : ¬ (((s1.size + s2.size : Nat) : Int) > IntKind.i64.max) := by
      have hmx : IntKind.i64.max = 9223372036854775807 := by decide
      rw [hmx]
      omega
    simp only [e1, e2, Sem.run_bind, guard_plain (P := P) (w := w) _ t x y _ _ g1, Result.andThen_ok]
    simp [binOp, Op.stringOp]
    exact by simpa using hlt
  · rename_i vx vy _ hx' hy'
    split at hb
    · rename_i b hq
      simp only [Option.some.injEq, Prod.mk.injEq, true_and] at hb
      subst hb
      rw [hx'] at hx
      rw [hy'] at hy
      obtain ⟨e1, e2, _⟩ := eqV_run hE t vx vy _ _ b hq x y hx hy
      exact ⟨rfl, by simp only [Sem.run_bind, e1, Result.andThen_ok, e2]⟩
    · cases hb
  · rename_i vx vy _ hx' hy'
    split at hb
    · rename_i b hq
      simp only [Option.some.injEq, Prod.mk.injEq, true_and] at hb
      subst hb
      rw [hx'] at hx
      rw [hy'] at hy
      obtain ⟨_, _, e1, e2⟩ := eqV_run hE t vx vy _ _ b hq x y hx hy
      exact ⟨rfl, by simp only [Sem.run_bind, e1, Result.andThen_ok, e2]⟩
    · cases hb
  · cases hb
end ops
end Go.Vm

namespace Go.Vm
open Go.RowKit (Below)
variable {P : Program}

def Blk.inn (cs : Array Value) : Blk → Prop
  | .w k n xs => xs.length = n ∧ n ≤ lim ∧ inR k xs ∧ ∀ (j : Nat) (v : Value), (xs.map (Value.int k))[j]? = some v → cs[j]? = some v
  | .c vs => wfL vs ∧ ∀ (j : Nat) (v : Value), vs[j]? = some v → cs[j]? = some v
  | .dead => False
def nameNew (ρ : Nm) (m : Mem) (w : World) : Nm := fun n => if n = m.length then some (w.heap.size, 0) else ρ n

theorem heap_alloc_at (w : World) (o : Obj) : (w.alloc o).heap[w.heap.size]? = some o := by
  show (w.heap.push o)[w.heap.size]? = _
  simp
theorem bsize_alloc (w : World) (cs : Array Value) (e : TypeId) : bsize (w.alloc (.cells cs e)) w.heap.size = cs.size := by
  unfold bsize
  rw [heap_alloc_at]
theorem rangeAt_alloc (w : World) (cs : Array Value) (e : TypeId) (vs : List Value) (h : ∀ (j : Nat) (v : Value), vs[j]? = some v → cs[j]? = some v) : (w.alloc (.cells cs e)).rangeAt w.heap.size 0 vs := by
  intro j v hv
  unfold World.cell?
  rw [heap_alloc_at]
  simpa using h j v hv

theorem eff_newS {ρ : Nm} {m : Mem} {w : World} {fr : List Nat × List Nat} {s : Own} (hs : s = .mine ∨ s = .new) (cs : Array Value) (e : TypeId) (blk : Blk) (v : V) (rv : Value) (hb : blk.inn cs)
    (hv : VR (nameNew ρ m w) (m ++ [(s, blk)]) (w.alloc (.cells cs e)) v rv) :
    Eff ρ m w fr v (m ++ [(s, blk)]) rv (w.alloc (.cells cs e)) (nameNew ρ m w) := by
  have one : ∀ {j : Nat} {p : Own × Blk}, ([(s, blk)] : Mem)[j]? = some p → j = 0 ∧ p = (s, blk) := by
    intro j p h
    cases j with
    | zero => simp at h; exact ⟨rfl, h.symm⟩
    | succ j => simp at h
  have hn : nameNew ρ m w m.length = some (w.heap.size, 0) := if_pos rfl
  refine Eff.ext _ _ _ _ _ ((Below.refl _ _).alloc (Nat.le_refl _) _) (fun n hn => ?_) ⟨?_, ?_, ?_, ?_, ?_, ?_, ?_⟩ hv
  · unfold nameNew
    rw [if_neg (by simp at hn; omega)]
  · intro j s b h
    obtain ⟨rfl, h⟩ := one h
    cases h
    cases blk with
    | w k n xs => exact ⟨hb.1, hb.2.1, hb.2.2.1, .inr ⟨_, _, hn, rangeAt_alloc w cs e _ hb.2.2.2⟩⟩
    | c vs => exact ⟨hb.1, .inr ⟨_, _, hn, rangeAt_alloc w cs e _ hb.2⟩⟩
    | dead => exact hb.elim
  · intro j b h
    obtain ⟨rfl, _⟩ := one h
    refine ⟨?_, ?_⟩ <;> intro c o hc <;> (rw [Nat.add_zero, hn] at hc; cases hc)
    · exact ⟨rfl, _, _, heap_alloc_at w _⟩
    · exact Nat.le_refl _
  · intro j b j' c o o' h h' _ _
    obtain ⟨rfl, _⟩ := one h
    simp at h'
    omega
  · intro j b h c o hc
    obtain ⟨rfl, _⟩ := one h
    rw [Nat.add_zero, hn] at hc
    cases hc
    exact Nat.le_refl _
  · intro j b h
    obtain ⟨_, h⟩ := one h
    rcases hs with rfl | rfl <;> cases h
  · intro j s b h
    obtain ⟨_, h⟩ := one h
    cases h
    rintro rfl
    exact hb
  · intro j c o h hc
    have : j = 0 := by simp at h; omega
    subst this
    rw [Nat.add_zero, hn] at hc
    cases hc
    simp

theorem eff_new {ρ : Nm} {m : Mem} {w : World} {fr : List Nat × List Nat} (cs : Array Value) (e : TypeId) (blk : Blk) (v : V) (rv : Value) (hb : blk.inn cs)
    (hv : VR (nameNew ρ m w) (m ++ [(.mine, blk)]) (w.alloc (.cells cs e)) v rv) :
    Eff ρ m w fr v (m ++ [(.mine, blk)]) rv (w.alloc (.cells cs e)) (nameNew ρ m w) := eff_newS (.inl rfl) cs e blk v rv hb hv
theorem vr_new {ρ : Nm} {m : Mem} {w : World} (cs : Array Value) (e : TypeId) (blk : Blk) : VR (nameNew ρ m w) (m ++ [(.mine, blk)]) (w.alloc (.cells cs e)) (.o (.a m.length 0)) (.pointer (some ⟨w.heap.size, 0, none⟩)) :=
  ⟨by simp, w.heap.size, 0, if_pos rfl, rfl⟩
theorem slr_new {ρ : Nm} {m : Mem} {w : World} {s : Own} (cs : Array Value) (e : TypeId) (blk : Blk) (n cap : Nat) (h1 : n ≤ cap) (h2 : cap ≤ cs.size) (h3 : n ≤ lim) :
    SlR (nameNew ρ m w) (m ++ [(s, blk)]) (w.alloc (.cells cs e)) m.length 0 n (.slice (some ⟨w.heap.size, 0, none⟩) n cap) :=
  ⟨by simp, _, _, rfl, h1, h3, .inr ⟨_, _, if_pos rfl, rfl⟩, fun _ => .inr ⟨_, if_pos rfl, rfl, by rw [bsize_alloc]; omega⟩⟩
theorem vr_news {ρ : Nm} {m : Mem} {w : World} {s : Own} (cs : Array Value) (e : TypeId) (k : IntKind) (n cap : Nat) (xs : List Int) (h1 : n ≤ cap) (h2 : cap ≤ cs.size) (h3 : n ≤ lim) :
    VR (nameNew ρ m w) (m ++ [(s, .w k n xs)]) (w.alloc (.cells cs e)) (.o (.f m.length)) (.slice (some ⟨w.heap.size, 0, none⟩) n cap) :=
  ⟨by simp, fun n' hn => by
    have : n' = n := by simp [blkN] at hn; exact hn.symm
    subst this
    exact slr_new cs e _ n' cap h1 h2 h3⟩

theorem inR_zero (n : Nat) (k : IntKind) : inR k (List.replicate n 0) := by
  intro x hx
  obtain ⟨_, rfl⟩ := List.mem_replicate.1 hx
  cases k <;> decide
theorem wfL_of_all {vs : List Value} (h : vs.all wfB = true) : wfL vs := fun v hv => List.all_eq_true.1 h v hv

/-- A value's own block. -/
theorem blkOf_inn {ρ : Nm} {m : Mem} {w : World} {v : V0} {rv : Value} {b : Blk} (h : blkOf v = some b) (hv : VR0 ρ m w v rv) : b.inn rv.cells := by
  cases v with
  | p v =>
    obtain ⟨rfl, hw⟩ := hv
    cases h
    have hc : rv.cells = #[rv] := by cases rv <;> first | rfl | cases hw
    refine ⟨fun x hx => by simp at hx; subst hx; exact hw, fun j v hj => ?_⟩
    rw [hc]
    simpa using hj
  | r k n xs =>
    obtain ⟨rfl, h1, h2, h3⟩ := hv
    cases h
    exact ⟨h1, h2, h3, fun j v hj => by simpa [Value.cells] using hj⟩
  | g vs =>
    obtain ⟨rfl, h1⟩ := hv
    cases h
    exact ⟨h1, fun j v hj => by simpa [Value.cells] using hj⟩
  | _ => cases h

section ops
variable {E : Env} {ρ : Nm} {m : Mem} {w : World} {a : Act} {tm : List V} {κ : V → Mem → R} {r : List (Own × D)} {fr : List Nat × List Nat} {dst : Option Tmp} {ty : TypeId} {pos : String} {after : Array Edge} {guard : Option (Nat × Bool)}

theorem zero_vr (hE : EnvOK P E) {t : TypeId} {td : Ty} {v : V0} (ht : E.ty t = some td) (hz : td.zero = some v) : VR0 ρ m w v td.real := by
  have h := hE.ty _ _ ht
  cases td with
  | i k => cases hz; exact ⟨rfl, by cases k <;> decide⟩
  | b => cases hz; exact ⟨rfl, rfl⟩
  | str => cases hz; exact ⟨rfl, rfl⟩
  | arr n k => cases hz; exact ⟨rfl, by simp, h.2.2.1, inR_zero n k⟩
  | st zs fs => cases hz; exact ⟨rfl, wfL_of_all h.2.2.2⟩
  | sl e => cases hz; exact ⟨none, rfl⟩
  | ar n zs e => cases hz; exact ⟨rfl, wfL_of_all h.2.2.2⟩

theorem op_alloc (hE : EnvOK P E) (t : TypeId) (h : opK E tm m (.alloc t) κ = some r) : Owes P ρ m ⟨dst, .alloc t, ty, pos, after, guard⟩ a w fr κ r := by
  simp only [opK] at h
  split at h
  · rename_i v hv
    split at h
    · rename_i b hb
      cases ht : E.ty t with
      | none => rw [ht] at hv; cases hv
      | some td =>
        rw [ht] at hv
        have hz := (hE.ty _ _ ht).2.1
        have hi := blkOf_inn hb (zero_vr (ρ := ρ) (m := m) (w := w) hE ht hv)
        refine ⟨_, _, h, does_value (w' := w.alloc (.cells td.real.cells t)) (rv := .pointer (some ⟨w.heap.size, 0, none⟩)) ?_ ⟨_, eff_new _ t b _ _ hi (vr_new _ t b)⟩⟩
        simp [execOp, Instr.alloc, run_zero' w hz, newVar, newRow]
    · cases h
  · cases h

theorem op_box (t : TypeId) (x : Operand) (hx : VR ρ m w (opnd tm x) (a.eval x)) (h : opK E tm m (.box t x) κ = some r) : Owes P ρ m ⟨dst, .box t x, ty, pos, after, guard⟩ a w fr κ r := by
  simp only [opK] at h
  split at h
  · rename_i td v ht hv
    split at h
    · rename_i b hb
      obtain ⟨_, h⟩ := cond_none h
      rw [hv] at hx
      have hi := blkOf_inn hb hx
      refine ⟨_, _, h, does_value (w' := w.alloc (.cells (a.eval x).cells t)) (rv := .pointer (some ⟨w.heap.size, 0, none⟩)) ?_ ⟨_, eff_new _ t b _ _ hi (vr_new _ t b)⟩⟩
      simp [execOp, Instr.box, newVar, newRow]
    · cases h
  · cases h

theorem op_fieldAddr (hE : EnvOK P E) (t : TypeId) (x : Operand) (f : Nat) (hx : VR ρ m w (opnd tm x) (a.eval x)) (h : opK E tm m (.fieldAddr t x f) κ = some r) : Owes P ρ m ⟨dst, .fieldAddr t x f, ty, pos, after, guard⟩ a w fr κ r := by
  simp only [opK] at h
  split at h
  · rename_i zs fs i k ht hv
    split at h
    · rename_i off ft hf
      split at h
      case h_2 => cases h
      rename_i fd' hfd
      obtain ⟨hz, h⟩ := cond_none' h
      have hz := of_decide_eq_false hz
      have hsz := run_sizeOf' w (hE.ty _ _ hfd).1
      rw [hv] at hx
      obtain ⟨hi, b, o, h1, h2⟩ := hx
      have hs := (hE.ty _ _ ht).2.2.1
      unfold structOf at hs
      split at hs
      · rename_i F hF
        injection hs with hs
        subst hs
        obtain ⟨fd, h3, h4, h5⟩ : ∃ fd, F[f]? = some fd ∧ fd.offset = off ∧ fd.type = ft := by
          rw [List.getElem?_map, Array.getElem?_toList] at hf
          cases hq : F[f]? with
          | none => rw [hq] at hf; cases hf
          | some fd => rw [hq] at hf; cases hf; exact ⟨fd, rfl, rfl, rfl⟩
        refine owes_pure (v := .o (.a i (k + off))) (rv := .pointer (some ⟨b, o + (k + off), none⟩)) h ?_ ⟨hi, b, o, h1, by simp⟩
        simp [execOp, h2, Instr.fieldAt, run_underlying hF, h3, Instr.sureAddr, fieldPlace, h4, h5, hsz, hz, Addr.add_mid, Nat.add_assoc]
      · cases hs
    · cases h
  · cases h
end ops
end Go.Vm

namespace Go.Vm
open Go.RowKit (Below)
variable {P : Program}

theorem cellsW_eq (k : IntKind) (n : Nat) (xs : List Int) (h : xs.length = n) : cellsW k n xs = xs.map (Value.int k) := by
  subst h
  unfold cellsW
  apply List.ext_getElem
  · simp
  · intro i h1 h2
    simp at h1 h2 ⊢
    simp [List.getElem?_eq_getElem h1]
theorem wf_cells {v : Value} {x : Value} (hv : wfB v = true) (h : x ∈ v.cells) : wfB x = true := by
  cases v <;> first | (cases hv; done) | (simp [Value.cells] at h; subst h; exact hv)
theorem cells_wf {ρ : Nm} {m : Mem} {w : World} {v : V0} {rv : Value} (h : VR0 ρ m w v rv) (hr : (realOf (.o v)).isSome = true) : ∀ x ∈ rv.cells, wfB x = true := by
  cases v with
  | p v => obtain ⟨rfl, hw⟩ := h; exact fun x hx => wf_cells hw hx
  | r k n xs =>
    obtain ⟨rfl, _, _, h3⟩ := h
    intro x hx
    simp [Value.cells] at hx
    obtain ⟨y, hy, rfl⟩ := hx
    exact h3 y hy
  | g vs =>
    obtain ⟨rfl, h1⟩ := h
    intro x hx
    simp [Value.cells] at hx
    exact h1 x hx
  | _ => cases hr
theorem realOf_eq {ρ : Nm} {m : Mem} {w : World} {v : V} {rv q : Value} (h : VR ρ m w v rv) (hr : realOf v = some q) : q = rv := by
  unfold realOf at hr
  split at hr
  · cases hr; exact h.1.symm
  · rename_i k n xs
    cases hr
    obtain ⟨rfl, h1, _⟩ := h
    rw [cellsW_eq k n xs h1]
  · cases hr; exact h.1.symm
  · cases hr

theorem fill_wf (place : Nat → Option (Nat × Nat)) : ∀ (rs : List (Nat × Value)) (cells out : Array Value), (∀ x ∈ cells, wfB x = true) → (∀ q ∈ rs, ∀ x ∈ q.2.cells, wfB x = true) →
    Instr.fill place cells rs = some out → (∀ x ∈ out, wfB x = true) ∧ out.size = cells.size
  | [], cells, out, hc, _, h => by simp [Instr.fill] at h; subst h; exact ⟨hc, rfl⟩
  | (i, v) :: rs, cells, out, hc, hr, h => by
    simp only [Instr.fill] at h
    split at h
    · cases h
    · split at h
      · cases h
      · rename_i off size _ _
        have key : ∀ (l : List (Value × Nat)) (A : Array Value), (∀ x ∈ A, wfB x = true) → (∀ q ∈ l, wfB q.1 = true) →
            (∀ x ∈ l.foldl (fun cs q => cs.setIfInBounds (off + q.2) q.1) A, wfB x = true) ∧ (l.foldl (fun cs q => cs.setIfInBounds (off + q.2) q.1) A).size = A.size := by
          intro l
          induction l with
          | nil => intro A hA _; exact ⟨hA, rfl⟩
          | cons q l ih =>
            intro A hA hl
            have := ih (A.setIfInBounds (off + q.2) q.1) (fun x hx => by
              rcases Array.mem_or_eq_of_mem_setIfInBounds hx with hx | hx
              · exact hA x hx
              · subst hx; exact hl q (by simp)) (fun q' hq' => hl q' (by simp [hq']))
            simpa using this
        have hz : ∀ q ∈ v.cells.zipIdx.toList, wfB q.1 = true := by
          intro q hq
          have : q.1 ∈ v.cells := by
            have h1 := Array.mem_zipIdx' (x := q.1) (i := q.2) (Array.mem_toList_iff.1 hq)
            exact h1.2 ▸ Array.getElem_mem _
          exact hr _ (List.mem_cons_self ..) q.1 this
        have h0 := key v.cells.zipIdx.toList cells hc hz
        rw [Array.foldl_toList] at h0
        have h1 := fill_wf place rs _ out h0.1 (fun q hq => hr q (List.mem_cons_of_mem _ hq)) h
        exact ⟨h1.1, h1.2.trans h0.2⟩

theorem fill_arr {ρ : Nm} {m : Mem} {w : World} {a : Act} {tm : List V} (k : IntKind) : ∀ (ps : List (Nat × Operand)) (xs out : List Int), (∀ q ∈ ps, VR ρ m w (opnd tm q.2) (a.eval q.2)) → inR k xs →
    buildArr k xs (ps.map fun q => (q.1, opnd tm q.2)) = some out →
    Instr.fill (fun i => some (i * 1, 1)) (xs.map (Value.int k)).toArray (ps.map fun q => (q.1, a.eval q.2)) = some (out.map (Value.int k)).toArray ∧ out.length = xs.length ∧ inR k out
  | [], xs, out, _, hx, h => by simp [buildArr] at h; subst h; exact ⟨rfl, rfl, hx⟩
  | (i, x) :: ps, xs, out, hq, hx, h => by
    simp only [List.map_cons] at h
    generalize h4 : opnd tm x = vx at h
    unfold buildArr at h
    split at h
    · rename_i heq
      cases heq
    · rename_i i' k' y l heq
      cases heq
      cases hc : decide (i < xs.length ∧ k' = k) <;> rw [hc] at h
      · cases h
      · obtain ⟨hi, rfl⟩ := of_decide_eq_true hc
        have hv := vr_int (hq _ (List.mem_cons_self ..)) h4
        have hx' : inR k' (xs.set i y) := by
          intro z hz
          rcases List.mem_or_eq_of_mem_set hz with hz | rfl
          · exact hx z hz
          · exact hv.2
        obtain ⟨g1, g2, g3⟩ := fill_arr k' ps _ _ (fun q hq' => hq q (List.mem_cons_of_mem _ hq')) hx' h
        refine ⟨?_, by simpa using g2, g3⟩
        simp only [List.map_cons, Instr.fill, hv.1]
        split
        · rename_i hbad
          simp [Value.cells] at hbad
          omega
        · rw [← g1]
          congr 1
          simp [Value.cells]
    · cases h

theorem places_run {E : Env} (hE : EnvOK P E) : ∀ (fs : List Field) (pl : List (Nat × Nat)), placesOf E (fs.map fun f => (f.offset, f.type)) = some pl →
    fs.mapM (fun f => (P.info? f.type).map fun i => (f.offset, i.size)) = some pl
  | [], pl, h => by simp [placesOf] at h; subst h; rfl
  | f :: fs, pl, h => by
    simp only [List.map_cons, placesOf] at h
    split at h
    · rename_i td ps ht hp
      cases h
      have h1 := (hE.ty _ _ ht).1
      have h2 := places_run hE fs ps hp
      cases hi : P.info? f.type with
      | none => rw [hi] at h1; cases h1
      | some i =>
        rw [hi] at h1
        have : i.size = td.size := by simpa using h1
        simp [List.mapM_cons, hi, h2, this]
    · cases h

theorem reals_eq {ρ : Nm} {m : Mem} {w : World} {a : Act} {tm : List V} : ∀ (ps : List (Nat × Operand)) (rs : List (Nat × Value)), (∀ q ∈ ps, VR ρ m w (opnd tm q.2) (a.eval q.2)) →
    realsOf (ps.map fun q => (q.1, opnd tm q.2)) = some rs → rs = (ps.map fun q => (q.1, a.eval q.2)) ∧ ∀ q ∈ rs, ∀ x ∈ q.2.cells, wfB x = true
  | [], rs, _, h => by simp [realsOf] at h; subst h; exact ⟨rfl, by simp⟩
  | (i, x) :: ps, rs, hq, h => by
    simp only [List.map_cons, realsOf] at h
    split at h
    · rename_i q qs h1 h2
      cases h
      have hv := hq _ (List.mem_cons_self ..)
      obtain ⟨g1, g2⟩ := reals_eq ps qs (fun q hq' => hq q (List.mem_cons_of_mem _ hq')) h2
      have e := realOf_eq hv h1
      refine ⟨by simp [e, g1], fun z hz => ?_⟩
      rcases List.mem_cons.1 hz with rfl | hz
      · dsimp only at hv ⊢
        generalize opnd tm x = v at hv h1
        cases v with
        | o v => rw [e]; exact cells_wf hv (by rw [h1]; rfl)
        | t l => cases h1
      · exact g2 z hz
    · cases h

section ops
variable {E : Env} {ρ : Nm} {m : Mem} {w : World} {a : Act} {tm : List V} {κ : V → Mem → R} {r : List (Own × D)} {fr : List Nat × List Nat} {dst : Option Tmp} {ty : TypeId} {pos : String} {after : Array Edge} {guard : Option (Nat × Bool)}

theorem op_build (hE : EnvOK P E) (t : TypeId) (ps : Array (Nat × Operand)) (hp : ∀ q ∈ ps.toList, VR ρ m w (opnd tm q.2) (a.eval q.2)) (h : opK E tm m (.build t ps) κ = some r) :
    Owes P ρ m ⟨dst, .build t ps, ty, pos, after, guard⟩ a w fr κ r := by
  simp only [opK] at h
  have hps : (ps.map fun (i, x) => (i, a.eval x)).toList = ps.toList.map fun q => (q.1, a.eval q.2) := by simp
  split at h
  · rename_i n k ht
    split at h
    · rename_i xs hb
      obtain ⟨g1, g2, g3⟩ := fill_arr (ρ := ρ) (m := m) (w := w) (a := a) k ps.toList _ _ hp (inR_zero n k) hb
      obtain ⟨hs, hz, hl, e, hu, hue, hse⟩ := hE.ty _ _ ht
      refine owes_pure (v := .o (.r k n xs)) (rv := .agg (xs.map (Value.int k)).toArray) h ?_ ⟨rfl, by simpa using g2, hl, g3⟩
      have hb : P.built t (ps.map fun (i, x) => (i, a.eval x)).toList = some (xs.map (Value.int k)).toArray := by
        unfold Program.built
        cases hi : P.info? t with
        | none => rw [hi] at hs; cases hs
        | some it =>
          rw [hi] at hz
          cases hie : P.info? e with
          | none => rw [hie] at hse; cases hse
          | some ie =>
            rw [hie] at hse
            have e1 : ie.size = 1 := by simpa using hse
            have e2 : it.zero = some (Ty.arr n k).real := by simpa using hz
            simp only [hu, e2, hie, e1]
            rw [hps, ← g1]
            rfl
      simp only [execOp, Sem.run_bind, run_build w t _ _ hb, Result.andThen_ok]
      rfl
    · cases h
  · rename_i zs fs ht
    split at h
    · rename_i pl rs hpl hrs
      split at h
      · rename_i vs hf
        obtain ⟨g1, g2⟩ := reals_eq (ρ := ρ) (m := m) (w := w) (a := a) ps.toList rs hp hrs
        obtain ⟨hs, hz, hst, hwf⟩ := hE.ty _ _ ht
        have hw := fill_wf _ rs _ _ (fun x hx => List.all_eq_true.1 hwf x (by simpa using hx)) g2 hf
        refine owes_pure (v := .o (.g vs.toList)) (rv := .agg vs) h ?_ ⟨by simp, fun x hx => hw.1 x (by simpa using hx)⟩
        unfold structOf at hst
        split at hst
        · rename_i F hF
          cases hst
          have hb : P.built t (ps.map fun (i, x) => (i, a.eval x)).toList = some vs := by
            unfold Program.built
            cases hi : P.info? t with
            | none => rw [hi] at hs; cases hs
            | some it =>
              rw [hi] at hz
              have e2 : it.zero = some (Ty.st zs (F.toList.map fun f => (f.offset, f.type))).real := by simpa using hz
              simp only [hF, e2, places_run hE F.toList pl hpl]
              rw [hps, ← g1, ← hf]
              simp [Ty.real, Value.cells]
          simp only [execOp, Sem.run_bind, run_build w t _ _ hb, Result.andThen_ok]
          rfl
        · cases hst
      · cases h
    · cases h
  · cases h
end ops
end Go.Vm

namespace Go.Vm
open Go.RowKit (Below)
variable {P : Program}

theorem rangeAt_take {w : World} {b o : Nat} {cs : List Value} (h : w.rangeAt b o cs) (k n : Nat) : w.rangeAt b (o + k) ((cs.drop k).take n) := by
  intro j v hj
  have h1 : j < n := by
    have := (List.getElem?_eq_some_iff.1 hj).1
    simp at this
    omega
  rw [List.getElem?_take_of_lt h1, List.getElem?_drop] at hj
  have := h (k + j) v hj
  rwa [show o + k + j = o + (k + j) from by omega]
theorem getD_of {xs : List Int} {k : Nat} (h : k < xs.length) : xs[k]? = some (xs.getD k 0) := by
  simp [List.getElem?_eq_getElem h]
theorem inR_getD {k : IntKind} {xs : List Int} (h : inR k xs) (j : Nat) : wfB (.int k (xs.getD j 0)) = true := by
  by_cases hj : j < xs.length
  · have : xs.getD j 0 ∈ xs := by simp [List.getElem?_eq_getElem hj]
    exact h _ this
  · rw [List.getD_eq_getElem?_getD, List.getElem?_eq_none (by omega)]
    cases k <;> decide
theorem all_kind {k : IntKind} : ∀ {vs : List Value}, vs.all (isKind k) = true → (vs.map intOf').map (Value.int k) = vs
  | [], _ => rfl
  | v :: vs, h => by
    simp only [List.all_cons, Bool.and_eq_true] at h
    cases v with
    | int k' n =>
      have : k' = k := of_decide_eq_true h.1
      subst this
      simp [intOf', all_kind h.2]
    | _ => cases h.1
theorem wfL_ints {k : IntKind} {xs : List Int} (h : wfL (xs.map (Value.int k))) : inR k xs := fun x hx => h _ (List.mem_map.2 ⟨x, hx, rfl⟩)

/-- A variable of one cell. -/
theorem run_load_one {t : TypeId} {d : TypeDesc} {w : World} {b o : Nat} {v : Value} (h : P.underlying t = some d) (hd : d.isRow = false) (hc : w.cell? ⟨b, o, none⟩ = some v) :
    (Instr.loadAt t (.pointer (some ⟨b, o, none⟩))).run P w = .ok v w := by
  simp only [Instr.loadAt, Instr.sureAddr, Sem.run_bind, Sem.run_pure, Result.andThen_ok, loadVar, run_isAgg' w h, hd]
  simp [load, Sem.run, hc]

/-- Out of its cells a value reads. -/
theorem load_cells {E : Env} (hE : EnvOK P E) {ρ : Nm} {m : Mem} {w : World} {t : TypeId} {td : Ty} {cs : List Value} {v : V0} {b o : Nat} (ht : E.ty t = some td) (hc : ofCells td cs = some v) (hn : cs.length = td.size)
    (hw : wfL cs) (hr : w.rangeAt b o cs) : ∃ rv, (Instr.loadAt t (.pointer (some ⟨b, o, none⟩))).run P w = .ok rv w ∧ VR0 ρ m w v rv := by
  have hT := hE.ty _ _ ht
  unfold ofCells at hc
  split at hc
  · rename_i k v'
    cases hc
    exact ⟨v', run_load_one hT.2.2.1 rfl (by simpa using hr 0 v' rfl), rfl, hw v' (by simp)⟩
  · rename_i v'
    cases hc
    exact ⟨v', run_load_one hT.2.2 rfl (by simpa using hr 0 v' rfl), rfl, hw v' (by simp)⟩
  · rename_i v'
    cases hc
    exact ⟨v', run_load_one hT.2.2 rfl (by simpa using hr 0 v' rfl), rfl, hw v' (by simp)⟩
  · rename_i n k
    cases hq : (cs.all (isKind k) && cs.length == n) <;> rw [hq] at hc
    · cases hc
    · cases hc
      obtain ⟨h1, h2⟩ := Bool.and_eq_true_iff.1 hq
      obtain ⟨hl, e, hu, _⟩ := hT.2.2
      refine ⟨.agg cs.toArray, run_loadAt_mid w b o t cs _ hr hu rfl (by rw [hT.1, hn]), ?_, by simpa using h2, hl, ?_⟩
      · rw [all_kind h1]
      · exact wfL_ints (by rw [all_kind h1]; exact hw)
  · rename_i zs fs
    cases hq : (cs.length == zs.length) <;> rw [hq] at hc
    · cases hc
    · cases hc
      have hs := hT.2.2.1
      unfold structOf at hs
      split at hs
      · rename_i F hF
        exact ⟨.agg cs.toArray, run_loadAt_mid w b o t cs _ hr hF rfl (by rw [hT.1, hn]), rfl, hw⟩
      · cases hs
  · cases hc

section ops
variable {E : Env} {ρ : Nm} {m : Mem} {w : World} {a : Act} {tm : List V} {κ : V → Mem → R} {r : List (Own × D)} {fr : List Nat × List Nat} {dst : Option Tmp} {ty : TypeId} {pos : String} {after : Array Edge} {guard : Option (Nat × Bool)}

/-- What is known of the blocks that an operation touches. -/
def Touch (ρ : Nm) (m : Mem) (w : World) (ns : List Nat) : Prop := ∀ n ∈ ns, ∀ s b, m[n]? = some (s, b) → BlkOK ρ w n b ∧ (s = .mine → MineOK ρ w n)

theorem op_load (hE : EnvOK P E) (t : TypeId) (x : Operand) (hx : VR ρ m w (opnd tm x) (a.eval x)) (hb : Touch ρ m w (nameOf (opnd tm x)).toList) (h : opK E tm m (.load t x) κ = some r) :
    Owes P ρ m ⟨dst, .load t x, ty, pos, after, guard⟩ a w fr κ r := by
  simp only [opK] at h
  split at h
  case h_2 => cases h
  rename_i td i k ht hv
  rw [hv] at hx hb
  obtain ⟨hi, b, o, h1, h2⟩ := hx
  have run : ∀ rv, (Instr.loadAt t (.pointer (some ⟨b, o + k, none⟩))).run P w = .ok rv w → (execOp a.eval (⟨dst, .load t x, ty, pos, after, guard⟩ : Oper)).run P w = .ok (.value rv) w := by
    intro rv hrv
    simp only [execOp, h2, Sem.run_bind, hrv, Result.andThen_ok]
    rfl
  unfold loadV at h
  split at h
  · rename_i s kd n xs hm
    obtain ⟨hl, hlim, hR, hB⟩ := (hb i (by simp [nameOf]) _ _ hm).1
    split at h
    · rename_i k'
      replace h := cond_none h
      obtain ⟨hk, h⟩ := h
      have hk := of_decide_eq_true hk
      rcases hB with hB | ⟨b', o', h3, h4⟩
      · omega
      · rw [h1] at h3
        cases h3
        have hc : w.cell? ⟨b, o + k, none⟩ = some (.int kd (xs.getD k 0)) := h4 k _ (by rw [List.getElem?_map, getD_of (by omega)]; rfl)
        exact owes_pure h (run _ (run_load_one (hE.ty _ _ ht).2.2.1 rfl hc)) ⟨rfl, inR_getD hR k⟩
    · rename_i n' k'
      replace h := cond_none h
      obtain ⟨hk, h⟩ := h
      obtain ⟨rfl, rfl⟩ := of_decide_eq_true hk
      obtain ⟨_, e, hu, _⟩ := (hE.ty _ _ ht).2.2
      rcases hB with hB | ⟨b', o', h3, h4⟩
      · have hxs : xs = [] := List.eq_nil_of_length_eq_zero (by omega)
        subst hxs
        refine owes_pure (rv := .agg #[]) h (run _ ?_) ⟨rfl, by simpa using hB.symm, hlim, hR⟩
        exact run_loadAt_mid w b (o + 0) t [] _ (fun j v hj => by simp at hj) hu rfl (by rw [(hE.ty _ _ ht).1]; simpa [Ty.size] using hB)
      · rw [h1] at h3
        cases h3
        refine owes_pure h (run _ (run_loadAt_mid w b (o + 0) t _ _ h4 hu rfl (by rw [(hE.ty _ _ ht).1]; simp [Ty.size, hl]))) ⟨rfl, hl, hlim, hR⟩
    · cases h
  · rename_i s vs hm
    obtain ⟨hw, hB⟩ := (hb i (by simp [nameOf]) _ _ hm).1
    obtain ⟨hk, h⟩ := cond_none h
    have hk := of_decide_eq_true hk
    split at h
    · rename_i v hc
      have hn : ((vs.drop k).take td.size).length = td.size := by simp; omega
      have hw' : wfL ((vs.drop k).take td.size) := fun y hy => hw y (List.mem_of_mem_drop (List.mem_of_mem_take hy))
      have hr : w.rangeAt b (o + k) ((vs.drop k).take td.size) := by
        rcases hB with rfl | ⟨b', o', h3, h4⟩
        · intro j v hj
          simp at hj
        · rw [h1] at h3
          cases h3
          exact rangeAt_take h4 k td.size
      obtain ⟨rv, h5, h6⟩ := load_cells (ρ := ρ) (m := m) hE ht hc hn hw' hr
      exact owes_pure (v := .o v) h (run _ h5) h6
    · cases h
  · cases h

/-! ### Stores -/
theorem heap_setCells (b : Nat) : ∀ (vs : List Value) (o : Nat) (w : World) (c : Array Value) (e : TypeId) (fr : Nat × Nat), w.heap[b]? = some (.cells c e fr) →
    ∃ c', (w.setCells b o vs).heap[b]? = some (.cells c' e fr) ∧ c'.size = c.size
  | [], _, _, c, _, _, h => ⟨c, h, rfl⟩
  | v :: vs, o, w, c, e, fr, h => by
    have h1 : (w.setCell ⟨b, o, none⟩ v).heap[b]? = some (.cells (c.setIfInBounds o v) e fr) := by
      simp only [World.setCell, Array.getElem?_modify, if_true, h]
      rfl
    obtain ⟨c', h2, h3⟩ := heap_setCells b vs (o + 1) _ _ _ _ h1
    exact ⟨c', h2, by simpa using h3⟩
theorem heap_setCells_ne (b k : Nat) (hk : k ≠ b) : ∀ (vs : List Value) (o : Nat) (w : World), (w.setCells b o vs).heap[k]? = w.heap[k]?
  | [], _, _ => rfl
  | v :: vs, o, w => by
    rw [World.setCells, heap_setCells_ne b k hk vs]
    exact Below.heap_setCell _ _ _ _ hk
theorem rest_setCells (b : Nat) : ∀ (vs : List Value) (o : Nat) (w : World), (w.setCells b o vs).heap.size = w.heap.size ∧ (w.setCells b o vs).os = w.os ∧ (w.setCells b o vs).tape = w.tape ∧ (w.setCells b o vs).output = w.output
  | [], _, _ => ⟨rfl, rfl, rfl, rfl⟩
  | v :: vs, o, w => by
    obtain ⟨h1, h2, h3, h4⟩ := rest_setCells b vs (o + 1) (w.setCell ⟨b, o, none⟩ v)
    exact ⟨h1.trans (by simp [World.setCell]), h2, h3, h4⟩

theorem run_store_cells {t : TypeId} {w : World} {b o : Nat} {v : Value} (hs : (P.info? t).map (·.size) = some v.cells.size) (ht : w.there b o v.cells.size) (h1 : ∀ x ∈ v.cells.toList, x.oneCell' = true) :
    (Instr.storeAt t (.pointer (some ⟨b, o, none⟩)) v).run P w = .ok () (w.setCells b o v.cells.toList) := by
  have := run_storeCells_cells (P := P) b o v.cells.toList 0 w (fun j hj => by simpa using (ht j (by simpa using hj)).1) (fun j hj => by simpa using (ht j (by simpa using hj)).2) h1
  simp only [Nat.add_zero] at this
  simp [Instr.storeAt, Instr.sureAddr, storeVar, run_sizeOf' w hs, this]
theorem wf_one {v : Value} (h : wfB v = true) : v.oneCell' = true := by
  cases v <;> first | rfl | cases h

/-- The store's effect on a block of the call's own. -/
theorem eff_put {i b k : Nat} {old new : List Value} {blk blk' : Blk} (vs : List Value) (hfw : i ∈ fr.1) (hm : m[i]? = some (.mine, blk)) (hb : ρ i = some (b, 0)) (hM : MineOK ρ w i) (hr : w.rangeAt b 0 old)
    (hk : k + vs.length ≤ old.length) (hn : new = splice old k vs) (hB : w.rangeAt b 0 new → BlkOK ρ w i blk' → True) (hbk : ∀ w' : World, w'.rangeAt b 0 new → BlkOK ρ w' i blk') (hd : blk' ≠ .dead) (hnn : ∀ k n xs, blk' = .w k n xs → blkN m i = some n) :
    w.there b k vs.length ∧ Eff ρ m w fr (.o .u) (m.set i (.mine, blk')) undef (w.setCells b k vs) ρ := by
  obtain ⟨_, c, e, hc⟩ := hM b 0 hb
  obtain ⟨c', hc', hsz⟩ := heap_setCells b vs k w c e (0, 0) hc
  have hcell : ∀ j, j < old.length → w.cell? ⟨b, j, none⟩ = some (old.getD j undef) := by
    intro j hj
    have := hr j (old.getD j undef) (by simp [List.getElem?_eq_getElem hj])
    simpa using this
  have hth : w.there b k vs.length := by
    intro j hj
    refine ⟨by rw [hcell (k + j) (by omega)]; rfl, ?_⟩
    simp [World.frozen?, hc]
  refine ⟨hth, Eff.put i b blk blk' _ hfw hm hb (rest_setCells b vs k w).1 (rest_setCells b vs k w).2 (fun q hq => heap_setCells_ne b q hq vs k w) ?_ (hbk _ ?_) ?_ hd hnn⟩
  · unfold bsize
    rw [hc, hc']
    exact hsz
  · subst hn
    intro j v hj
    rw [Nat.zero_add]
    unfold splice at hj
    by_cases h1 : j < k
    · rw [World.cell?_setCells_out b vs k w _ (fun _ _ => .inl (by simpa using h1)), hcell j (by omega)]
      rw [List.append_assoc, List.getElem?_append_left (by simp; omega), List.getElem?_take_of_lt h1] at hj
      simp [hj]
    · by_cases h2 : j < k + vs.length
      · have h3 := World.cell?_setCells_in b vs k w (fun q hq => (hth q hq).1) (j - k) (by omega)
        rw [show k + (j - k) = j from by omega] at h3
        rw [h3]
        rw [List.append_assoc, List.getElem?_append_right (by simp; omega), List.getElem?_append_left (by simp; omega)] at hj
        simp only [List.length_take, Nat.min_eq_left (show k ≤ old.length by omega)] at hj
        rw [List.getElem?_eq_getElem (by omega)] at hj
        exact hj
      · rw [World.cell?_setCells_out b vs k w _ (fun _ _ => .inr (by simp; omega))]
        rw [List.append_assoc, List.getElem?_append_right (by simp; omega), List.getElem?_append_right (by simp; omega), List.getElem?_drop] at hj
        simp only [List.length_take, Nat.min_eq_left (show k ≤ old.length by omega)] at hj
        rw [show k + vs.length + (j - k - vs.length) = j from by omega] at hj
        have := hr j v hj
        simpa using this
  · intro b' o' h'
    rw [hb] at h'
    cases h'
    exact ⟨rfl, c', e, hc'⟩

theorem splice_set {k : IntKind} (xs : List Int) (j : Nat) (v : Int) (hj : j < xs.length) : (xs.set j v).map (Value.int k) = splice (xs.map (Value.int k)) j [.int k v] := by
  unfold splice
  rw [List.map_set, List.set_eq_take_append_cons_drop]
  simp [hj]
theorem splice_all {α : Type} (old new : List α) (h : old.length = new.length) : new = splice old 0 new := by
  unfold splice
  simp [h]

theorem op_store (hE : EnvOK P E) (t : TypeId) (x y : Operand) (hfr : fr.1 = (nameOf (opnd tm x)).toList) (hx : VR ρ m w (opnd tm x) (a.eval x)) (hy : VR ρ m w (opnd tm y) (a.eval y)) (hb : Touch ρ m w (nameOf (opnd tm x)).toList) (h : opK E tm m (.store t x y) κ = some r) :
    Owes P ρ m ⟨dst, .store t x y, ty, pos, after, guard⟩ a w fr κ r := by
  simp only [opK] at h
  split at h
  case h_2 => cases h
  rename_i td i k v ht hv hv'
  rw [hv] at hx hb hfr
  have hfw : i ∈ fr.1 := by rw [hfr]; simp [nameOf]
  rw [hv'] at hy
  obtain ⟨hi, b, o, h1, h2⟩ := hx
  have hT := hE.ty _ _ ht
  have fin : ∀ {vs : List Value} {m' : Mem} {w' : World}, (Instr.storeAt t (.pointer (some ⟨b, o + k, none⟩)) (a.eval y)).run P w = .ok () w' → κ (.o .u) m' = some r →
      Eff ρ m w fr (.o .u) m' undef w' ρ → Owes P ρ m ⟨dst, .store t x y, ty, pos, after, guard⟩ a w fr κ r := by
    intro vs m' w' hr hκ he
    refine ⟨_, _, hκ, does_skip (w' := w') ?_ ⟨ρ, he⟩⟩
    simp only [execOp, h2, Sem.run_bind, hr, Result.andThen_ok]
    rfl
  unfold storeV at h
  split at h
  · rename_i kd n xs hm
    obtain ⟨⟨hl, hlim, hR, hB⟩, hM⟩ := hb i (by simp [nameOf]) _ _ hm
    have hM := hM rfl
    have ho : o = 0 := (hM b o h1).1
    subst ho
    split at h
    · rename_i kd' z
      replace h := cond_none h
      obtain ⟨hk, h⟩ := h
      obtain ⟨hk, rfl, hs⟩ := of_decide_eq_true hk
      obtain ⟨he, hwf⟩ := hy
      rcases hB with hB | ⟨b', o', h3, h4⟩
      · omega
      · rw [h1] at h3
        cases h3
        obtain ⟨g1, g2⟩ := eff_put (fr := fr) (blk' := .w kd' n (xs.set k z)) (k := k) [.int kd' z] hfw hm h1 hM h4 (by simp; omega) (splice_set xs k z (by omega)) (fun _ _ => trivial)
          (fun w' hw' => ⟨by simpa using hl, hlim, fun q hq => by
            rcases List.mem_or_eq_of_mem_set hq with hq | rfl
            · exact hR q hq
            · exact hwf, .inr ⟨b, 0, h1, hw'⟩⟩) (by intro e; cases e) (by intro _ _ _ e; cases e; unfold blkN; rw [hm])
        refine fin (vs := []) ?_ h g2
        have := run_store_cells (P := P) (t := t) (w := w) (b := b) (o := k) (v := a.eval y) (by rw [hT.1, he, hs]; rfl) (by rw [he]; exact g1) (by rw [he]; simp [Value.cells, Value.oneCell'])
        rw [Nat.zero_add, this, he]
        rfl
    · rename_i kd' n' ys
      replace h := cond_none h
      obtain ⟨hk, h⟩ := h
      obtain ⟨rfl, rfl, rfl, hs⟩ := of_decide_eq_true hk
      obtain ⟨he, hl', _, hR'⟩ := hy
      rcases hB with hB | ⟨b', o', h3, h4⟩
      · subst hB
        have hxs : xs = [] := List.eq_nil_of_length_eq_zero hl
        have hys : ys = [] := List.eq_nil_of_length_eq_zero hl'
        subst hxs
        subst hys
        obtain ⟨g1, g2⟩ := eff_put (fr := fr) (blk' := .w kd' 0 []) (k := 0) (old := []) (new := []) [] hfw hm h1 hM (fun j v hj => by simp at hj) (by simp) rfl (fun _ _ => trivial) (fun w' hw' => ⟨rfl, hlim, hR, .inl rfl⟩) (by intro e; cases e) (by intro _ _ _ e; cases e; unfold blkN; rw [hm])
        refine fin (vs := []) ?_ h g2
        have := run_store_cells (P := P) (t := t) (w := w) (b := b) (o := 0) (v := a.eval y) (by rw [hT.1, he, hs]; rfl) (by rw [he]; exact g1) (by rw [he]; simp [Value.cells])
        rw [Nat.zero_add, this, he]
        rfl
      · rw [h1] at h3
        cases h3
        obtain ⟨g1, g2⟩ := eff_put (fr := fr) (blk' := .w kd' n' ys) (k := 0) (new := ys.map (Value.int kd')) (ys.map (Value.int kd')) hfw hm h1 hM h4 (by simp; omega) (splice_all _ _ (by simp; omega)) (fun _ _ => trivial)
          (fun w' hw' => ⟨hl', hlim, hR', .inr ⟨b, 0, h1, hw'⟩⟩) (by intro e; cases e) (by intro _ _ _ e; cases e; unfold blkN; rw [hm])
        refine fin (vs := []) ?_ h g2
        have := run_store_cells (P := P) (t := t) (w := w) (b := b) (o := 0) (v := a.eval y) (by rw [hT.1, he, hs]; simp [Value.cells, hl']) (by rw [he]; simpa [Value.cells] using g1) (by rw [he]; simp [Value.cells, Value.oneCell'])
        rw [Nat.zero_add, this, he]
        simp [Value.cells]
    · cases h
  · rename_i vs hm
    obtain ⟨⟨hw, hB⟩, hM⟩ := hb i (by simp [nameOf]) _ _ hm
    have hM := hM rfl
    have ho : o = 0 := (hM b o h1).1
    subst ho
    split at h
    · rename_i cs hcs
      replace h := cond_none h
      obtain ⟨hk, h⟩ := h
      obtain ⟨hk, hs⟩ := of_decide_eq_true hk
      have hq : realOf (.o v) = some (a.eval y) ∧ (a.eval y).cells.toList = cs ∧ wfL cs := by
        cases v with
        | p v =>
          obtain ⟨rfl, hwf⟩ := hy
          cases hcs
          have hc : (a.eval y).cells = #[a.eval y] := by
            generalize a.eval y = q at hwf
            cases q <;> first | rfl | cases hwf
          exact ⟨rfl, by rw [hc], fun q hq => by simp at hq; subst hq; exact hwf⟩
        | r kd n xs =>
          obtain ⟨he, hl, _, hR⟩ := hy
          cases hcs
          rw [he, cellsW_eq _ _ _ hl]
          exact ⟨by simp [realOf, cellsW_eq _ _ _ hl], by simp [Value.cells], fun q hq => by
            obtain ⟨z, hz, rfl⟩ := List.mem_map.1 hq
            exact hR z hz⟩
        | g vs =>
          obtain ⟨he, hwf⟩ := hy
          cases hcs
          rw [he]
          exact ⟨rfl, by simp [Value.cells], hwf⟩
        | _ => cases hcs
      obtain ⟨_, hq2, hq3⟩ := hq
      have hwn : wfL (splice vs k cs) := by
        intro q hq
        simp only [splice, List.mem_append] at hq
        rcases hq with (hq | hq) | hq
        · exact hw q (List.mem_of_mem_take hq)
        · exact hq3 q hq
        · exact hw q (List.mem_of_mem_drop hq)
      have hr : w.rangeAt b 0 vs := by
        rcases hB with rfl | ⟨b', o', h3, h4⟩
        · intro j v hj
          simp at hj
        · rw [h1] at h3
          cases h3
          exact h4
      obtain ⟨g1, g2⟩ := eff_put (fr := fr) (blk' := .c (splice vs k cs)) (k := k) cs hfw hm h1 hM hr hk rfl (fun _ _ => trivial) (fun w' hw' => ⟨hwn, .inr ⟨b, 0, h1, hw'⟩⟩) (by intro e; cases e) (by intro _ _ _ e; cases e)
      refine fin (vs := []) ?_ h g2
      have hlen : (a.eval y).cells.size = cs.length := by rw [← hq2]; simp
      have := run_store_cells (P := P) (t := t) (w := w) (b := b) (o := k) (v := a.eval y) (by rw [hT.1, hs, hlen]) (by rw [hlen]; exact g1) (by rw [hq2]; exact fun q hq => wf_one (hq3 q hq))
      rw [Nat.zero_add, this, hq2]
    · cases h
  · cases h
end ops
end Go.Vm

namespace Go.Vm
open Go.RowKit (Below)
variable {P : Program}

theorem replicate_zero (n : Nat) (v : Value) : (Array.range n).map ((#[v] : Array Value)[· % (#[v] : Array Value).size]!) = (List.replicate n v).toArray := by
  apply Array.ext
  · simp
  · intro i h1 h2
    simp [Nat.mod_one]

section ops
variable {E : Env} {ρ : Nm} {m : Mem} {w : World} {a : Act} {tm : List V} {κ : V → Mem → R} {r : List (Own × D)} {fr : List Nat × List Nat} {dst : Option Tmp} {ty : TypeId} {pos : String} {after : Array Edge} {guard : Option (Nat × Bool)}

theorem op_indexAddr (hE : EnvOK P E) (t : TypeId) (x y : Operand) (hx : VR ρ m w (opnd tm x) (a.eval x)) (hy : VR ρ m w (opnd tm y) (a.eval y)) (h : opK E tm m (.indexAddr t x y) κ = some r) :
    Owes P ρ m ⟨dst, .indexAddr t x y, ty, pos, after, guard⟩ a w fr κ r := by
  simp only [opK] at h
  split at h
  · rename_i n kk i k kd j ht hv hv'
    rw [hv] at hx
    obtain ⟨hi, b, o, h1, h2⟩ := hx
    have hy' := (vr_int hy hv').1
    obtain ⟨hc, h⟩ := cond_none h
    have hc := of_decide_eq_true hc
    obtain ⟨_, e, hu, _, hs⟩ := (hE.ty _ _ ht).2.2
    refine owes_pure (v := .o (.a i (k + j.toNat))) (rv := .pointer (some ⟨b, o + (k + j.toNat), none⟩)) h ?_ ⟨hi, b, o, h1, rfl⟩
    simp [execOp, h2, hy', Instr.indexAt, run_underlying hu, asIntOf, Instr.sureAddr, hc, run_sizeOf' w hs, Addr.add_mid, Nat.add_assoc]
  · rename_i e i kd j ht hv hv'
    split at h
    case h_2 => cases h
    rename_i ke s kd' n xs he hm
    rw [hv] at hx
    obtain ⟨hi, ad, cap, h1, h2, h3, h4, _⟩ := hx.2 n (by unfold blkN; rw [hm])
    have hy' := (vr_int hy hv').1
    obtain ⟨hc, h⟩ := cond_none h
    have hc := of_decide_eq_true hc
    have hu := (hE.ty _ _ ht).2.2
    have hs : (P.info? e).map (·.size) = some 1 := (hE.ty _ _ he).1
    rcases h4 with h4 | ⟨b, o, h4, h5⟩
    · omega
    · refine owes_pure (v := .o (.a i j.toNat)) (rv := .pointer (some ⟨b, o + j.toNat, none⟩)) h ?_ ⟨hi, b, o, h4, rfl⟩
      simp [execOp, h1, h5, hy', Instr.indexAt, run_underlying hu, asIntOf, hc, run_sizeOf' w hs, Addr.add_mid]
  · rename_i e i k n kd j ht hv hv'
    rw [hv] at hx
    obtain ⟨hi, ad, cap, h1, h2, h3, h4, _⟩ := hx
    have hy' := (vr_int hy hv').1
    split at h
    · rename_i sz hsz
      obtain ⟨hc, h⟩ := cond_none h
      have hc := of_decide_eq_true hc
      have hu := (hE.ty _ _ ht).2.2
      rcases h4 with h4 | ⟨b, o, h4, h5⟩
      · omega
      · have hs : (P.info? e).map (·.size) = some sz := by
          cases he : E.ty e with
          | none => rw [he] at hsz; cases hsz
          | some td => rw [he] at hsz; cases hsz; exact (hE.ty _ _ he).1
        refine owes_pure (v := .o (.a i (k + j.toNat * sz))) (rv := .pointer (some ⟨b, o + (k + j.toNat * sz), none⟩)) h ?_ ⟨hi, b, o, h4, rfl⟩
        simp [execOp, h1, h5, hy', Instr.indexAt, run_underlying hu, asIntOf, hc, run_sizeOf' w hs, Addr.add_mid, Nat.add_assoc]
    · cases h
  · rename_i n zs e i k kd j ht hv hv'
    rw [hv] at hx
    obtain ⟨hi, b, o, h1, h2⟩ := hx
    have hy' := (vr_int hy hv').1
    split at h
    · rename_i sz hsz
      obtain ⟨hc, h⟩ := cond_none h
      have hc := of_decide_eq_true hc
      obtain ⟨hu, _⟩ := (hE.ty _ _ ht).2.2
      have hs : (P.info? e).map (·.size) = some sz := by
        cases he : E.ty e with
        | none => rw [he] at hsz; cases hsz
        | some td => rw [he] at hsz; cases hsz; exact (hE.ty _ _ he).1
      refine owes_pure (v := .o (.a i (k + j.toNat * sz))) (rv := .pointer (some ⟨b, o + (k + j.toNat * sz), none⟩)) h ?_ ⟨hi, b, o, h1, rfl⟩
      simp [execOp, h2, hy', Instr.indexAt, run_underlying hu, asIntOf, Instr.sureAddr, hc, run_sizeOf' w hs, Addr.add_mid, Nat.add_assoc]
    · cases h
  · cases h

theorem op_index (hE : EnvOK P E) (t : TypeId) (x y : Operand) (hx : VR ρ m w (opnd tm x) (a.eval x)) (hy : VR ρ m w (opnd tm y) (a.eval y)) (h : opK E tm m (.index t x y) κ = some r) :
    Owes P ρ m ⟨dst, .index t x y, ty, pos, after, guard⟩ a w fr κ r := by
  simp only [opK] at h
  split at h
  · rename_i n kk k' n' xs kd j ht hv hv'
    rw [hv] at hx
    obtain ⟨h1, hl, _, hR⟩ := hx
    have hy' := (vr_int hy hv').1
    replace h := cond_none h
    obtain ⟨hc, h⟩ := h
    obtain ⟨hc0, hc1, hk1, hn1⟩ := of_decide_eq_true hc
    subst hk1
    subst hn1
    obtain ⟨_, e, hu, hue, hs⟩ := (hE.ty _ _ ht).2.2
    have hp : (part e (xs.map (Value.int kk)).toArray (j.toNat * 1)).run P w = .ok (.int kk (xs.getD j.toNat 0)) w := by
      refine run_part_one w _ _ _ hue rfl ?_
      rw [Nat.mul_one, List.getElem?_toArray, List.getElem?_map, getD_of (by omega)]
      rfl
    refine owes_pure (v := .o (.p (.int kk (xs.getD j.toNat 0)))) h ?_ ⟨rfl, inR_getD hR _⟩
    simp only [execOp, h1, hy', Instr.index, Sem.run_bind, asIntOf, Sem.run_pure, Result.andThen_ok, run_underlying hu]
    rw [if_pos ⟨hc0, by omega⟩]
    simp only [Sem.run_bind, run_sizeOf' w hs, Result.andThen_ok, hp]
    try rfl
  · rename_i s kd j ht hv hv'
    rw [hv] at hx
    obtain ⟨h1, _⟩ := hx
    have hy' := (vr_int hy hv').1
    obtain ⟨hc, h⟩ := cond_none h
    have hc := of_decide_eq_true hc
    have hu := (hE.ty _ _ ht).2.2
    have hj : j.toNat < s.size := by omega
    refine owes_pure (v := .o (.p (.int .u8 ((s.data.toList.getD j.toNat 0).toNat : Int)))) h ?_ ⟨rfl, ?_⟩
    · simp only [execOp, h1, hy', Instr.index, Sem.run_bind, asIntOf, Sem.run_pure, Result.andThen_ok, run_underlying hu]
      rw [if_pos hc.1, getElem?_pos s j.toNat hj]
      have : s.data.toList.getD j.toNat 0 = s[j.toNat] := by
        have hj' : j.toNat < s.data.toList.length := by simpa using hj
        rw [List.getD_eq_getElem?_getD, List.getElem?_eq_getElem hj']
        rfl
      rw [this]
      rfl
    · have := (s.data.toList.getD j.toNat 0).toNat_lt
      generalize (s.data.toList.getD j.toNat 0).toNat = q at this ⊢
      simp [wfB, IntKind.min, IntKind.max, IntKind.signed, IntKind.bits]
      omega
  · cases h

theorem ofCells_cases {td : Ty} {cs : List Value} {v : V0} (h : ofCells td cs = some v) :
    (∃ u, cs = [u] ∧ v = .p u ∧ ((∃ k, td = .i k) ∨ td = .b ∨ td = .str)) ∨ (∃ n k, td = .arr n k ∧ cs.all (isKind k) = true ∧ cs.length = n ∧ v = .r k n (cs.map intOf')) ∨
    (∃ zs fs, td = .st zs fs ∧ cs.length = zs.length ∧ v = .g cs) := by
  unfold ofCells at h
  split at h
  · cases h; exact .inl ⟨_, rfl, rfl, .inl ⟨_, rfl⟩⟩
  · cases h; exact .inl ⟨_, rfl, rfl, .inr (.inl rfl)⟩
  · cases h; exact .inl ⟨_, rfl, rfl, .inr (.inr rfl)⟩
  · rename_i n k
    cases hq : (cs.all (isKind k) && cs.length == n) <;> rw [hq] at h
    · cases h
    · cases h
      obtain ⟨h1, h2⟩ := Bool.and_eq_true_iff.1 hq
      exact .inr (.inl ⟨n, k, rfl, h1, by simpa using h2, rfl⟩)
  · rename_i zs fs
    cases hq : (cs.length == zs.length) <;> rw [hq] at h
    · cases h
    · cases h
      exact .inr (.inr ⟨zs, fs, rfl, by simpa using hq, rfl⟩)
  · cases h

theorem op_field (hE : EnvOK P E) (t : TypeId) (x : Operand) (f : Nat) (hx : VR ρ m w (opnd tm x) (a.eval x)) (h : opK E tm m (.field t x f) κ = some r) :
    Owes P ρ m ⟨dst, .field t x f, ty, pos, after, guard⟩ a w fr κ r := by
  simp only [opK] at h
  split at h
  case h_2 => cases h
  rename_i zs fs vs ht hv
  rw [hv] at hx
  obtain ⟨h1, hwf⟩ := hx
  split at h
  case h_2 => cases h
  rename_i off ft hf
  split at h
  case h_2 => cases h
  rename_i td hft
  split at h
  case h_2 => cases h
  rename_i v hc
  have hs := (hE.ty _ _ ht).2.2.1
  unfold structOf at hs
  split at hs
  case h_2 => cases hs
  rename_i F hF
  injection hs with hs
  subst hs
  obtain ⟨fd, h3, h4, h5⟩ : ∃ fd, F[f]? = some fd ∧ fd.offset = off ∧ fd.type = ft := by
    rw [List.getElem?_map, Array.getElem?_toList] at hf
    cases hq : F[f]? with
    | none => rw [hq] at hf; cases hf
    | some fd => rw [hq] at hf; cases hf; exact ⟨fd, rfl, rfl, rfl⟩
  have hwt : wfL ((vs.drop off).take td.size) := fun y hy => hwf y (List.mem_of_mem_drop (List.mem_of_mem_take hy))
  have hT := hE.ty _ _ hft
  have key : ∃ rv, (part ft vs.toArray off).run P w = .ok rv w ∧ VR0 ρ m w v rv := by
    have one : ∀ (d : TypeDesc) (u : Value), P.underlying ft = some d → d.isRow = false → (vs.drop off).take td.size = [u] → (part ft vs.toArray off).run P w = .ok u w := by
      intro d u hd hr hu
      refine run_part_one w _ _ _ hd hr ?_
      have h0 : ((vs.drop off).take td.size)[0]? = some u := by rw [hu]; rfl
      rw [List.getElem?_take] at h0
      split at h0
      · rw [List.getElem?_drop, Nat.add_zero] at h0
        simpa using h0
      · cases h0
    have agg : ∀ (d : TypeDesc), P.underlying ft = some d → d.isRow = true → (part ft vs.toArray off).run P w = .ok (.agg ((vs.drop off).take td.size).toArray) w := by
      intro d hd hr
      rw [run_part_agg w _ _ hd hr hT.1]
      congr 2
      apply Array.ext'
      simp
    rcases ofCells_cases hc with ⟨u, hu, rfl, htd⟩ | ⟨n, k, rfl, g1, g2, rfl⟩ | ⟨zs', fs', rfl, _, rfl⟩
    · have hwu : wfB u = true := hwt u (by rw [hu]; simp)
      rcases htd with ⟨k, rfl⟩ | rfl | rfl
      · exact ⟨u, one _ u hT.2.2.1 rfl hu, rfl, hwu⟩
      · exact ⟨u, one _ u hT.2.2 rfl hu, rfl, hwu⟩
      · exact ⟨u, one _ u hT.2.2 rfl hu, rfl, hwu⟩
    · obtain ⟨hl, e, hu, _⟩ := hT.2.2
      exact ⟨_, agg _ hu rfl, by rw [all_kind g1], by simpa using g2, hl, wfL_ints (by rw [all_kind g1]; exact hwt)⟩
    · have hs' := hT.2.2.1
      unfold structOf at hs'
      split at hs'
      · rename_i F' hF'
        exact ⟨_, agg _ hF' rfl, rfl, hwt⟩
      · cases hs'
  obtain ⟨rv, g1, g2⟩ := key
  refine owes_pure (v := .o v) (rv := rv) h ?_ g2
  simp [execOp, h1, Instr.field, run_underlying hF, h3, asAgg, h4, h5, g1]

theorem op_makeSlice (hE : EnvOK P E) (t : TypeId) (x y : Operand) (hx : VR ρ m w (opnd tm x) (a.eval x)) (hy : VR ρ m w (opnd tm y) (a.eval y)) (h : opK E tm m (.makeSlice t x y) κ = some r) :
    Owes P ρ m ⟨dst, .makeSlice t x y, ty, pos, after, guard⟩ a w fr κ r := by
  simp only [opK] at h
  split at h
  case h_2 => cases h
  rename_i k kx l ky c hk hv hv'
  have hx' := (vr_int hx hv).1
  have hy' := (vr_int hy hv').1
  obtain ⟨hc, h⟩ := cond_none h
  obtain ⟨h0, h1, h2⟩ := of_decide_eq_true hc
  unfold kindOf at hk
  split at hk
  case h_2 => cases hk
  rename_i e ht
  split at hk
  case h_2 => cases hk
  rename_i k' he
  cases hk
  have hu := (hE.ty _ _ ht).2.2
  obtain ⟨hs, hz, hue, bb, hbb, hb8⟩ := hE.ty _ _ he
  have hl : IntKind.i64.wrap l = l := by simp [IntKind.wrap, IntKind.signed, IntKind.bits]; omega
  have hcc : IntKind.i64.wrap c = c := by simp [IntKind.wrap, IntKind.signed, IntKind.bits]; omega
  have hcells : (List.replicate c.toNat (Value.int k 0)).toArray.size = c.toNat := by simp
  have hin : (Blk.w k l.toNat (List.replicate l.toNat 0)).inn (List.replicate c.toNat (Value.int k 0)).toArray := by
    refine ⟨by simp, by unfold lim; omega, inR_zero _ _, fun j v hj => ?_⟩
    rw [List.getElem?_map, List.getElem?_replicate] at hj
    split at hj
    · rw [List.getElem?_toArray, List.getElem?_replicate, if_pos (by omega)]
      exact hj
    · cases hj
  refine ⟨_, _, h, does_value (w' := w.alloc (.cells (List.replicate c.toNat (Value.int k 0)).toArray e)) (rv := .slice (some ⟨w.heap.size, 0, none⟩) l.toNat c.toNat) ?_ ⟨_, eff_new _ e _ _ _ hin (vr_news _ e _ _ _ _ (by omega) (by rw [hcells]; exact Nat.le_refl _) (by unfold lim; omega))⟩⟩
  cases hi : P.info? e with
  | none => rw [hi] at hs; cases hs
  | some ie =>
    rw [hi] at hs hz hbb
    have e1 : ie.size = 1 := by simpa [Ty.size] using hs
    have e2 : ie.zero = some (.int k 0) := by simpa [Ty.real] using hz
    have e3 : ie.bytes = bb := by simpa using hbb
    have hnot : (decide (c < 0) || decide ((bb : Int) * c > 2 ^ 48) || decide (l < 0) || decide (l > c)) = false := by
      have : (bb : Int) * c ≤ 8 * 17592186044416 := Int.mul_le_mul (by omega) h2 (by omega) (by omega)
      simp
      omega
    simp only [execOp, hx', hy', Instr.makeSlice, Sem.run_bind, run_underlying hu, Result.andThen_ok, asInt, asIntOf, Sem.run_pure, typeInfo, run_program, hi, hl, hcc, e3]
    rw [hnot]
    simp only [Bool.false_eq_true, if_false]
    by_cases hroom : c.toNat * bb > roomBytes
    · simp only [askRoom, if_pos hroom, mark, Sem.run, Result.andThen_ok, Sem.run_bind, run_sizeOf' w (show (P.info? e).map (·.size) = some 1 by rw [hi]; simp [e1])]
      by_cases hn : c.toNat * 1 = 0
      · have : c.toNat = 0 := by omega
        simp [newRow, this, Array.range_zero']
      · simp only [if_neg hn, Sem.run_bind, run_zero' w (show (P.info? e).bind (·.zero) = some (.int k 0) by rw [hi]; simp [e2]), Result.andThen_ok, Sem.run_pure, Value.cells, newRow]
        rw [replicate_zero, Nat.mul_one]
        rfl
    · simp only [askRoom, if_neg hroom, Sem.run_pure, Result.andThen_ok, Sem.run_bind, run_sizeOf' w (show (P.info? e).map (·.size) = some 1 by rw [hi]; simp [e1])]
      by_cases hn : c.toNat * 1 = 0
      · have : c.toNat = 0 := by omega
        simp [newRow, this, Array.range_zero']
      · simp only [if_neg hn, Sem.run_bind, run_zero' w (show (P.info? e).bind (·.zero) = some (.int k 0) by rw [hi]; simp [e2]), Result.andThen_ok, Sem.run_pure, Value.cells, newRow]
        rw [replicate_zero, Nat.mul_one]
        rfl

/-- The bounds of a slice expression. -/
theorem bounds_run {n N : Nat} (isS : Bool) (hN : n ≤ N) (lo hi : Option Operand) (hlo : ∀ x ∈ lo, VR ρ m w (opnd tm x) (a.eval x)) (hhi : ∀ x ∈ hi, VR ρ m w (opnd tm x) (a.eval x)) (κ' : Nat → Nat → R)
    (h : sliceBds n (lo.map (opnd tm)) (hi.map (opnd tm)) κ' = some r) :
    ∃ l h', l ≤ h' ∧ h' ≤ n ∧ κ' l h' = some r ∧ (Instr.sliceBounds isS n N (lo.map a.eval) (hi.map a.eval) none).run P w = .ok (l, h', N) w := by
  have low : ∀ (h' : Nat), (match (lo.map (opnd tm)) with | none => κ' 0 h' | some (.o (.p (.int _ l))) => cond (decide (0 ≤ l ∧ l ≤ (h' : Int))) (κ' l.toNat h') none | _ => none) = some r →
      ∃ l, l ≤ h' ∧ κ' l h' = some r ∧ ∀ code, (match lo.map a.eval with | some v => Instr.sliceBound v h' code | none => pure 0).run P w = .ok l w := by
    intro h' hl
    cases lo with
    | none => exact ⟨0, Nat.zero_le _, hl, fun _ => rfl⟩
    | some x =>
      simp only [Option.map_some] at hl
      split at hl
      · rename_i heq; cases heq
      · rename_i kd l heq
        injection heq with heq
        have hx := (vr_int (hlo x rfl) heq).1
        obtain ⟨hc, hl⟩ := cond_none hl
        have hc := of_decide_eq_true hc
        refine ⟨l.toNat, by omega, hl, fun code => ?_⟩
        simp [hx, Instr.sliceBound, asIntOf, hc]
      · cases hl
  unfold sliceBds at h
  cases hi with
  | none =>
    simp only [Option.map_none] at h
    obtain ⟨l, h1, h2, h3⟩ := low n h
    refine ⟨l, n, h1, Nat.le_refl _, h2, ?_⟩
    simp only [Instr.sliceBounds, Option.map_none, Sem.run_bind, Sem.run_pure, Result.andThen_ok, Option.isSome_none, Bool.false_eq_true, if_false]
    cases lo <;> simp_all
  | some x =>
    simp only [Option.map_some] at h
    split at h
    · rename_i heq; cases heq
    · rename_i kd q heq
      injection heq with heq
      have hx := (vr_int (hhi x rfl) heq).1
      obtain ⟨hc, h⟩ := cond_none h
      have hc := of_decide_eq_true hc
      obtain ⟨l, h1, h2, h3⟩ := low q.toNat h
      refine ⟨l, q.toNat, h1, by omega, h2, ?_⟩
      have hb : ∀ code, (Instr.sliceBound (a.eval x) N code).run P w = .ok q.toNat w := fun code => by
        simp [hx, Instr.sliceBound, asIntOf, hc.1, show q ≤ (N : Int) by omega]
      simp only [Instr.sliceBounds, Option.map_some, Sem.run_bind, Sem.run_pure, Result.andThen_ok, hb, Option.isSome_none, Bool.false_eq_true, if_false]
      cases lo <;> simp_all
    · cases h

theorem op_slice (hE : EnvOK P E) (t : TypeId) (x : Operand) (lo hi : Option Operand) (hx : VR ρ m w (opnd tm x) (a.eval x)) (hlo : ∀ x ∈ lo, VR ρ m w (opnd tm x) (a.eval x)) (hhi : ∀ x ∈ hi, VR ρ m w (opnd tm x) (a.eval x))
    (hb : Touch ρ m w (nameOf (opnd tm x)).toList) (h : opK E tm m (.slice t x lo hi none) κ = some r) : Owes P ρ m ⟨dst, .slice t x lo hi none, ty, pos, after, guard⟩ a w fr κ r := by
  simp only [opK] at h
  split at h
  · rename_i n k i ht hv
    split at h
    case h_2 => cases h
    rename_i s kd n' xs hm
    replace h := cond_none h
    obtain ⟨hn, h⟩ := h
    have hn := of_decide_eq_true hn
    subst hn
    rw [hv] at hx hb
    obtain ⟨hi', b, o, h1, h2⟩ := hx
    obtain ⟨⟨hl, hlim, hR, hB⟩, hM⟩ := hb i (by simp [nameOf]) _ _ hm
    obtain ⟨hln, e, hu, _, hs⟩ := (hE.ty _ _ ht).2.2
    have main : ∀ (κ' : Nat → Nat → R), sliceBds n' (lo.map (opnd tm)) (hi.map (opnd tm)) κ' = some r → ∃ l h' rv, κ' l h' = some r ∧ (lo = none → hi = none → l = 0 ∧ h' = n') ∧
        (execOp a.eval (⟨dst, .slice t x lo hi none, ty, pos, after, guard⟩ : Oper)).run P w = .ok (.value rv) w ∧ SlR ρ m w i l (h' - l) rv := by
      intro κ' h
      obtain ⟨l, h', g1, g2, g3, g4⟩ := bounds_run (P := P) (w := w) (a := a) false (Nat.le_refl n') lo hi hlo hhi _ h
      have hnn : lo = none → hi = none → l = 0 ∧ h' = n' := by
        intro e1 e2
        subst e1
        subst e2
        simp [Instr.sliceBounds] at g4
        omega
      refine ⟨l, h', .slice (some (if n' = l then (⟨b, o, none⟩ : Addr) else ⟨b, o + l, none⟩)) (h' - l) (n' - l), g3, hnn, ?_, hi', _, _, rfl, by omega, by omega, ?_, ?_⟩
      · simp [execOp, h2, Instr.sliceAt, run_underlying hu, Instr.sureAddr, g4, run_sizeOf' w hs, Addr.add_mid]
      · by_cases hz : h' - l = 0
        · exact .inl hz
        · exact .inr ⟨b, o, h1, by rw [if_neg (by omega)]⟩
      · rintro ⟨q, hq⟩
        rw [hm] at hq
        cases hq
        obtain ⟨rfl, c, ee, hc⟩ := hM rfl b o h1
        by_cases hz : n' = l
        · left; omega
        · right
          refine ⟨b, h1, by rw [if_neg hz, Nat.zero_add], ?_⟩
          have : n' ≤ bsize w b := by
            unfold bsize
            rw [hc]
            rcases hB with hB | ⟨b', o', h3, h4⟩
            · omega
            · rw [h1] at h3
              cases h3
              have := h4 (n' - 1) (.int kd (xs.getD (n' - 1) 0)) (by rw [List.getElem?_map, getD_of (by omega)]; rfl)
              unfold World.cell? at this
              rw [hc] at this
              simp only [Option.isSome_none, Bool.false_eq_true, if_false, Nat.zero_add] at this
              obtain ⟨hlt, _⟩ := Array.getElem?_eq_some_iff.1 this
              show n' ≤ c.size
              omega
          omega
    cases hnn : (lo.isNone && hi.isNone) <;> rw [hnn] at h
    · obtain ⟨l, h', rv, g1, _, g2, g3⟩ := main (fun l h' => κ (.o (.s i l (h' - l))) m) h
      exact owes_pure (v := .o (.s i l (h' - l))) g1 g2 g3
    · obtain ⟨e1, e2⟩ := Bool.and_eq_true_iff.1 hnn
      have e1 : lo = none := by simpa using e1
      have e2 : hi = none := by simpa using e2
      have hk : sliceBds n' (lo.map (opnd tm)) (hi.map (opnd tm)) (fun _ _ => κ (.o (.f i)) m) = some r := by
        rw [e1, e2]
        exact h
      obtain ⟨l, h', rv, g1, g0, g2, g3⟩ := main _ hk
      obtain ⟨rfl, rfl⟩ := g0 e1 e2
      refine owes_pure (v := .o (.f i)) g1 g2 ⟨hi', fun n hn => ?_⟩
      have : n = h' := by unfold blkN at hn; rw [hm] at hn; cases hn; rfl
      subst this
      simpa using g3
  · rename_i e i ht hv
    split at h
    case h_2 => cases h
    rename_i ke s kd n xs he hm
    rw [hv] at hx
    have hx := hx.2 n (by unfold blkN; rw [hm])
    obtain ⟨hi', ad, cap, h1, h2, h3, h4, h5⟩ := hx
    have hu := (hE.ty _ _ ht).2.2
    have hs : (P.info? e).map (·.size) = some 1 := (hE.ty _ _ he).1
    obtain ⟨l, h', g1, g2, g3, g4⟩ := bounds_run (P := P) (w := w) (a := a) true h2 lo hi hlo hhi _ h
    refine owes_pure (v := .o (.s i l (h' - l))) (rv := .slice (if cap = l then ad else ad.map (·.add l)) (h' - l) (cap - l)) g3 ?_ ⟨hi', _, _, rfl, by omega, by omega, ?_, ?_⟩
    · simp [execOp, h1, Instr.sliceAt, Instr.slice, run_underlying hu, g4, run_sizeOf' w hs]
    · by_cases hz : h' - l = 0
      · exact .inl hz
      · rcases h4 with h4 | ⟨b, o, h4, rfl⟩
        · omega
        · refine .inr ⟨b, o, h4, ?_⟩
          rw [if_neg (by omega)]
          simp [Addr.add_mid]
    · intro hm'
      rcases h5 hm' with h7 | ⟨b, h7, rfl, h6⟩
      · left; omega
      · by_cases hz : cap = l
        · left; omega
        · right
          refine ⟨b, h7, ?_, by omega⟩
          rw [if_neg hz]
          simp [Addr.add_mid]
  · rename_i e i k n ht hv
    split at h
    case h_2 => cases h
    rename_i ke he
    rw [hv] at hx
    obtain ⟨hi', ad, cap, h1, h2, h3, h4, h5⟩ := hx
    have hu := (hE.ty _ _ ht).2.2
    have hs : (P.info? e).map (·.size) = some 1 := (hE.ty _ _ he).1
    obtain ⟨l, h', g1, g2, g3, g4⟩ := bounds_run (P := P) (w := w) (a := a) true h2 lo hi hlo hhi _ h
    refine owes_pure (v := .o (.s i (k + l) (h' - l))) (rv := .slice (if cap = l then ad else ad.map (·.add l)) (h' - l) (cap - l)) g3 ?_ ⟨hi', _, _, rfl, by omega, by omega, ?_, ?_⟩
    · simp [execOp, h1, Instr.sliceAt, Instr.slice, run_underlying hu, g4, run_sizeOf' w hs]
    · by_cases hz : h' - l = 0
      · exact .inl hz
      · rcases h4 with h4 | ⟨b, o, h4, rfl⟩
        · omega
        · refine .inr ⟨b, o, h4, ?_⟩
          rw [if_neg (by omega)]
          simp [Addr.add_mid, Nat.add_assoc]
    · intro hm
      rcases h5 hm with h7 | ⟨b, h7, rfl, h6⟩
      · left; omega
      · by_cases hz : cap = l
        · left; omega
        · right
          refine ⟨b, h7, ?_, by omega⟩
          rw [if_neg hz]
          simp [Addr.add_mid]
  · rename_i e ht hv
    split at h
    case h_2 => cases h
    rename_i td he
    rw [hv] at hx
    obtain ⟨ad, h1⟩ := hx
    have hu := (hE.ty _ _ ht).2.2
    obtain ⟨l, h', g1, g2, g3, g4⟩ := bounds_run (P := P) (w := w) (a := a) (n := 0) (N := 0) true (Nat.le_refl 0) lo hi hlo hhi _ h
    have hl : l = 0 := by omega
    have hh : h' = 0 := by omega
    subst hl
    subst hh
    have hs := (hE.ty _ _ he).1
    refine owes_pure (v := .o .z) (rv := .slice ad 0 0) g3 ?_ ⟨ad, rfl⟩
    simp [execOp, h1, Instr.sliceAt, Instr.slice, run_underlying hu, g4, run_sizeOf' w hs]
  · rename_i n kx i k hk0 ht hv
    split at h
    case h_2 => cases h
    rename_i s vs hm
    replace h := cond_none h
    obtain ⟨hn, h⟩ := h
    obtain ⟨hn, hn0⟩ := of_decide_eq_true hn
    cases hnn : (lo.isNone && hi.isNone) <;> rw [hnn] at h
    · cases h
    obtain ⟨e1, e2⟩ := Bool.and_eq_true_iff.1 hnn
    have e1 : lo = none := by simpa using e1
    have e2 : hi = none := by simpa using e2
    subst e1
    subst e2
    rw [cond_true] at h
    rw [hv] at hx hb
    obtain ⟨hi', b, o, h1, h2⟩ := hx
    obtain ⟨⟨hw, hB⟩, hM⟩ := hb i (by simp [nameOf]) _ _ hm
    obtain ⟨hln, e, hu, _, hs⟩ := (hE.ty _ _ ht).2.2
    have hk : sliceBds n ((none : Option Operand).map (opnd tm)) ((none : Option Operand).map (opnd tm)) (fun _ _ => κ (.o (.s i k n)) m) = some r := h
    obtain ⟨l, h', g1, g2, g3, g4⟩ := bounds_run (P := P) (w := w) (a := a) false (Nat.le_refl n) none none hlo hhi _ hk
    have hlh : l = 0 ∧ h' = n := by
      simp [Instr.sliceBounds] at g4
      omega
    obtain ⟨rfl, rfl⟩ := hlh
    refine owes_pure (v := .o (.s i k h')) (rv := .slice (some ⟨b, o + k, none⟩) h' h') g3 ?_ ⟨hi', _, _, rfl, Nat.le_refl _, hln, .inr ⟨b, o, h1, rfl⟩, ?_⟩
    · have hne : ¬ h' = 0 := by omega
      simp only [Option.map_none] at g4
      simp [execOp, h2, Instr.sliceAt, run_underlying hu, Instr.sureAddr, g4, run_sizeOf' w hs, Addr.add_mid, hne]
    · rintro ⟨q, hq⟩
      rw [hm] at hq
      cases hq
      obtain ⟨rfl, c, ee, hc⟩ := hM rfl b o h1
      right
      refine ⟨b, h1, by rw [Nat.zero_add], ?_⟩
      unfold bsize
      rw [hc]
      rcases hB with hB | ⟨b', o', h3, h4⟩
      · rw [hB] at hn
        simp at hn
        omega
      · rw [h1] at h3
        cases h3
        have := h4 (k + h' - 1) (vs[k + h' - 1]'(by omega)) (List.getElem?_eq_getElem (by omega))
        unfold World.cell? at this
        rw [hc] at this
        simp only [Option.isSome_none, Bool.false_eq_true, if_false, Nat.zero_add] at this
        obtain ⟨hlt, _⟩ := Array.getElem?_eq_some_iff.1 this
        show k + h' ≤ c.size
        omega
  · cases h

theorem isSlV_vr {v : V0} {rv : Value} (h : isSlV m v = true) (hv : VR ρ m w (.o v) rv) : ∃ ad n cap, rv = .slice ad n cap := by
  cases v with
  | s i k n => obtain ⟨_, ad, cap, h1, _⟩ := hv; exact ⟨_, _, _, h1⟩
  | z => obtain ⟨ad, h1⟩ := hv; exact ⟨_, _, _, h1⟩
  | f i =>
    have h' : ((m[i]?).any fun | (_, .w ..) => true | _ => false) = true := h
    cases hm : m[i]? with
    | none => rw [hm] at h'; cases h'
    | some q =>
      obtain ⟨s, b⟩ := q
      rw [hm] at h'
      cases b with
      | w k n xs =>
        obtain ⟨_, ad, cap, h1, _⟩ := hv.2 n (by unfold blkN; rw [hm])
        exact ⟨_, _, _, h1⟩
      | _ => cases h'
  | _ => cases h
theorem op_slice3 (hE : EnvOK P E) (t : TypeId) (x z : Operand) (lo hi : Option Operand) (hx : VR ρ m w (opnd tm x) (a.eval x)) (hhi : ∀ x ∈ hi, VR ρ m w (opnd tm x) (a.eval x)) (hz : VR ρ m w (opnd tm z) (a.eval z))
    (h : opK E tm m (.slice t x lo hi (some z)) κ = some r) : Owes P ρ m ⟨dst, .slice t x lo hi (some z), ty, pos, after, guard⟩ a w fr κ r := by
  simp only [opK, slice3K] at h
  split at h
  case h_2 => cases h
  rename_i e ht
  split at h
  case h_2 => cases h
  rename_i td he
  split at h
  case h_2 => cases h
  rename_i v k1 h1 k2 c hv hlo hh hz'
  cases hi with
  | none => cases hh
  | some y =>
  cases lo with
  | some _ => cases hlo
  | none =>
  have hy := hhi y rfl
  have hy' : opnd tm y = .o (.p (.int k1 h1)) := by simpa using hh
  replace h := cond_none h
  obtain ⟨hc, h⟩ := h
  obtain ⟨hs, hc⟩ := Bool.and_eq_true_iff.1 hc
  obtain ⟨rfl, rfl⟩ := of_decide_eq_true hc
  rw [hv] at hx
  obtain ⟨ad, n, cap, hr⟩ := isSlV_vr hs hx
  have hu := (hE.ty _ _ ht).2.2
  have hsz := (hE.ty _ _ he).1
  refine owes_pure (v := .o .z) (rv := .slice ad 0 0) h ?_ ⟨ad, rfl⟩
  simp [execOp, hr, (vr_int hy hy').1, (vr_int hz hz').1, Instr.sliceAt, Instr.slice, run_underlying hu, Instr.sliceBounds, Instr.sliceBound, asIntOf, run_sizeOf' w hsz]
end ops
end Go.Vm

namespace Go.Vm
open Go.RowKit (Below)
variable {P : Program}

theorem fill_size (place : Nat → Option (Nat × Nat)) : ∀ (rs : List (Nat × Value)) (cells out : Array Value), Instr.fill place cells rs = some out → out.size = cells.size
  | [], cells, out, h => by simp [Instr.fill] at h; subst h; rfl
  | (i, v) :: rs, cells, out, h => by
    simp only [Instr.fill] at h
    split at h
    · cases h
    · split at h
      · cases h
      · rename_i off size _ _
        have key : ∀ (l : List (Value × Nat)) (A : Array Value), (l.foldl (fun cs q => cs.setIfInBounds (off + q.2) q.1) A).size = A.size := by
          intro l
          induction l with
          | nil => intro A; rfl
          | cons q l ih => intro A; simpa using ih (A.setIfInBounds (off + q.2) q.1)
        have h1 := fill_size place rs _ out h
        rw [h1, ← Array.foldl_toList]
        exact key _ _

section ops
variable {E : Env} {ρ : Nm} {m : Mem} {w : World} {a : Act} {tm : List V} {κ : V → Mem → R} {r : List (Own × D)} {fr : List Nat × List Nat} {dst : Option Tmp} {ty : TypeId} {pos : String} {after : Array Edge} {guard : Option (Nat × Bool)}

theorem op_buildSlice (hE : EnvOK P E) (t : TypeId) (n : Nat) (ps : Array (Nat × Operand)) (hp : ∀ q ∈ ps.toList, VR ρ m w (opnd tm q.2) (a.eval q.2)) (h : opK E tm m (.buildSlice t n ps) κ = some r) :
    Owes P ρ m ⟨dst, .buildSlice t n ps, ty, pos, after, guard⟩ a w fr κ r := by
  simp only [opK] at h
  have hps : (ps.map fun (i, x) => (i, a.eval x)).toList = ps.toList.map fun q => (q.1, a.eval q.2) := by simp
  split at h
  case h_2 => cases h
  rename_i e ht
  have hu := (hE.ty _ _ ht).2.2
  split at h
  · rename_i k he
    obtain ⟨hs, hz, hue, _⟩ := hE.ty _ _ he
    obtain ⟨ie, hi⟩ : ∃ ie, P.info? e = some ie := by
      cases hi : P.info? e with
      | none => rw [hi] at hs; cases hs
      | some ie => exact ⟨ie, rfl⟩
    have e1 : ie.size = 1 := by rw [hi] at hs; simpa [Ty.size] using hs
    have e2 : ie.zero = some (.int k 0) := by rw [hi] at hz; simpa [Ty.real] using hz
    cases hn : (n == 0) <;> rw [hn] at h
    · have hn : n ≠ 0 := by simpa using hn
      change (match buildArr k (List.replicate n 0) (ps.toList.map fun q => (q.1, opnd tm q.2)) with | some xs => _ | none => none) = some r at h
      split at h
      case h_2 => cases h
      rename_i xs hb
      replace h := cond_none h
      obtain ⟨hc, h⟩ := h
      have hc := of_decide_eq_true hc
      obtain ⟨g1, g2, g3⟩ := fill_arr (ρ := ρ) (m := m) (w := w) (a := a) k ps.toList _ _ hp (inR_zero n k) hb
      have hl : xs.length = n := by simpa using g2
      have hf : Instr.fill (fun i => some (i * ie.size, ie.size)) ((Array.range (n * ie.size)).map ((Value.int k 0).cells[· % (Value.int k 0).cells.size]!)) (ps.map fun (i, x) => (i, a.eval x)).toList = some (xs.map (Value.int k)).toArray := by
        rw [hps, e1, ← g1, Nat.mul_one]
        congr 1
        rw [show (Value.int k 0).cells = #[Value.int k 0] from rfl, replicate_zero]
        simp
      have hin : (Blk.w k n xs).inn (xs.map (Value.int k)).toArray := ⟨hl, by unfold lim; omega, g3, fun j v hj => by simpa using hj⟩
      have hs : (bif E.give softId then Own.new else Own.mine) = .mine ∨ (bif E.give softId then Own.new else Own.mine) = .new := by cases E.give softId <;> simp
      refine ⟨_, _, h, does_value (w' := w.alloc (.cells (xs.map (Value.int k)).toArray e)) (rv := .slice (some ⟨w.heap.size, 0, none⟩) n n) ?_ ⟨_, eff_newS hs _ e _ _ _ hin (vr_news _ e _ _ _ _ (Nat.le_refl _) (by simp; omega) (by unfold lim; omega))⟩⟩
      simp only [execOp, Sem.run_bind, run_buildSlice w t e n _ _ ie _ hu hi e2 (by rw [e1]; omega) (by rw [e1]; omega) hf, Result.andThen_ok]
      rfl
    · have hn : n = 0 := by simpa using hn
      subst hn
      change (bif ps.size == 0 then κ (.o .z) m else none) = some r at h
      obtain ⟨hc, h⟩ := cond_none h
      have hps0 : ps = #[] := Array.eq_empty_of_size_eq_zero (by simpa using hc)
      subst hps0
      have he := Eff.ext (ρ := ρ) (m := m) (w := w) (fr := fr) [] ρ (.o .z) (.slice (some ⟨w.heap.size, 0, none⟩) 0 0) (w.alloc (.cells #[] e)) ((Below.refl _ _).alloc (Nat.le_refl _) _) (fun _ _ => rfl)
        ⟨fun _ _ _ h => by simp at h, fun _ _ h => by simp at h, fun _ _ _ _ _ _ h => by simp at h, fun _ _ h => by simp at h, fun _ _ h => by simp at h, fun _ _ _ h => by simp at h, fun _ _ _ h => by simp at h⟩ ⟨_, rfl⟩
      simp only [List.append_nil] at he
      refine ⟨_, _, h, does_value (w' := w.alloc (.cells #[] e)) (rv := .slice (some ⟨w.heap.size, 0, none⟩) 0 0) ?_ ⟨_, he⟩⟩
      simp [execOp, Instr.buildSlice, run_underlying hu, sizeOf, typeInfo, hi, Instr.fill, newRow, Array.range_zero']
  · rename_i zs fs he
    split at h
    case h_2 => cases h
    rename_i rs hrs
    split at h
    case h_2 => cases h
    rename_i vs hf
    replace h := cond_none h
    obtain ⟨hc, h⟩ := h
    have hc := of_decide_eq_true hc
    obtain ⟨hs, hz, hst, hwf⟩ := hE.ty _ _ he
    obtain ⟨ie, hi⟩ : ∃ ie, P.info? e = some ie := by
      cases hi : P.info? e with
      | none => rw [hi] at hs; cases hs
      | some ie => exact ⟨ie, rfl⟩
    have e1 : ie.size = zs.length := by rw [hi] at hs; simpa [Ty.size] using hs
    have e2 : ie.zero = some (.agg zs.toArray) := by rw [hi] at hz; simpa [Ty.real] using hz
    obtain ⟨g1, g2⟩ := reals_eq (ρ := ρ) (m := m) (w := w) (a := a) ps.toList rs hp hrs
    have hwc : ∀ x ∈ ((Array.range (n * zs.length)).map (zs.toArray[· % zs.toArray.size]!)), wfB x = true := by
      intro x hx
      obtain ⟨q, _, rfl⟩ := Array.mem_map.1 hx
      have hpos : 0 < zs.length := Nat.pos_of_ne_zero (fun e => by rw [e] at hc; omega)
      have hlt : q % zs.toArray.size < zs.toArray.size := Nat.mod_lt _ (by simpa using hpos)
      rw [getElem!_pos zs.toArray _ hlt]
      exact List.all_eq_true.1 hwf _ (by simp)
    have hw := fill_wf _ rs _ _ hwc g2 hf
    have hsz : vs.size = n * zs.length := by rw [hw.2]; simp
    have hn1 : n ≤ n * zs.length := Nat.le_mul_of_pos_right _ (Nat.pos_of_ne_zero (fun e => by rw [e] at hc; omega))
    have hin : (Blk.c vs.toList).inn vs := ⟨fun x hx => hw.1 x (by simpa using hx), fun j v hj => by simpa using hj⟩
    refine ⟨_, _, h, does_value (w' := w.alloc (.cells vs e)) (rv := .slice (some ⟨w.heap.size, 0, none⟩) n n) ?_ ⟨_, eff_new _ e _ _ _ hin (slr_new _ e _ _ _ (Nat.le_refl _) (by omega) (by unfold lim; omega))⟩⟩
    simp only [execOp, Sem.run_bind, run_buildSlice w t e n _ vs ie _ hu hi e2 (by rw [e1]; omega) (by rw [e1]; omega) (by rw [hps, e1, ← g1]; exact hf), Result.andThen_ok]
    rfl
  · cases h

theorem lim_i64 {n : Nat} (h : n ≤ lim) : wfB (.int .i64 (n : Int)) = true := by
  simp only [wfB, IntKind.min, IntKind.max, IntKind.signed, IntKind.bits, lim, Bool.and_eq_true, decide_eq_true_eq] at h ⊢
  simp
  omega
theorem run_builtin (b : Builtin) (ts : Array TypeId) (args : Array Operand) : (execOp a.eval (⟨dst, .call ⟨.builtin b, args, ts⟩, ty, pos, after, guard⟩ : Oper)).run P w =
    (builtin b ts ty (args.map fun | .const _ => true | _ => false) (args.map a.eval)).run P w := by
  simp [execOp, resolve, invoke]
  rfl

/-- The built-in functions that look alone. -/
theorem op_look (hE : EnvOK P E) (b : Builtin) (ts : Array TypeId) (args : Array Operand) (hb : b ≠ .append ∧ b ≠ .copy) (hx : ∀ x ∈ args.toList, VR ρ m w (opnd tm x) (a.eval x))
    (h : builtinK E b ts.toList m (args.toList.map (opnd tm)) κ = some r) : Owes P ρ m ⟨dst, .call ⟨.builtin b, args, ts⟩, ty, pos, after, guard⟩ a w fr κ r := by
  have one : ∀ {x : V}, args.toList.map (opnd tm) = [x] → ∃ y, args = #[y] ∧ opnd tm y = x ∧ VR ρ m w x (a.eval y) := by
    intro x h
    obtain ⟨l⟩ := args
    simp only at h
    match l, h with
    | [y], h =>
      simp at h
      exact ⟨y, rfl, h, h ▸ hx y (by simp)⟩
  have two : ∀ {x z : V}, args.toList.map (opnd tm) = [x, z] → ∃ y u, args = #[y, u] ∧ VR ρ m w x (a.eval y) ∧ VR ρ m w z (a.eval u) := by
    intro x z h
    obtain ⟨l⟩ := args
    simp only at h
    match l, h with
    | [y, u], h =>
      simp at h
      exact ⟨y, u, rfl, h.1 ▸ hx y (by simp), h.2 ▸ hx u (by simp)⟩
  unfold builtinK at h
  split at h
  · rename_i x hargs
    split at h
    case h_2 => cases h
    rename_i t tl hts
    obtain ⟨y, rfl, -, hv⟩ := one hargs
    have ht0 : ts[0]? = some t := by rw [← Array.getElem?_toList, hts]; rfl
    have fin : ∀ (n : Nat), n ≤ lim → κ (.o (.p (.int .i64 (n : Int)))) m = some r → (Builtin.len_ ts ty #[a.eval y]).run P w = .ok (.int .i64 (n : Int)) w →
        Owes P ρ m ⟨dst, .call ⟨.builtin .len, #[y], ts⟩, ty, pos, after, guard⟩ a w fr κ r := by
      intro n hn hκ hr
      refine owes_pure hκ ?_ ⟨rfl, lim_i64 hn⟩
      rw [run_builtin]
      simp [builtin, hr]
    split at h
    · rename_i e i k n ht
      have hu := (hE.ty _ _ ht).2.2
      obtain ⟨_, ad, cap, h1, _, h3, _⟩ := hv
      exact fin n h3 h (by simp [Builtin.len_, ht0, run_underlying hu, h1, goInt])
    · rename_i e i ht
      split at h
      case h_2 => cases h
      rename_i s k n xs hm
      have hu := (hE.ty _ _ ht).2.2
      obtain ⟨_, ad, cap, h1, _, h3, _⟩ := hv.2 n (by unfold blkN; rw [hm])
      exact fin n h3 h (by simp [Builtin.len_, ht0, run_underlying hu, h1, goInt])
    · rename_i e ht
      have hu := (hE.ty _ _ ht).2.2
      obtain ⟨ad, h1⟩ := hv
      exact fin 0 (Nat.zero_le _) h (by simp [Builtin.len_, ht0, run_underlying hu, h1, goInt])
    · rename_i s ht
      have hu := (hE.ty _ _ ht).2.2
      obtain ⟨h1, h2⟩ := hv
      exact fin s.size (by simpa [wfB] using h2) h (by simp [Builtin.len_, ht0, run_underlying hu, h1, goInt])
    · cases h
  · rename_i k x k' y hargs
    obtain ⟨p, q, rfl, hv1, hv2⟩ := two hargs
    obtain ⟨e1, w1⟩ := hv1
    obtain ⟨e2, w2⟩ := hv2
    cases hd : decide (k = k') <;> rw [hd] at h
    · cases h
    · have hk := of_decide_eq_true hd
      subst hk
      refine owes_pure (v := .o (.p (.int k (if y > x then y else x)))) h ?_ ⟨rfl, by split <;> assumption⟩
      rw [run_builtin]
      simp [builtin, Builtin.max_, e1, e2, Builtin.max2]
  · rename_i k x k' y hargs
    obtain ⟨p, q, rfl, hv1, hv2⟩ := two hargs
    obtain ⟨e1, w1⟩ := hv1
    obtain ⟨e2, w2⟩ := hv2
    cases hd : decide (k = k') <;> rw [hd] at h
    · cases h
    · have hk := of_decide_eq_true hd
      subst hk
      refine owes_pure (v := .o (.p (.int k (if y < x then y else x)))) h ?_ ⟨rfl, by split <;> assumption⟩
      rw [run_builtin]
      simp [builtin, Builtin.min_, e1, e2, Builtin.min2]
  · exact absurd rfl hb.1
  · exact absurd rfl hb.2
  · exact absurd rfl hb.2
  · cases h

/-- How what is handed on reads. -/
theorem content_dr {v : V} {rv : Value} {κ' : D → R} (hv : VR ρ m w v rv) (hb : Touch ρ m w (nameOf v).toList) (h : contentK m v κ' = some r) : ∃ d, κ' d = some r ∧ DR w d rv ∧
    (∀ b n, blockOf rv = some b → rv = .slice (some ⟨b, n, none⟩) 0 0 → True) ∧ (d.isSl = true → ∀ ad n cap, rv = .slice (some ad) n cap → n ≠ 0 → ∃ i o, nameOf v = some i ∧ liveAt m i ∧ ρ i = some (ad.block, o)) := by
  unfold contentK at h
  split at h
  · exact ⟨_, h, hv, fun _ _ _ _ => trivial, fun h => by cases h⟩
  · exact ⟨_, h, hv, fun _ _ _ _ => trivial, fun h => by cases h⟩
  · exact ⟨_, h, hv, fun _ _ _ _ => trivial, fun h => by cases h⟩
  · obtain ⟨ad, hr⟩ := hv
    exact ⟨_, h, ⟨ad, 0, hr, Nat.le_refl _, Nat.zero_le _, fun _ h => by (cases h), .inl rfl⟩, fun _ _ _ _ => trivial, fun _ ad' n' cap' he hn => by rw [hr] at he; cases he; exact absurd rfl hn⟩
  · rename_i i
    split at h
    case h_2 => cases h
    rename_i s kd n xs hm
    obtain ⟨hl, hlim, hR, hB⟩ := (hb i (by simp [nameOf]) _ _ hm).1
    obtain ⟨_, ad, cap, h1, h2, h3, h4, _⟩ := hv.2 n (by unfold blkN; rw [hm])
    subst hl
    refine ⟨_, h, ⟨ad, cap, h1, h2, h3, hR, ?_⟩, fun _ _ _ _ => trivial, fun _ ad' n' cap' he hn => ?_⟩
    · rcases h4 with h4 | ⟨b, o, h4, rfl⟩
      · exact .inl h4
      · rcases hB with hB | ⟨b', o', h5, h6⟩
        · exact .inl hB
        · rw [h4] at h5
          cases h5
          exact .inr ⟨b, o, rfl, h6⟩
    · rw [h1] at he
      cases he
      rcases h4 with h4 | ⟨b, o, h4, h5⟩
      · exact absurd h4 hn
      · cases h5
        exact ⟨i, o, rfl, ⟨_, _, hm, by intro e; cases e⟩, h4⟩
  · rename_i i k n
    obtain ⟨hi, ad, cap, h1, h2, h3, h4, _⟩ := hv
    have tail : liveAt m i → ∀ ad' n' cap', rv = .slice (some ad') n' cap' → n' ≠ 0 → ∃ i' o, nameOf (.o (.s i k n)) = some i' ∧ liveAt m i' ∧ ρ i' = some (ad'.block, o) := by
      intro hlv ad' n' cap' he hn
      rw [h1] at he
      cases he
      rcases h4 with h4 | ⟨b, o, h4, h5⟩
      · exact absurd h4 hn
      · cases h5
        exact ⟨i, o, rfl, hlv, h4⟩
    split at h
    · rename_i s kd n' xs hm
      obtain ⟨hl, hlim, hR, hB⟩ := (hb i (by simp [nameOf]) _ _ hm).1
      replace h := cond_none h
      obtain ⟨hc, h⟩ := h
      have hc := of_decide_eq_true hc
      have hlen : ((xs.drop k).take n).length = n := by simp; omega
      refine ⟨_, h, ⟨ad, cap, by rw [hlen]; exact h1, by rw [hlen]; exact h2, by rw [hlen]; exact h3, fun x hx => hR x (List.mem_of_mem_drop (List.mem_of_mem_take hx)), ?_⟩, fun _ _ _ _ => trivial, fun _ => tail ⟨_, _, hm, by intro e; cases e⟩⟩
      rw [hlen]
      rcases h4 with h4 | ⟨b, o, h4, rfl⟩
      · exact .inl h4
      · rcases hB with hB | ⟨b', o', h5, h6⟩
        · left; omega
        · rw [h4] at h5
          cases h5
          refine .inr ⟨b, o + k, rfl, ?_⟩
          have := rangeAt_take h6 k n
          rwa [← List.map_drop, ← List.map_take] at this
    · rename_i s vs hm
      obtain ⟨hw, hB⟩ := (hb i (by simp [nameOf]) _ _ hm).1
      cases hk0 : (k == 0) <;> rw [hk0] at h
      case false =>
        rw [cond_false] at h
        split at h
        case h_2 => cases h
        rename_i kd hkd
        replace h := cond_none h
        obtain ⟨hc, h⟩ := h
        simp only [Bool.and_eq_true, decide_eq_true_eq] at hc
        obtain ⟨hc, ha⟩ := hc
        have hmap := all_kind ha
        have hlen : (((vs.drop k).take n).map intOf').length = n := by simp; omega
        refine ⟨_, h, ⟨ad, cap, by rw [hlen]; exact h1, by rw [hlen]; exact h2, by rw [hlen]; exact h3, fun x hx => ?_, ?_⟩, fun _ _ _ _ => trivial, fun _ => tail ⟨_, _, hm, by intro e; cases e⟩⟩
        · have : Value.int kd x ∈ (vs.drop k).take n := by
            rw [← hmap]
            exact List.mem_map_of_mem hx
          exact hw _ (List.mem_of_mem_drop (List.mem_of_mem_take this))
        · rw [hlen, hmap]
          rcases h4 with h4 | ⟨b, o, h4, rfl⟩
          · exact .inl h4
          · rcases hB with hB | ⟨b', o', h5, h6⟩
            · left
              rw [hB] at hc
              simp at hc
              omega
            · rw [h4] at h5
              cases h5
              exact .inr ⟨b, o + k, rfl, rangeAt_take h6 k n⟩
      rw [cond_true] at h
      replace h := cond_none h
      obtain ⟨hc, h⟩ := h
      obtain ⟨rfl, hc, hc'⟩ := of_decide_eq_true hc
      refine ⟨_, h, ⟨ad, cap, h1, h2, h3, hw, ⟨fun e => by omega, fun e => by rw [e] at hc'; cases hc'⟩, ?_⟩, fun _ _ _ _ => trivial, fun _ => tail ⟨_, _, hm, by intro e; cases e⟩⟩
      rcases h4 with h4 | ⟨b, o, h4, rfl⟩
      · exact .inl h4
      · refine .inr ⟨b, o, rfl, ?_⟩
        rcases hB with rfl | ⟨b', o', h5, h6⟩
        · intro j v hj
          simp at hj
        · rw [h4] at h5
          cases h5
          exact h6
    · cases h
  · cases h

end ops
end Go.Vm

namespace Go.Vm
open Go.RowKit (Below)
variable {P : Program}

def valsOf : Nat → List (Own × D) → List V0
  | _, [] => []
  | b, (_, .p v) :: l => .p v :: valsOf b l
  | b, (_, .r k n xs) :: l => .r k n xs :: valsOf b l
  | b, (_, .g cs) :: l => .g cs :: valsOf b l
  | b, (_, .w _ _) :: l => .f b :: valsOf (b + 1) l
  | b, (_, .c n _) :: l => .s b 0 n :: valsOf (b + 1) l
def blkOfD : D → Option Blk
  | .w k xs => some (.w k xs.length xs)
  | .c _ cs => some (.c cs)
  | _ => none
def blksOf (one : Bool) : List (Own × D) → Mem
  | [] => []
  | (ow, d) :: l => match blkOfD d with
    | some b => (unlessOne one ow, b) :: blksOf one l
    | none => blksOf one l
def adrOf (s : Own) : Value → Option (Nat × Nat)
  | .slice (some ad) n cap => match s with
    | .mine => if cap = 0 then none else some (ad.block, ad.off)
    | _ => if n = 0 then none else some (ad.block, ad.off)
  | _ => none
def adrsOf (one : Bool) : List (Own × D) → List Value → List (Option (Nat × Nat))
  | (ow, d) :: l, r :: rs => match blkOfD d with
    | some _ => adrOf (unlessOne one ow) r :: adrsOf one l rs
    | none => adrsOf one l rs
  | _, _ => []

theorem resV_eq (one : Bool) : ∀ (res : List (Own × D)) (m : Mem), resV one m res = (valsOf m.length res, m ++ blksOf one res)
  | [], m => by simp [resV, valsOf, blksOf]
  | (ow, .p v) :: l, m => by simp [resV, valsOf, blksOf, blkOfD, resV_eq one l m]
  | (ow, .r k n xs) :: l, m => by simp [resV, valsOf, blksOf, blkOfD, resV_eq one l m]
  | (ow, .g cs) :: l, m => by simp [resV, valsOf, blksOf, blkOfD, resV_eq one l m]
  | (ow, .w k xs) :: l, m => by simp [resV, valsOf, blksOf, blkOfD, resV_eq one l]
  | (ow, .c n cs) :: l, m => by simp [resV, valsOf, blksOf, blkOfD, resV_eq one l]

/-- Of each block that came back: of which result, and where. -/
theorem blks_spec {w w' : World} {args : List Value} {q : Prop} (one : Bool) : ∀ (res : List (Own × D)) (rs : List Value), all2 (ResOK w w' args q) res rs → (adrsOf one res rs).length = (blksOf one res).length ∧
    ∀ (j : Nat) (s : Own) (b : Blk), (blksOf one res)[j]? = some (s, b) → ∃ ow d r, ResOK w w' args q (ow, d) r ∧ (ow, d) ∈ res ∧ s = unlessOne one ow ∧ blkOfD d = some b ∧ (adrsOf one res rs)[j]? = some (adrOf s r)
  | [], [], _ => ⟨rfl, fun j s b h => by simp [blksOf] at h⟩
  | (ow, d) :: l, r :: rs, ⟨h1, h2⟩ => by
    obtain ⟨g1, g2⟩ := blks_spec one l rs h2
    unfold blksOf adrsOf
    cases hd : blkOfD d with
    | none =>
      refine ⟨g1, fun j s b h => ?_⟩
      obtain ⟨ow', d', r', k1, k2, k3⟩ := g2 j s b h
      exact ⟨ow', d', r', k1, List.mem_cons_of_mem _ k2, k3⟩
    | some b0 =>
      refine ⟨by simp [g1], fun j s b h => ?_⟩
      cases j with
      | zero =>
        simp at h
        exact ⟨ow, d, r, h1, List.mem_cons_self .., h.1.symm, by rw [hd, h.2], by simp [h.1]⟩
      | succ j =>
        obtain ⟨ow', d', r', k1, k2, k3, k4, k5⟩ := g2 j s b (by simpa using h)
        exact ⟨ow', d', r', k1, List.mem_cons_of_mem _ k2, k3, k4, by simpa using k5⟩

theorem dr_slr {w w' : World} {args : List Value} {one : Bool} {ow : Own} {d : D} {r : Value} {b : Blk} {ρ' : Nm} {M : Mem} {i n : Nat} (h : ResOK w w' args (one = true) (ow, d) r) (hd : blkOfD d = some b) (hi : M[i]? = some (unlessOne one ow, b))
    (hρ : ρ' i = adrOf (unlessOne one ow) r) (hn : ∃ ad cap, r = .slice ad n cap ∧ n ≤ cap ∧ n ≤ lim ∧ (n = 0 ∨ ∃ b o, ad = some ⟨b, o, none⟩)) : SlR ρ' M w' i 0 n r := by
  obtain ⟨ad, cap, rfl, h1, h2, h3⟩ := hn
  have hlt : i < M.length := (List.getElem?_eq_some_iff.1 hi).1
  refine ⟨hlt, ad, cap, rfl, h1, h2, ?_, ?_⟩
  · rcases h3 with h3 | ⟨b', o', rfl⟩
    · exact .inl h3
    · by_cases hz : n = 0
      · exact .inl hz
      · refine .inr ⟨b', o', ?_, rfl⟩
        rw [hρ]
        unfold adrOf
        cases unlessOne one ow <;> simp only []
        · rw [if_neg (by omega)]
        · rw [if_neg hz]
        · rw [if_neg hz]
  · rintro ⟨q, hq⟩
    rw [hi] at hq
    injection hq with hq
    injection hq with hq _
    by_cases hcap : cap = 0
    · exact .inl hcap
    · cases one with
      | false => cases ow <;> cases hq
      | true =>
        have how : ow = .mine := hq
        subst how
        have hsl : d.isSl = true := by cases d <;> first | rfl | cases hd
        obtain ⟨ad', n', cap', he, h4⟩ := h.2 hsl
        cases he
        rcases h4 with h4 | ⟨b', rfl, _, h5⟩
        · exact absurd h4 hcap
        · refine .inr ⟨b', ?_, rfl, ?_⟩
          · rw [hρ]
            simp [adrOf, unlessOne, hcap]
          · rw [Nat.zero_add]
            exact (h5 rfl).2

/-- What came back reads. -/
theorem vals_vr {w w' : World} {args : List Value} {one : Bool} {ρ' : Nm} {M : Mem} : ∀ (res : List (Own × D)) (rs : List Value) (base : Nat), all2 (ResOK w w' args (one = true)) res rs →
    (∀ j : Nat, j < (blksOf one res).length → M[base + j]? = (blksOf one res)[j]? ∧ ρ' (base + j) = ((adrsOf one res rs)[j]?).join) → all2 (VR0 ρ' M w') (valsOf base res) rs
  | [], [], _, _, _ => trivial
  | (ow, .p v) :: l, r :: rs, base, ⟨h1, h2⟩, hM => ⟨h1.1, vals_vr l rs base h2 hM⟩
  | (ow, .r k n xs) :: l, r :: rs, base, ⟨h1, h2⟩, hM => ⟨h1.1, vals_vr l rs base h2 hM⟩
  | (ow, .g cs) :: l, r :: rs, base, ⟨h1, h2⟩, hM => ⟨h1.1, vals_vr l rs base h2 hM⟩
  | (ow, .w k xs) :: l, r :: rs, base, ⟨h1, h2⟩, hM => by
    have h0 := hM 0 (by simp [blksOf, blkOfD])
    have hi : M[base]? = some (unlessOne one ow, .w k xs.length xs) := by simpa [blksOf, blkOfD] using h0.1
    have hρ : ρ' base = adrOf (unlessOne one ow) r := by simpa [adrsOf, blkOfD] using h0.2
    refine ⟨⟨(List.getElem?_eq_some_iff.1 hi).1, fun n hn => ?_⟩, vals_vr l rs (base + 1) h2 (fun j hj => ?_)⟩
    · have : n = xs.length := by unfold blkN at hn; rw [hi] at hn; cases hn; rfl
      subst this
      refine dr_slr h1 rfl hi hρ ?_
      obtain ⟨ad, cap, g1, g2, g3, _, g4⟩ := h1.1
      exact ⟨ad, cap, g1, g2, g3, g4.imp id (fun ⟨b, o, e, _⟩ => ⟨b, o, e⟩)⟩
    · have := hM (j + 1) (by simp [blksOf, blkOfD]; omega)
      rw [show base + (j + 1) = base + 1 + j from by omega] at this
      simpa [blksOf, adrsOf, blkOfD] using this
  | (ow, .c n cs) :: l, r :: rs, base, ⟨h1, h2⟩, hM => by
    have h0 := hM 0 (by simp [blksOf, blkOfD])
    have hi : M[base]? = some (unlessOne one ow, .c cs) := by simpa [blksOf, blkOfD] using h0.1
    have hρ : ρ' base = adrOf (unlessOne one ow) r := by simpa [adrsOf, blkOfD] using h0.2
    refine ⟨?_, vals_vr l rs (base + 1) h2 (fun j hj => ?_)⟩
    · refine dr_slr h1 rfl hi hρ ?_
      obtain ⟨ad, cap, g1, g2, g3, _, _, g4⟩ := h1.1
      exact ⟨ad, cap, g1, g2, g3, g4.imp id (fun ⟨b, o, e, _⟩ => ⟨b, o, e⟩)⟩
    · have := hM (j + 1) (by simp [blksOf, blkOfD]; omega)
      rw [show base + (j + 1) = base + 1 + j from by omega] at this
      simpa [blksOf, adrsOf, blkOfD] using this

theorem shares_of {res : List (Own × D)} : ∀ {d : D}, (Own.old, d) ∈ res → d.isSl = true → shares res = true := by
  induction res with
  | nil => intro d h; cases h
  | cons q l ih =>
    intro d h hs
    obtain ⟨ow, d0⟩ := q
    rcases List.mem_cons.1 h with h | h
    · cases h
      cases d <;> first | rfl | cases hs
    · have := ih h hs
      unfold shares
      split <;> first | rfl | (rename_i heq; cases heq; exact this) | exact this | (rename_i heq; cases heq)

/-- The new blocks of a call. -/
theorem new_blks {w w' : World} {vs : List Value} {res : List (Own × D)} {rs : List Value} {m : Mem} {ρ ρ' : Nm} {fr : List Nat} {one : Bool} (hone : one = true → res.length = 1) (hR : all2 (ResOK w w' vs (one = true)) res rs)
    (hρ : ∀ j, j < (blksOf one res).length → ρ' (m.length + j) = ((adrsOf one res rs)[j]?).join)
    (hold : ∀ d, (Own.old, d) ∈ res → d.isSl = true → ∀ v, v ∈ vs → ∀ ad n cap, v = .slice (some ad) n cap → n ≠ 0 → ∃ i, i ∈ fr ∧ liveAt m i ∧ ¬ mineAt m i ∧ ∃ o, ρ i = some (ad.block, o)) :
    NewOK ρ m w w' fr ρ' (blksOf one res) := by
  obtain ⟨hl, hspec⟩ := blks_spec one res rs hR
  have hlen : ∀ {j : Nat} {p : Own × Blk}, (blksOf one res)[j]? = some p → j < (blksOf one res).length := fun h => (List.getElem?_eq_some_iff.1 h).1
  have get : ∀ {j : Nat} {s : Own} {b : Blk}, (blksOf one res)[j]? = some (s, b) → ∃ ow d r, ResOK w w' vs (one = true) (ow, d) r ∧ (ow, d) ∈ res ∧ s = unlessOne one ow ∧ blkOfD d = some b ∧ d.isSl = true ∧ ρ' (m.length + j) = adrOf s r := by
    intro j s b h
    obtain ⟨ow, d, r, h1, h2, h3, h4, h5⟩ := hspec j s b h
    refine ⟨ow, d, r, h1, h2, h3, h4, (by cases d <;> first | rfl | (cases h4)), ?_⟩
    rw [hρ j (hlen h), h5]
    rfl
  have adr : ∀ {s : Own} {r : Value} {c o : Nat}, adrOf s r = some (c, o) → ∃ ad n cap, r = .slice (some ad) n cap ∧ c = ad.block ∧ o = ad.off ∧ (s = .mine → cap ≠ 0) ∧ (s ≠ .mine → n ≠ 0) := by
    intro s r c o h
    unfold adrOf at h
    split at h
    · rename_i ad n cap
      cases s <;> simp only [] at h
      · split at h
        · cases h
        · rename_i hc; cases h; exact ⟨ad, n, cap, rfl, rfl, rfl, fun _ => hc, fun h => absurd rfl h⟩
      · split at h
        · cases h
        · rename_i hc; cases h; exact ⟨ad, n, cap, rfl, rfl, rfl, (fun h => by cases h), fun _ => hc⟩
      · split at h
        · cases h
        · rename_i hc; cases h; exact ⟨ad, n, cap, rfl, rfl, rfl, (fun h => by cases h), fun _ => hc⟩
    · cases h
  have mineOne : ∀ {ow : Own}, unlessOne one ow = .mine → one = true ∧ ow = .mine := by
    intro ow h
    cases one
    · cases ow <;> cases h
    · exact ⟨rfl, h⟩
  have hmine : ∀ {j : Nat} {b : Blk} {c o : Nat}, (blksOf one res)[j]? = some (.mine, b) → ρ' (m.length + j) = some (c, o) → o = 0 ∧ (∃ cs e, w'.heap[c]? = some (.cells cs e (0, 0))) ∧ w.heap.size ≤ c := by
    intro j b c o h hc
    obtain ⟨ow, d, r, h1, h2, h3, h4, h5, h6⟩ := get h
    obtain ⟨rfl, rfl⟩ := mineOne h3.symm
    rw [h6] at hc
    obtain ⟨ad, n, cap, rfl, rfl, rfl, k1, _⟩ := adr hc
    obtain ⟨ad', n', cap', he, h7⟩ := h1.2 h5
    cases he
    rcases h7 with h7 | ⟨b', he, h8, h9⟩
    · exact absurd h7 (k1 rfl)
    · cases he
      exact ⟨rfl, (h9 rfl).1, h8⟩
  refine ⟨?_, ?_, ?_, ?_, ?_, ?_, ?_⟩
  · intro j s b h
    obtain ⟨ow, d, r, h1, h2, h3, h4, h5, h6⟩ := get h
    cases d with
    | w k xs =>
      cases h4
      obtain ⟨ad, cap, rfl, g1, g2, g3, g4⟩ := h1.1
      refine ⟨rfl, g2, g3, ?_⟩
      by_cases hz : xs.length = 0
      · exact .inl hz
      · rcases g4 with g4 | ⟨b, o, rfl, g4⟩
        · exact absurd g4 hz
        · refine .inr ⟨b, o, ?_, g4⟩
          rw [h6]
          unfold adrOf
          cases s <;> simp only []
          · rw [if_neg (by omega)]
          · rw [if_neg hz]
          · rw [if_neg hz]
    | c n cs =>
      cases h4
      obtain ⟨ad, cap, rfl, g1, g2, g3, g5, g4⟩ := h1.1
      refine ⟨g3, ?_⟩
      by_cases hz : n = 0
      · exact .inl (g5.1 hz)
      · rcases g4 with g4 | ⟨b, o, rfl, g4⟩
        · exact absurd g4 hz
        · refine .inr ⟨b, o, ?_, g4⟩
          rw [h6]
          unfold adrOf
          cases s <;> simp only []
          · rw [if_neg (by omega)]
          · rw [if_neg hz]
          · rw [if_neg hz]
    | _ => cases h4
  · intro j b h
    exact ⟨fun c o hc => ⟨(hmine h hc).1, (hmine h hc).2.1⟩, fun c o hc => (hmine h hc).2.2⟩
  · intro j b j' c o o' h h' _ _
    obtain ⟨ow, d, r, h1, h2, h3, h4, h5, h6⟩ := get h
    obtain ⟨rfl, rfl⟩ := mineOne h3.symm
    have h7 := hone rfl
    have h8 : (blksOf true res).length ≤ 1 := by
      match res, h7 with
      | [(ow, d)], _ =>
        unfold blksOf
        cases blkOfD d <;> simp [blksOf]
    have := hlen h
    omega
  · intro j b h c o hc
    obtain ⟨ow, d, r, h1, h2, h3, h4, h5, h6⟩ := get h
    rw [h6] at hc
    obtain ⟨ad, n, cap, rfl, rfl, rfl, _, k2⟩ := adr hc
    have hn := k2 (by intro e; cases e)
    have how : ow = .new ∨ ow = .mine := by cases one <;> cases ow <;> first | exact .inl rfl | exact .inr rfl | cases h3
    rcases how with rfl | rfl
    · exact h1.2 h5 _ _ _ _ rfl hn rfl
    · obtain ⟨ad', n', cap', he, h7⟩ := h1.2 h5
      cases he
      rcases h7 with h7 | ⟨b', he, h8, _⟩
      · have hle : n ≤ cap := by
          cases d with
          | w k xs => obtain ⟨_, _, e, g1, _⟩ := h1.1; cases e; exact g1
          | c n' cs => obtain ⟨_, _, e, g1, _⟩ := h1.1; cases e; exact g1
          | _ => cases h5
        omega
      · cases he
        exact h8
  · intro j b h c o hc
    obtain ⟨ow, d, r, h1, h2, h3, h4, h5, h6⟩ := get h
    rw [h6] at hc
    obtain ⟨ad, n, cap, rfl, rfl, rfl, _, k2⟩ := adr hc
    have hn := k2 (by intro e; cases e)
    have how : ow = .old := by cases one <;> cases ow <;> first | rfl | cases h3
    subst how
    rcases h1.2 h5 _ _ _ _ rfl hn rfl with h7 | ⟨v, hv, ad', n', cap', rfl, hn', he⟩
    · exact .inl h7
    · right
      obtain ⟨i, g1, g2, g3, o', g4⟩ := hold d h2 h5 _ hv ad' n' cap' rfl hn'
      exact ⟨i, g1, g2, g3, o', by rw [g4, he]⟩
  · intro j s b h
    obtain ⟨ow, d, r, h1, h2, h3, h4, h5, h6⟩ := get h
    cases d <;> first | (cases h4; intro e; cases e) | (cases h4)
  · intro j c o hj hc
    obtain ⟨⟨s, b⟩, hb⟩ : ∃ p, (blksOf one res)[j]? = some p := ⟨_, List.getElem?_eq_getElem hj⟩
    have blk : ∀ {c' : Nat} {ob : Obj}, w'.heap[c']? = some ob → c' < w'.heap.size := fun h => (Array.getElem?_eq_some_iff.1 h).1
    have cell : ∀ {c' o' : Nat} {v : Value}, w'.cell? ⟨c', o', none⟩ = some v → c' < w'.heap.size := by
      intro c' o' v h
      unfold World.cell? at h
      cases hq : w'.heap[c']? with
      | none => rw [hq] at h; cases h
      | some ob => exact blk hq
    by_cases hs : s = .mine
    · subst hs
      obtain ⟨_, ⟨cs, e, h1⟩, _⟩ := hmine hb hc
      exact blk h1
    · obtain ⟨ow, d, r, h1, h2, h3, h4, h5, h6⟩ := get hb
      rw [h6] at hc
      obtain ⟨ad, n, cap, rfl, rfl, rfl, _, k2⟩ := adr hc
      have hn := k2 hs
      cases d with
      | w k xs =>
        obtain ⟨ad', cap', e, _, _, _, g⟩ := h1.1
        cases e
        rcases g with g | ⟨b', o', e, g⟩
        · exact absurd g hn
        · cases e
          exact cell (g 0 (.int k (xs.getD 0 0)) (by rw [List.getElem?_map, getD_of (by omega)]; rfl))
      | c n' cs =>
        obtain ⟨ad', cap', e, _, _, _, g5, g⟩ := h1.1
        cases e
        rcases g with g | ⟨b', o', e, g⟩
        · exact absurd g hn
        · cases e
          cases cs with
          | nil => exact absurd (g5.2 rfl) hn
          | cons v cs => exact cell (g 0 v rfl)
      | _ => cases h5

/-- What is handed on, all of it. -/
theorem contents_dr {ρ : Nm} {m : Mem} {w : World} {r : List (Own × D)} (ev : Operand → Value) (tm : List V) : ∀ (l : List Operand) (κ' : List D → R), (∀ x ∈ l, VR ρ m w (opnd tm x) (ev x)) →
    Touch ρ m w (l.filterMap fun x => nameOf (opnd tm x)) → contentsK m (l.map (opnd tm)) κ' = some r →
    ∃ ds, κ' ds = some r ∧ all2 (DR w) ds (l.map ev) ∧ ∀ v, v ∈ l.map ev → ∀ ad n cap, v = .slice (some ad) n cap → n ≠ 0 → ∃ x, x ∈ l ∧ ∃ i o, nameOf (opnd tm x) = some i ∧ liveAt m i ∧ ρ i = some (ad.block, o)
  | [], κ', _, _, h => ⟨[], h, trivial, fun v hv => by simp at hv⟩
  | x :: l, κ', hx, hb, h => by
    simp only [List.map_cons, contentsK] at h
    have hb1 : Touch ρ m w (nameOf (opnd tm x)).toList := fun n hn => hb n (by
      cases hq : nameOf (opnd tm x) with
      | none => rw [hq] at hn; cases hn
      | some i => rw [hq] at hn; simp at hn; subst hn; simp [hq])
    have hb2 : Touch ρ m w (l.filterMap fun x => nameOf (opnd tm x)) := fun n hn => hb n (by
      rw [List.filterMap_cons]
      split
      · exact hn
      · exact List.mem_cons_of_mem _ hn)
    have hv := hx x (List.mem_cons_self ..)
    obtain ⟨d, h1, h2, _, h3⟩ := content_dr hv hb1 h
    obtain ⟨ds, g1, g2, g3⟩ := contents_dr ev tm l _ (fun y hy => hx y (List.mem_cons_of_mem _ hy)) hb2 h1
    refine ⟨d :: ds, g1, ⟨h2, g2⟩, fun v hv' ad n cap he hn => ?_⟩
    rcases List.mem_cons.1 hv' with rfl | hv'
    · have hsl : d.isSl = true := by
        cases d with
        | p q => obtain ⟨e, hw⟩ := h2; rw [he] at e; subst e; cases hw
        | r k n' xs => obtain ⟨e, _⟩ := h2; rw [he] at e; cases e
        | g vs => obtain ⟨e, _⟩ := h2; rw [he] at e; cases e
        | _ => rfl
      obtain ⟨i, o, k1, k2⟩ := h3 hsl ad n cap he hn
      exact ⟨x, List.mem_cons_self .., i, o, k1, k2⟩
    · obtain ⟨y, k1, k2⟩ := g3 v hv' ad n cap he hn
      exact ⟨y, List.mem_cons_of_mem _ k1, k2⟩

theorem all_wf {w : World} : ∀ (ds : List D) (vs : List Value), all2 (DR w) ds vs → ∀ d ∈ ds, d.wf := by
  intro ds
  induction ds with
  | nil => intro _ _ d hd; cases hd
  | cons d ds ih =>
    intro vs h d' hd
    match vs, h with
    | v :: vs, h =>
      rcases List.mem_cons.1 hd with rfl | hd
      · exact h.1.wf
      · exact ih vs h.2 d' hd

section ops
variable {E : Env} {ρ : Nm} {m : Mem} {w : World} {a : Act} {tm : List V} {κ : V → Mem → R} {r : List (Own × D)} {dst : Option Tmp} {ty : TypeId} {pos : String} {after : Array Edge} {guard : Option (Nat × Bool)}

theorem call_real (f : FuncId) (args : Array Operand) (ts : Array TypeId) {ds : List D} {res : List (Own × D)} (h2 : all2 (DR w) ds (args.toList.map a.eval))
    (h3 : ∀ v, v ∈ args.toList.map a.eval → ∀ ad n cap, v = .slice (some ad) n cap → n ≠ 0 → ∃ x, x ∈ args.toList ∧ ∃ i o, nameOf (opnd tm x) = some i ∧ liveAt m i ∧ ρ i = some (ad.block, o))
    (h5 : CallOK P f ds res) (h6 : (shares res && anyOwn m (args.toList.map (opnd tm))) = false) :
    Does P ⟨dst, .call ⟨.value (.func f), args, ts⟩, ty, pos, after, guard⟩ a w fun rv w' => ∃ ρ', Eff ρ m w ([], args.toList.filterMap fun x => nameOf (opnd tm x)) (lone (valsOf m.length res)) (m ++ blksOf (res.length == 1) res) rv w' ρ' := by
  have hcall := h5 w _ h2
  have hrun : (execOp a.eval (⟨dst, .call ⟨.value (.func f), args, ts⟩, ty, pos, after, guard⟩ : Oper)).run P w = (callFunc f (args.toList.map a.eval).toArray).run P w := by
    have : (args.toList.map a.eval).toArray = args.map a.eval := by apply Array.ext'; simp
    rw [this]
    simp [execOp, resolve, invoke, Act.eval, Deferred.ofValue]
  have heff : ∀ rv w', (Below w.heap.size w w' ∧ ∃ rs, rv = tupleOf rs ∧ all2 (ResOK w w' (args.toList.map a.eval) (res.length = 1)) res rs) →
      ∃ ρ', Eff ρ m w ([], args.toList.filterMap fun x => nameOf (opnd tm x)) (lone (valsOf m.length res)) (m ++ blksOf (res.length == 1) res) rv w' ρ' := by
    rintro rv w' ⟨hB, rs, rfl, hR⟩
    have hR' : all2 (ResOK w w' (args.toList.map a.eval) ((res.length == 1) = true)) res rs := by
      have : ((res.length == 1) = true) = (res.length = 1) := by simp
      rw [this]
      exact hR
    obtain ⟨hadl, _⟩ := blks_spec (res.length == 1) res rs hR'
    let ρ' : Nm := fun n => if m.length ≤ n ∧ n < m.length + (blksOf (res.length == 1) res).length then ((adrsOf (res.length == 1) res rs)[n - m.length]?).join else ρ n
    have hρ' : ∀ j, j < (blksOf (res.length == 1) res).length → ρ' (m.length + j) = ((adrsOf (res.length == 1) res rs)[j]?).join := by
      intro j hj
      show (if _ then _ else _) = _
      rw [if_pos (by omega), show m.length + j - m.length = j from by omega]
    refine ⟨ρ', Eff.ext _ ρ' _ _ _ hB (fun n hn => ?_) (new_blks (by simp) hR' hρ' ?_) ?_⟩
    · show (if _ then _ else _) = _
      rw [if_neg (by omega)]
    · intro d hd hs v hv ad n cap he hn
      obtain ⟨x, k1, i, o, k2, k4, k3⟩ := h3 v hv ad n cap he hn
      have hsh := shares_of hd hs
      rw [hsh] at h6
      refine ⟨i, List.mem_filterMap.2 ⟨x, k1, k2⟩, k4, ?_, o, k3⟩
      rintro ⟨b, hmb⟩
      have h8 : anyOwn m (args.toList.map (opnd tm)) = true := by
        unfold anyOwn
        refine List.any_eq_true.2 ⟨opnd tm x, List.mem_map.2 ⟨x, k1, rfl⟩, ?_⟩
        rw [k2]
        simp only []
        rw [hmb]
      rw [h8] at h6
      cases h6
    · have hv := vals_vr (ρ' := ρ') (M := m ++ blksOf (res.length == 1) res) res rs m.length hR' (fun j hj => ⟨by rw [List.getElem?_append_right (by omega)]; simp, hρ' j hj⟩)
      have hl := hv.length
      generalize valsOf m.length res = vals at hv hl
      match vals, rs, hv, hl with
      | [], [], _, _ => exact ⟨[], rfl, trivial⟩
      | [x], [y], hv, _ => exact hv.1
      | x :: x' :: l, y :: y' :: l', hv, _ => exact ⟨_, rfl, hv⟩
  intro K Q hK
  unfold Oper.wp
  rw [hrun]
  rcases hcall with ⟨rv, w', k1, k2⟩ | ⟨k1, k2⟩
  · rw [k1]
    exact hK _ _ (heff rv w' k2)
  · rw [k1]
    exact Calls.mono k2 fun e w' ⟨rv, he, hp⟩ => by
      subst he
      exact hK _ _ (heff rv w' hp)

theorem op_call (hE : EnvOK P E) (f : FuncId) (args : Array Operand) (ts : Array TypeId) (hx : ∀ x ∈ args.toList, VR ρ m w (opnd tm x) (a.eval x))
    (hb : Touch ρ m w (args.toList.filterMap fun x => nameOf (opnd tm x))) (h : opK E tm m (.call ⟨.value (.func f), args, ts⟩) κ = some r) :
    Owes P ρ m ⟨dst, .call ⟨.value (.func f), args, ts⟩, ty, pos, after, guard⟩ a w ([], args.toList.filterMap fun x => nameOf (opnd tm x)) κ r := by
  simp only [opK] at h
  split at h
  case h_2 => cases h
  rename_i F hF
  obtain ⟨ds, h1, h2, h3⟩ := contents_dr (r := r) a.eval tm args.toList _ hx hb h
  have hwf : ∀ d ∈ ds, d.wf := by
    have : ∀ (ds : List D) (vs : List Value), all2 (DR w) ds vs → ∀ d ∈ ds, d.wf := by
      intro ds
      induction ds with
      | nil => intro _ _ d hd; cases hd
      | cons d ds ih =>
        intro vs h d' hd
        match vs, h with
        | v :: vs, h =>
          rcases List.mem_cons.1 hd with rfl | hd
          · exact h.1.wf
          · exact ih vs h.2 d' hd
    exact this ds _ h2
  obtain ⟨res, h4, h5⟩ := hE.fn f F hF ds _ r hwf h1
  obtain ⟨h6, h7⟩ := cond_none' h4
  rw [resV_eq] at h7
  exact ⟨_, _, h7, call_real f args ts h2 h3 h5 h6⟩
end ops
end Go.Vm

namespace Go.Vm
open Go.RowKit (Below)
variable {P : Program}

section
variable {E : Env} {ρ : Nm} {m : Mem} {w : World} {a : Act} {tm : List V} {κ : V → Mem → R} {r : List (Own × D)}
theorem op_owes (hE : EnvOK P E) (o : Oper) (hw : writesMore o.op = false) (hx : ∀ x ∈ o.op.operands, VR ρ m w (opnd tm x) (a.eval x)) (hb : Touch ρ m w ((foot tm o.op).1 ++ (foot tm o.op).2))
    (h : opK E tm m o.op κ = some r) : Owes P ρ m o a w (foot tm o.op) κ r := by
  obtain ⟨dst, op, ty, pos, after, guard⟩ := o
  dsimp only at *
  cases op
  case move x => exact op_move x (hx _ (by simp [Op.operands])) h
  case assign x => exact op_assign x (hx _ (by simp [Op.operands])) h
  case pick c x y => exact op_pick c x y (hx _ (by simp [Op.operands])) (hx _ (by simp [Op.operands])) (hx _ (by simp [Op.operands])) h
  case alloc t => exact op_alloc hE t h
  case box t x => exact op_box t x (hx _ (by simp [Op.operands])) h
  case build t ps => exact op_build hE t ps (fun q hq => hx _ (by simp only [Op.operands]; simpa using ⟨q.1, by simpa using hq⟩)) h
  case buildSlice t n ps => exact op_buildSlice hE t n ps (fun q hq => hx _ (by simp only [Op.operands]; simpa using ⟨q.1, by simpa using hq⟩)) h
  case load t x => exact op_load hE t x (hx _ (by simp [Op.operands])) (by simpa [foot] using hb) h
  case store t x y => exact op_store hE t x y (by simp [foot]) (hx _ (by simp [Op.operands])) (hx _ (by simp [Op.operands])) (by simpa [foot] using hb) h
  case binOp op t x y yt => exact op_bin hE op t yt x y hw (hx _ (by simp [Op.operands])) (hx _ (by simp [Op.operands])) h
  case unOp op t x =>
    cases op
    case not => exact op_not t x (hx _ (by simp [Op.operands])) h
    case neg => exact op_neg t x (hx _ (by simp [Op.operands])) h
    all_goals (simp [opK] at h)
  case convert s t x => exact op_convert hE s t x (hx _ (by simp [Op.operands])) h
  case makeSlice t x y => exact op_makeSlice hE t x y (hx _ (by simp [Op.operands])) (hx _ (by simp [Op.operands])) h
  case slice t x lo hi mx =>
    cases mx
    · exact op_slice hE t x lo hi (hx _ (by simp [Op.operands])) (fun y hy => hx _ (by simp [Op.operands]; right; left; exact hy)) (fun y hy => hx _ (by simp [Op.operands]; right; right; exact hy)) (by simpa [foot] using hb) h
    · exact op_slice3 hE t x _ lo hi (hx _ (by simp [Op.operands])) (fun y hy => hx _ (by simp [Op.operands]; right; right; left; exact hy)) (hx _ (by simp [Op.operands])) h
  case fieldAddr t x f => exact op_fieldAddr hE t x f (hx _ (by simp [Op.operands])) h
  case field t x f => exact op_field hE t x f (hx _ (by simp [Op.operands])) h
  case indexAddr t x y => exact op_indexAddr hE t x y (hx _ (by simp [Op.operands])) (hx _ (by simp [Op.operands])) h
  case index t x y => exact op_index hE t x y (hx _ (by simp [Op.operands])) (hx _ (by simp [Op.operands])) h
  case extract x i => exact op_extract x i (hx _ (by simp [Op.operands])) h
  case call c =>
    obtain ⟨callee, args, ts⟩ := c
    cases callee
    case value x =>
      cases x
      case func f => exact op_call hE f args ts (fun y hy => hx _ (by simp only [Op.operands, Call.operands]; simp at hy ⊢; exact .inr hy)) (by simpa [foot] using hb) h
      all_goals (simp [opK] at h)
    case builtin b =>
      have hbb : b ≠ .append ∧ b ≠ .copy := by
        constructor <;> (rintro rfl; cases hw)
      exact op_look hE b ts args hbb (fun y hy => hx _ (by simp only [Op.operands, Call.operands]; simpa using hy)) h
    case invoke => simp [opK] at h
  all_goals (simp [opK] at h)
end

/-- What holds of memory: B: where the call's own begins; ab: the blocks that the arguments lead into. -/
structure Inv (B : Nat) (w0 : World) (ab : Nat → Prop) (ρ : Nm) (m : Mem) (w : World) : Prop where
  below : Below B w0 w
  ble : B ≤ w.heap.size
  blk : ∀ i s b, m[i]? = some (s, b) → BlkOK ρ w i b
  mine : ∀ i b, m[i]? = some (.mine, b) → MineOK ρ w i ∧ ∀ c o, ρ i = some (c, o) → B ≤ c
  apart : ∀ i b j s b' c o o', m[i]? = some (.mine, b) → m[j]? = some (s, b') → b' ≠ .dead → ρ i = some (c, o) → ρ j = some (c, o') → i = j
  new : ∀ i b, m[i]? = some (.new, b) → ∀ c o, ρ i = some (c, o) → B ≤ c
  old : ∀ i b, m[i]? = some (.old, b) → ∀ c o, ρ i = some (c, o) → B ≤ c ∨ ab c
  lt : ∀ i c o, ρ i = some (c, o) → c < w.heap.size
  dom : ∀ i, m.length ≤ i → ρ i = none
  abB : ∀ c, ab c → c < B
  live : ∀ (i : Nat) (b : Blk), m[i]? = some (.mine, b) → b ≠ .dead

theorem BlkOK.keep {ρ ρ' : Nm} {w w' : World} {i : Nat} {b : Blk} (hρ : ρ' i = ρ i) (hw : ∀ c o, ρ i = some (c, o) → w'.heap[c]? = w.heap[c]?) (h : BlkOK ρ w i b) : BlkOK ρ' w' i b := by
  have hr : ∀ {c o : Nat} {vs : List Value}, ρ i = some (c, o) → w.rangeAt c o vs → w'.rangeAt c o vs := by
    intro c o vs hc h j v hj
    have := h j v hj
    unfold World.cell? at this ⊢
    rwa [hw c o hc]
  cases b with
  | w k n xs =>
    obtain ⟨h1, h2, h3, h4⟩ := h
    exact ⟨h1, h2, h3, h4.imp id (fun ⟨c, o, hc, h5⟩ => ⟨c, o, by rw [hρ, hc], hr hc h5⟩)⟩
  | c vs =>
    obtain ⟨h1, h4⟩ := h
    exact ⟨h1, h4.imp id (fun ⟨c, o, hc, h5⟩ => ⟨c, o, by rw [hρ, hc], hr hc h5⟩)⟩
  | dead => trivial
theorem MineOK.keep {ρ ρ' : Nm} {w w' : World} {i : Nat} (hρ : ρ' i = ρ i) (hw : ∀ c o, ρ i = some (c, o) → w'.heap[c]? = w.heap[c]?) (h : MineOK ρ w i) : MineOK ρ' w' i := by
  intro c o hc
  rw [hρ] at hc
  obtain ⟨h1, cs, e, h2⟩ := h c o hc
  exact ⟨h1, cs, e, by rw [hw c o hc, h2]⟩

/-- What was told is told still. -/
def Keeps (ρ : Nm) (m : Mem) (w : World) (ρ' : Nm) (m' : Mem) (w' : World) : Prop := ∀ x rx, VR ρ m w x rx → VR ρ' m' w' x rx

theorem Inv.eff {B : Nat} {w0 : World} {ab : Nat → Prop} {ρ ρ' : Nm} {m m' : Mem} {w w' : World} {fr : List Nat × List Nat} {v : V} {rv : Value} (hI : Inv B w0 ab ρ m w) (h : Eff ρ m w fr v m' rv w' ρ') :
    Inv B w0 ab ρ' m' w' ∧ Keeps ρ m w ρ' m' w' ∧ VR ρ' m' w' v rv := by
  cases h with
  | ext nb ρ' v rv w' hB hρ hN hV =>
    have hold : ∀ i, i < m.length → ρ' i = ρ i := fun i hi => hρ i (.inl hi)
    have hheap : ∀ i c o, ρ i = some (c, o) → w'.heap[c]? = w.heap[c]? := fun i c o hc => hB.block c (hI.lt i c o hc)
    have split : ∀ {i : Nat} {p : Own × Blk}, (m ++ nb)[i]? = some p → (i < m.length ∧ m[i]? = some p) ∨ ∃ j, i = m.length + j ∧ nb[j]? = some p := by
      intro i p h
      by_cases hi : i < m.length
      · rw [List.getElem?_append_left hi] at h
        exact .inl ⟨hi, h⟩
      · rw [List.getElem?_append_right (by omega)] at h
        exact .inr ⟨i - m.length, by omega, h⟩
    have nlt : ∀ {j : Nat} {p : Own × Blk}, nb[j]? = some p → j < nb.length := fun h => (List.getElem?_eq_some_iff.1 h).1
    refine ⟨⟨hI.below.trans (hB.mono hI.ble), Nat.le_trans hI.ble hB.size, ?_, ?_, ?_, ?_, ?_, ?_, ?_, hI.abB, ?_⟩, ?_, hV⟩
    · intro i s b h
      replace h := split h; rcases h with ⟨hi, h⟩ | ⟨j, rfl, h⟩
      · exact (hI.blk i s b h).keep (hold i hi) (hheap i)
      · exact hN.blk j s b h
    · intro i b h
      replace h := split h; rcases h with ⟨hi, h⟩ | ⟨j, rfl, h⟩
      · obtain ⟨h1, h2⟩ := hI.mine i b h
        exact ⟨h1.keep (hold i hi) (hheap i), fun c o hc => h2 c o (by rw [← hold i hi, hc])⟩
      · obtain ⟨h1, h2⟩ := hN.mine j b h
        exact ⟨h1, fun c o hc => Nat.le_trans hI.ble (h2 c o hc)⟩
    · intro i b j s b' c o o' h h' hd hc hc'
      replace h := split h; rcases h with ⟨hi, h⟩ | ⟨i', rfl, h⟩
      · rw [hold i hi] at hc
        replace h' := split h'; rcases h' with ⟨hj, h'⟩ | ⟨j', rfl, h'⟩
        · rw [hold j hj] at hc'
          exact hI.apart i b j s b' c o o' h h' hd hc hc'
        · have hlt := hI.lt i c o hc
          exfalso
          cases s with
          | mine => have := (hN.mine j' b' h').2 c o' hc'; omega
          | new => have := hN.new j' b' h' c o' hc'; omega
          | old =>
            rcases hN.old j' b' h' c o' hc' with h1 | ⟨n, _, hn, hnm, o'', h1⟩
            · omega
            · obtain ⟨s2, b2, hmn, hdead⟩ := hn
              have := hI.apart i b n s2 b2 c o o'' h hmn hdead hc h1
              subst this
              exact hnm ⟨b, h⟩
      · have hge := (hN.mine i' b h).2 c o hc
        replace h' := split h'; rcases h' with ⟨hj, h'⟩ | ⟨j', rfl, h'⟩
        · rw [hold j hj] at hc'
          have := hI.lt j c o' hc'
          omega
        · rw [hN.apart i' b j' c o o' h (nlt h') hc hc']
    · intro i b h c o hc
      replace h := split h; rcases h with ⟨hi, h⟩ | ⟨j, rfl, h⟩
      · exact hI.new i b h c o (by rw [← hold i hi, hc])
      · exact Nat.le_trans hI.ble (hN.new j b h c o hc)
    · intro i b h c o hc
      replace h := split h; rcases h with ⟨hi, h⟩ | ⟨j, rfl, h⟩
      · exact hI.old i b h c o (by rw [← hold i hi, hc])
      · rcases hN.old j b h c o hc with h1 | ⟨n, _, hn, hnm, o', h1⟩
        · exact .inl (Nat.le_trans hI.ble h1)
        · obtain ⟨s2, b2, hmn, _⟩ := hn
          cases s2 with
          | mine => exact absurd ⟨b2, hmn⟩ hnm
          | new => exact .inl (hI.new n b2 hmn c o' h1)
          | old => exact hI.old n b2 hmn c o' h1
    · intro i c o hc
      by_cases hi : i < m.length
      · rw [hold i hi] at hc
        exact Nat.lt_of_lt_of_le (hI.lt i c o hc) hB.size
      · by_cases hj : i < m.length + nb.length
        · exact hN.lt (i - m.length) c o (by omega) (by rw [show m.length + (i - m.length) = i from by omega]; exact hc)
        · rw [hρ i (.inr (by omega)), hI.dom i (by omega)] at hc
          cases hc
    · intro i hi
      rw [hρ i (.inr (by simpa using hi))]
      exact hI.dom i (by simp at hi; omega)
    · intro i b h
      replace h := split h; rcases h with ⟨hi, h⟩ | ⟨j, rfl, h⟩
      · exact hI.live i b h
      · exact hN.live j _ b h
    · intro x rx hx
      refine VR.mono (fun i b o hi hb => ⟨by rw [hold i hi, hb], ?_⟩) (StLe.append m nb) hx
      unfold bsize
      rw [hheap i b o hb]
  | put i b blk blk' w' hfw hm hb hs he hf hz hbk hmn hd' hn =>
    have hi : i < m.length := (List.getElem?_eq_some_iff.1 hm).1
    have hge := (hI.mine i blk hm).2 b 0 hb
    have hne : ∀ j s b' c o, m[j]? = some (s, b') → b' ≠ .dead → j ≠ i → ρ j = some (c, o) → w'.heap[c]? = w.heap[c]? := by
      intro j s b' c o hj hd hji hc
      refine hf c (fun e => hji ?_)
      subst e
      exact (hI.apart i blk j s b' c 0 o hm hj hd hb hc).symm
    have get : ∀ {j : Nat} {p : Own × Blk}, (m.set i (.mine, blk'))[j]? = some p → (j = i ∧ p = (.mine, blk')) ∨ (j ≠ i ∧ m[j]? = some p) := by
      intro j p h
      by_cases e : i = j
      · subst e
        rw [List.getElem?_set_self hi] at h
        exact .inl ⟨rfl, (Option.some.inj h).symm⟩
      · rw [List.getElem?_set_ne e] at h
        exact .inr ⟨fun h => e h.symm, h⟩
    have hkeep : Keeps ρ m w ρ (m.set i (.mine, blk')) w' := by
      intro x rx hx
      refine VR.mono (fun j c o hj hc => ⟨hc, ?_⟩) (StLe.set m i .mine blk' (fun _ => ⟨blk, hm⟩) hn) hx
      by_cases e : c = b
      · rw [e, hz]
      · unfold bsize
        rw [hf c e]
    refine ⟨⟨hI.below.trans ⟨he.1, he.2.1, he.2.2, by omega, fun k hk => hf k (by omega)⟩, by rw [hs]; exact hI.ble, ?_, ?_, ?_, ?_, ?_, ?_, ?_, hI.abB, ?_⟩, hkeep, trivial⟩
    · intro j s b' h
      replace h := get h; rcases h with ⟨rfl, h⟩ | ⟨hji, h⟩
      · cases h; exact hbk
      · cases b' with
        | dead => trivial
        | _ => exact (hI.blk j _ _ h).keep rfl (fun c o hc => hne j _ _ c o h (by intro e; cases e) hji hc)
    · intro j b' h
      replace h := get h; rcases h with ⟨rfl, h⟩ | ⟨hji, h⟩
      · exact ⟨hmn, (hI.mine j blk hm).2⟩
      · obtain ⟨h1, h2⟩ := hI.mine j b' h
        refine ⟨?_, h2⟩
        refine h1.keep rfl (fun c o hc => hf c (fun e => hji ?_))
        subst e
        exact hI.apart j b' i .mine blk c o 0 h hm (hI.live i blk hm) hc hb
    · intro j b1 j' s b' c o o' h h' hd hc hc'
      obtain ⟨b2, h2⟩ : ∃ b2, m[j]? = some (.mine, b2) := by
        replace h := get h; rcases h with ⟨rfl, h⟩ | ⟨hji, h⟩
        · exact ⟨_, hm⟩
        · exact ⟨_, h⟩
      obtain ⟨s3, b3, h3, h4⟩ : ∃ s3 b3, m[j']? = some (s3, b3) ∧ b3 ≠ .dead := by
        replace h' := get h'; rcases h' with ⟨rfl, h'⟩ | ⟨hji, h'⟩
        · exact ⟨_, _, hm, hI.live _ blk hm⟩
        · exact ⟨_, _, h', hd⟩
      exact hI.apart j b2 j' s3 b3 c o o' h2 h3 h4 hc hc'
    · intro j b' h c o hc
      replace h := get h; rcases h with ⟨rfl, h⟩ | ⟨hji, h⟩
      · cases h
      · exact hI.new j b' h c o hc
    · intro j b' h c o hc
      replace h := get h; rcases h with ⟨rfl, h⟩ | ⟨hji, h⟩
      · cases h
      · exact hI.old j b' h c o hc
    · intro j c o hc
      rw [hs]
      exact hI.lt j c o hc
    · intro j hj
      exact hI.dom j (by simpa using hj)
    · intro j b' h
      replace h := get h; rcases h with ⟨rfl, h⟩ | ⟨hji, h⟩
      · cases h; exact hd'
      · exact hI.live j b' h
end Go.Vm
