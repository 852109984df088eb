/- A pure evaluator of the model's code: values are immutable trees, rows and variables of the call's own lie in a small heap. No Go program in sight. -/
import Derived.Below

import Derived.Laws.Append
import Derived.KernelRfl
set_option linter.unusedVariables false
set_option linter.unusedSimpArgs false
namespace Go.Pev
open Go

/-- Values that nobody writes into any more: one cell each. -/
inductive T where
  | b (x : Bool)
  | i (k : IntKind) (n : Int)
  | s (x : List UInt8)
  | l (xs : List (List T))
  | np
  | ni
  | er
  deriving Inhabited

structure Key where
  s : Nat
  c : Nat
  o : Nat
  deriving DecidableEq, Inhabited

/-- Values of a running frame. -/
inductive V where
  | t (x : T)
  | ow (k : Key) (sz off len : Nat)
  | nl
  | pt (k : Key) (sz i j : Nat)
  | pr (cs : List T)
  | ag (cs : List V)
  | tu (vs : List V)
  | fn (f : Nat) (caps : List V)
  | ud
  | un
  | nn
  | nz
  deriving Inhabited

inductive Ob where
  | box (ty : Nat) (cs : List V)
  | row (ty sz : Nat) (els : List (List T)) (fz : Bool)
  deriving Inhabited

abbrev HP := List (Key × Ob)
def HP.get : HP → Key → Option Ob
  | [], _ => none
  | (k', o) :: r, k => if k' = k then some o else HP.get r k
/-- Another key and another object in the place of the first. -/
def HP.put : HP → Key → Key → Ob → HP
  | [], _, _, _ => []
  | (k', o') :: r, k, k2, o => if k' = k then (k2, o) :: r else (k', o') :: HP.put r k k2 o
def HP.del : HP → Key → HP
  | [], _ => []
  | (k', o') :: r, k => if k' = k then r else (k', o') :: HP.del r k

abbrev Env := List (Nat × V)
def Env.get : Env → Nat → V
  | [], _ => .un
  | (t', v) :: r, t => if t' = t then v else Env.get r t
def Env.put (e : Env) (t : Nat) (v : V) : Env := (t, v) :: e
/-- What is still asked for. -/
def Env.keep (ts : List Nat) (e : Env) : Env := ts.map fun t => (t, e.get t)

structure St where
  env : Env
  hp : HP
  ck : Nat

inductive Opd where
  | tmp (t : Nat)
  | c (v : V)
  deriving Inhabited
def Opd.ev (e : Env) : Opd → V
  | .tmp t => e.get t
  | .c v => v

inductive Po where
  | mv (x : Opd)
  | nilv (ty sz : Nat)
  | pick (c a b : Opd)
  | alloc (ty : Nat) (zero : List V)
  | box (ty n : Nat) (x : Opd)
  | build (zero : List V) (parts : List (Nat × Nat × Opd))
  | bslT (sz : Nat) (parts : List Opd)
  | bslO (ty sz : Nat) (parts : List Opd)
  | load (agg : Bool) (n : Nat) (x : Opd)
  | store (n : Nat) (a x : Opd)
  | storeD (n : Nat) (a x : Opd) (zs : List Nat)
  | bslF (sz : Nat) (parts : List Opd)
  | loadB (agg : Bool) (n : Nat) (x : Opd)
  | storeR (n : Nat) (a x : Opd)
  | callo (f : Nat) (args : List Opd)
  | callR (f : Nat) (args : List Opd)
  | clr (n : Nat) (x : Opd)
  | sbs (ty : Nat) (x : Opd)
  | nchk (x : Opd)
  | bin (op : BinOp) (x y : Opd)
  | beq (neg : Bool) (x y : Opd)
  | isnilI (neg : Bool) (x : Opd)
  | isnilP (neg : Bool) (x : Opd)
  | isnilS (neg : Bool) (x : Opd)
  | un (op : UnOp) (x : Opd)
  | cvi (k : IntKind) (x : Opd)
  | cvs (x : Opd)
  | cvbs (x : Opd)
  | mkfn (f : Nat) (caps : List Opd)
  | mks (ty sz bytes : Nat) (zero : List T) (len cap : Opd)
  | slS (x : Opd) (lo hi : Option Opd)
  | sls (sz : Nat) (x : Opd) (lo hi : Option Opd)
  | fad (off : Nat) (x : Opd)
  | fld (agg : Bool) (off n : Nat) (x : Opd)
  | ixS (sz : Nat) (x i : Opd)
  | ixA (len sz : Nat) (x i : Opd)
  | ixV (agg : Bool) (len sz : Nat) (x i : Opd)
  | ixs (x i : Opd)
  | ext (n : Nat) (x : Opd)
  | lenS (x : Opd)
  | lenL (x : Opd)
  | lenc (n : Nat)
  | app (ty sz bytes : Nat) (x y : Opd)
  | mm (mx : Bool) (xs : List Opd)
  | call (f : Nat) (args : List Opd)
  | callq (f : Nat) (args : List Opd)
  | callv (x : Opd) (args : List Opd)
  deriving Inhabited

structure Pop where
  dst : Option Nat
  op : Po
  g : Option (Nat × Bool)
  deriving Inhabited

inductive Pc where
  | skip
  | reg (ops : List (Nat × Pop)) (kill : List Nat) (killH : List Nat)
  | seq (a b : Pc)
  | cond (x : Opd) (a b : Pc)
  | block (id : Nat) (c : Pc)
  | loop (c : Pc)
  | exit (id : Nat)
  | ret
  deriving Inhabited

inductive Pres where
  | tmp (t : Nat)
  | cell (t : Nat) (agg : Bool) (n : Nat)
  deriving Inhabited

structure Pfn where
  np : Nat
  nt : Nat
  res : List Pres
  body : Pc
  deriving Inhabited

inductive Ex where
  | normal
  | exit (id : Nat)
  | ret
  deriving DecidableEq, Inhabited

/-! ### single operations -/

def i64max : Int := 9223372036854775807

def bytesLess : List UInt8 → List UInt8 → Bool
  | _, [] => false
  | [], _ :: _ => true
  | a :: x, b :: y => a < b || (a == b && bytesLess x y)

def binS (op : BinOp) (x y : List UInt8) : Option V :=
  match op with
  | .add => if (x.length : Int) + y.length > i64max then none else some (.t (.s (x ++ y)))
  | .eql => some (.t (.b (x == y)))
  | .neq => some (.t (.b (!(x == y))))
  | .lss => some (.t (.b (bytesLess x y)))
  | .leq => some (.t (.b (bytesLess x y || x == y)))
  | .gtr => some (.t (.b (!(bytesLess x y || x == y))))
  | .geq => some (.t (.b (!(bytesLess x y))))
  | _ => none

def binI (op : BinOp) (k : IntKind) (x y : Int) : Option V :=
  match op with
  | .add => some (.t (.i k (k.wrap (x + y))))
  | .sub => some (.t (.i k (k.wrap (x - y))))
  | .mul => some (.t (.i k (k.wrap (x * y))))
  | .quo => if y = 0 then none else some (.t (.i k (k.wrap (x.tdiv y))))
  | .rem => if y = 0 then none else some (.t (.i k (x.tmod y)))
  | .and => some (.t (.i k (k.wrap (BitVec.ofInt k.bits x &&& BitVec.ofInt k.bits y).toNat)))
  | .or => some (.t (.i k (k.wrap (BitVec.ofInt k.bits x ||| BitVec.ofInt k.bits y).toNat)))
  | .xor => some (.t (.i k (k.wrap (BitVec.ofInt k.bits x ^^^ BitVec.ofInt k.bits y).toNat)))
  | .andNot => some (.t (.i k (k.wrap (BitVec.ofInt k.bits x &&& ~~~ BitVec.ofInt k.bits y).toNat)))
  | .eql => some (.t (.b (x == y)))
  | .neq => some (.t (.b (x != y)))
  | .lss => some (.t (.b (decide (x < y))))
  | .leq => some (.t (.b (decide (x ≤ y))))
  | .gtr => some (.t (.b (decide (x > y))))
  | .geq => some (.t (.b (decide (x ≥ y))))
  | _ => none

def shiftI (op : BinOp) (k : IntKind) (x y : Int) : Option V :=
  if y < 0 then none else
  match op with
  | .shl => some (.t (.i k (k.wrap (x * 2 ^ (min y.toNat k.bits)))))
  | .shr => some (.t (.i k (x.fdiv (2 ^ (min y.toNat k.bits)))))
  | _ => none

def isShift : BinOp → Bool
  | .shl | .shr => true
  | _ => false

/-- Structs of whole numbers, bools and strings: cell by cell. -/
def eqT : T → T → Option Bool
  | .b x, .b y => some (x == y)
  | .i k x, .i k' y => if k = k' then some (x == y) else none
  | .s x, .s y => some (x == y)
  | _, _ => none

def bin (op : BinOp) : V → V → Option V
  | .t (.i k x), .t (.i k' y) => if isShift op then shiftI op k x y else if k = k' then binI op k x y else none
  | .t (.s x), .t (.s y) => binS op x y
  | _, _ => none
def beq (neg : Bool) : V → V → Option V
  | .t (.b x), .t (.b y) => some (.t (.b (if neg then !(x == y) else x == y)))
  | _, _ => none

def isNilI (neg : Bool) : V → Option V
  | .t .ni => some (.t (.b (!neg)))
  | .t .er => some (.t (.b neg))
  | _ => none
def isNilP (neg : Bool) : V → Option V
  | .t .np => some (.t (.b (!neg)))
  | .pt .. => some (.t (.b neg))
  | _ => none

/-- Is a slice nil? -/
def isNilS (neg : Bool) : V → Option V
  | .nl => some (.t (.b (!neg)))
  | .nz => some (.t (.b (!neg)))
  | .nn => some (.t (.b neg))
  | .t (.l (_ :: _)) => some (.t (.b neg))
  | .ow _ _ _ (_ + 1) => some (.t (.b neg))
  | _ => none

def un (op : UnOp) : V → Option V
  | .t (.i k n) => match op with
    | .neg => some (.t (.i k (k.wrap (0 - n))))
    | .xor => some (.t (.i k (k.wrap (BitVec.ofInt k.bits (if k.signed then -1 else k.max) ^^^ BitVec.ofInt k.bits n).toNat)))
    | _ => none
  | .t (.b x) => match op with
    | .not => some (.t (.b (!x)))
    | _ => none
  | _ => none

def cvi (k : IntKind) : V → Option V
  | .t (.i _ n) => some (.t (.i k (k.wrap n)))
  | _ => none

def pick : V → V → V → Option V
  | .t (.b true), a, _ => some a
  | .t (.b false), _, b => some b
  | _, _, _ => none

/-- What of a value may be kept in a row: a tree. -/
def toT : V → Option T
  | .t x => some x
  | .nl => some (.l [])
  | _ => none
def toTs : List V → Option (List T)
  | [] => some []
  | v :: r => match toT v, toTs r with
    | some x, some xs => some (x :: xs)
    | _, _ => none

/-- The rows of one's own that a value names are told as trees (they are laid open, and may be frozen). -/
def treeOf (h : HP) : V → Option T
  | .t x => some x
  | .nl => some (.l [])
  | .nn => some (.l [])
  | .ow k sz off len => match h.get k with
    | some (.row _ sz' els _) => if sz' = sz ∧ off + len ≤ els.length then some (.l ((els.drop off).take len)) else none
    | _ => none
  | _ => none
def treesOf (h : HP) : List V → Option (List T)
  | [] => some []
  | v :: r => match treeOf h v, treesOf h r with
    | some x, some xs => some (x :: xs)
    | _, _ => none

def cells : V → Option (List V)
  | .ag cs => some cs
  | .tu _ => none
  | .ud => none
  | .un => none
  | v => some [v]

/-- A captured variable: where it lies, read from there on. -/
def capOf (h : HP) : V → Option V
  | .t x => some (.t x)
  | .nl => some (.t (.l []))
  | .ow k sz off len => (treeOf h (.ow k sz off len)).map .t
  | .pr cs => some (.pr cs)
  | .pt k _ 0 0 => match h.get k with
    | some (.box _ cs) => match treesOf h cs with
      | some ts => some (.pr ts)
      | none => none
    | _ => none
  | _ => none
def capsOf (h : HP) : List V → Option (List V)
  | [] => some []
  | v :: r => match capOf h v, capsOf h r with
    | some x, some xs => some (x :: xs)
    | _, _ => none

/-- An argument without what may be written into; none: it has such. -/
def pureOf (h : HP) : V → Option V
  | .t x => some (.t x)
  | .nl => some (.t (.l []))
  | .ow k sz off len => (treeOf h (.ow k sz off len)).map .t
  | .ag cs => match treesOf h cs with
    | some ts => some (.ag (ts.map .t))
    | none => none
  | .pr cs => some (.pr cs)
  | .fn f caps => match capsOf h caps with
    | some cs => some (.fn f cs)
    | none => none
  | _ => none
def puresOf (h : HP) : List V → Option (List V)
  | [] => some []
  | v :: r => match pureOf h v, puresOf h r with
    | some x, some xs => some (x :: xs)
    | _, _ => none

/-- A result, told without the frame that made it. -/
def resOf1 (h : HP) : V → Option V
  | .t x => some (.t x)
  | .nl => some (.t (.l []))
  | .ow k sz off len => (treeOf h (.ow k sz off len)).map .t
  | .ag cs => match treesOf h cs with
    | some ts => some (.ag (ts.map .t))
    | none => none
  | _ => none
def resOfs (h : HP) : List V → Option (List V)
  | [] => some []
  | v :: r => match resOf1 h v, resOfs h r with
    | some x, some xs => some (x :: xs)
    | _, _ => none
def resOf (h : HP) : V → Option V
  | .tu vs => match resOfs h vs with
    | some us => some (.tu us)
    | none => none
  | v => resOf1 h v

/-- Numbers, bools, strings alone: nothing in it leads on. -/
def flatT : T → Bool
  | .l _ => false
  | _ => true
def flat1 : V → Bool
  | .t x => flatT x
  | .ag cs => cs.all fun c => match c with | .t x => flatT x | _ => false
  | _ => false
def flatV : V → Bool
  | .tu vs => vs.all flat1
  | v => flat1 v

/-- The rows that a value names. -/
def keysOf1 (h : HP) : V → List Key
  | .ow k _ _ _ => [k]
  | .pt k _ 0 0 => match h.get k with
    | some (.box _ cs) => cs.flatMap fun c => match c with | .ow k' _ _ _ => [k'] | _ => []
    | _ => []
  | _ => []
def keysOf (h : HP) : V → List Key
  | .ow k _ _ _ => [k]
  | .ag cs => cs.flatMap (keysOf1 h)
  | .fn _ caps => caps.flatMap (keysOf1 h)
  | _ => []
def freeze1 (h : HP) (k : Key) : HP :=
  match h.get k with
  | some (.row ty sz els _) => h.put k k (.row ty sz els true)
  | _ => h
def freezeAll (h : HP) : List Key → HP
  | [] => h
  | k :: r => freezeAll (freeze1 h k) r

/-- The element's cells with some of them written anew. -/
def over {α : Type} (c : List α) (j : Nat) : List α → List α
  | [] => c
  | x :: r => over (c.set j x) (j + 1) r
def buildV (zero : List V) (e : Env) : List (Nat × Nat × Opd) → Option (List V)
  | [] => some zero
  | (off, n, x) :: r => match cells (x.ev e) with
    | some cs => if cs.length = n ∧ off + n ≤ zero.length then buildV (over zero off cs) e r else none
    | none => none

def treesC (h : HP) (v : V) : Option (List T) :=
  match cells v with
  | some cs => treesOf h cs
  | none => none
def rowsOf (h : HP) (e : Env) (sz : Nat) : List Opd → Option (List (List T))
  | [] => some []
  | x :: r => match treesC h (x.ev e), rowsOf h e sz r with
    | some c, some cs => if c.length = sz then some (c :: cs) else none
    | _, _ => none
def keysOfs (h : HP) (e : Env) : List Opd → List Key
  | [] => []
  | x :: r => (match x.ev e with | .ow k _ _ _ => [k] | .ag cs => cs.flatMap (keysOf1 h) | _ => []) ++ keysOfs h e r

def loadOf (agg : Bool) (n : Nat) (cs : List V) : Option V :=
  if agg then (if (cs.take n).length = n then some (.ag (cs.take n)) else none)
  else match cs with
    | v :: _ => some v
    | [] => none

def load (h : HP) (agg : Bool) (n : Nat) : V → Option V
  | .pt k sz i j => match h.get k with
    | some (.box _ cs) => if i = 0 then loadOf agg n (cs.drop j) else none
    | some (.row _ sz' els _) => if sz' = sz then (match els[i]? with
      | some c => loadOf agg n ((c.drop j).map .t)
      | none => none) else none
    | none => none
  | .pr cs => loadOf agg n (cs.map .t)
  | _ => none

def store (h : HP) (n : Nat) (v : V) : V → Option HP
  | .pt k sz i j => match h.get k with
    | some (.box ty cs) => match cells v with
      | some vs => if i = 0 ∧ vs.length = n ∧ j + n ≤ cs.length then some (h.put k k (.box ty (over cs j vs))) else none
      | none => none
    | some (.row _ _ _ _) => match treesC h v with
      | some ts => match (freezeAll h (keysOf h v)).get k with
        | some (.row ty sz' els false) => if sz' = sz then (match els[i]? with
          | some c => if ts.length = n ∧ j + n ≤ c.length then some ((freezeAll h (keysOf h v)).put k k (.row ty sz (els.set i (over c j ts)) false)) else none
          | none => none) else none
        | _ => none
      | none => none
    | none => none
  | _ => none

/-- What the one points into the other doesn't touch. -/
def apart : V → V → Bool
  | .pt k _ _ _, .pt q _ _ _ => q != k
  | .pt _ _ _ _, .pr _ => true
  | _, .ud => true
  | _, _ => false

/-- A string's bytes, as a row's elements. -/
def bytesT (y : List UInt8) : List (List T) := y.map fun b => [.i .u8 b.toNat]

/-- Clear of a row's tail: what was there is no longer told. -/
def clr (h : HP) (n : Nat) : V → Option HP
  | .ow k sz off len => match h.get k with
    | some (.row ty sz2 els false) => if sz = n ∧ sz2 = n ∧ off + len ≤ els.length then some (h.put k k (.row ty sz2 (els.take off) false)) else none
    | _ => none
  | _ => none

def isInt : V → Option Int
  | .t (.i _ n) => some n
  | _ => none
def bound (x : Option V) (dflt y : Nat) : Option Nat :=
  match x with
  | none => some dflt
  | some v => match isInt v with
    | some n => if 0 ≤ n ∧ n ≤ y then some n.toNat else none
    | none => none

def slS (x : V) (lo hi : Option V) : Option V :=
  match x with
  | .t (.s s) => match bound hi s.length s.length with
    | some h => match bound lo 0 h with
      | some l => some (.t (.s ((s.take h).drop l)))
      | none => none
    | none => none
  | _ => none

def sls (sz : Nat) (x : V) (lo hi : Option V) : Option V :=
  match x with
  | .ow k sz' off len => if sz' = sz then (match bound hi len len with
    | some h => match bound lo 0 h with
      | some l => some (.ow k sz (off + l) (h - l))
      | none => none
    | none => none) else none
  | .t (.l xs) => if (xs.all fun c => c.length == sz) then (match bound hi xs.length xs.length with
    | some h => match bound lo 0 h with
      | some l => some (.t (.l ((xs.take h).drop l)))
      | none => none
    | none => none) else none
  | _ => none

def fad (off : Nat) : V → Option V
  | .pt k sz i j => some (.pt k sz i (j + off))
  | .pr cs => some (.pr (cs.drop off))
  | _ => none
def fld (agg : Bool) (off n : Nat) : V → Option V
  | .ag cs => loadOf agg n (cs.drop off)
  | _ => none

def ixS (sz : Nat) (x i : V) : Option V :=
  match isInt i with
  | none => none
  | some n => if 0 ≤ n then (match x with
    | .ow k sz' off len => if sz' = sz ∧ n < (len : Int) then some (.pt k sz (off + n.toNat) 0) else none
    | .t (.l xs) => match xs[n.toNat]? with
      | some c => if c.length = sz then some (.pr c) else none
      | none => none
    | _ => none) else none
def ixA (len sz : Nat) (x i : V) : Option V :=
  match isInt i with
  | none => none
  | some n => if 0 ≤ n ∧ n < (len : Int) then (match x with
    | .pt k sz' i' j => some (.pt k sz' i' (j + n.toNat * sz))
    | .pr cs => some (.pr (cs.drop (n.toNat * sz)))
    | _ => none) else none
def ixV (agg : Bool) (len sz : Nat) (x i : V) : Option V :=
  match isInt i with
  | none => none
  | some n => if 0 ≤ n ∧ n < (len : Int) then (match x with
    | .ag cs => loadOf agg sz (cs.drop (n.toNat * sz))
    | _ => none) else none
def ixs (x i : V) : Option V :=
  match x, isInt i with
  | .t (.s s), some n => if 0 ≤ n then (match s[n.toNat]? with
    | some b => some (.t (.i .u8 b.toNat))
    | none => none) else none
  | _, _ => none

def ext (n : Nat) : V → Option V
  | .tu vs => vs[n]?
  | _ => none

def len : V → Option V
  | .ow _ _ _ n => some (.t (.i .i64 n))
  | .nl => some (.t (.i .i64 0))
  | .t (.l xs) => some (.t (.i .i64 xs.length))
  | _ => none
def lenS : V → Option V
  | .t (.s s) => some (.t (.i .i64 s.length))
  | _ => none

/-- The elements of a slice. -/
def elsOf (h : HP) (sz : Nat) (v : V) : Option (List (List T)) :=
  match treeOf h v with
  | some (.l xs) => if xs.all fun c => c.length == sz then some xs else none
  | _ => none

def app (h : HP) (ty sz bytes : Nat) (new : Key) (x y : V) : Option (V × HP) :=
  match elsOf h sz y with
  | none => none
  | some ys =>
    match x with
    | .nl => if ys.length * bytes ≤ 140737488355328 ∧ 0 < bytes then some (.ow new sz 0 ys.length, (new, .row ty sz ys false) :: h) else none
    | .ow k sz' off len => match h.get k with
      | some (.row ty' sz'' xs false) =>
        if sz' = sz ∧ sz'' = sz ∧ ty' = ty ∧ off = 0 ∧ len = xs.length ∧ (len + ys.length) * bytes ≤ 140737488355328 ∧ 0 < bytes then
          some (.ow { new with s := k.s } sz 0 (len + ys.length), h.put k { new with s := k.s } (.row ty sz (xs ++ ys) false))
        else none
      | _ => none
    | _ => none

def minmax (mx : Bool) : V → List V → Option V
  | v, [] => some v
  | .t (.i k a), .t (.i k' b) :: r => if k = k' then minmax mx (.t (.i k (if mx then (if a < b then b else a) else (if b < a then b else a)))) r else none
  | _, _ => none

def u8s : List (List T) → Option (List UInt8)
  | [] => some []
  | [.i .u8 n] :: r => match u8s r with
    | some x => some (UInt8.ofNat n.toNat :: x)
    | none => none
  | _ => none

abbrev Run := Nat → List V → HP → Nat → Option (V × HP × Nat)

structure Cfg where
  pf : Nat → Option Pfn
  own : Nat → Bool
  hpm : Nat → Bool
  ex : Nat → Option (List V → HP → Nat → Option (V × HP × Nat))

/-- A call that is handed trees alone: it is run beside everything else. -/
def callPure (run : Run) (f : Nat) (args : List V) : Option (V × HP) :=
  match run f args [] 0 with
  | some (r, h, _) => some (r, h)
  | none => none

def callEv (C : Cfg) (run : Run) (f : Nat) (args : List V) (s : St) (new : Key) : Option (V × HP × Nat) :=
  if C.hpm f then (match run f args s.hp (s.ck + 1) with
    | some (r, h', c') => some (r, h', c' + 1)
    | none => none) else
  match puresOf s.hp args with
  | some ps => match callPure run f ps with
    | some (r, h') =>
      match C.own f, r with
      | true, .ow k sz off n => match h'.get k with
        | some (.row ty sz' els false) => if sz' = sz ∧ off = 0 ∧ n = els.length then some (.ow new sz 0 n, (new, .row ty sz els false) :: freezeAll s.hp (args.flatMap (keysOf s.hp)), s.ck) else none
        | _ => none
      | _, r => match resOf h' r with
        | some r' => some (r', (if flatV r' then s.hp else freezeAll s.hp (args.flatMap (keysOf s.hp))), s.ck)
        | none => none
    | none => none
  | none => none

/-- A row that the call itself made, and that leads nowhere. -/
def freshR (h : HP) : V → Bool
  | .ow k _ _ _ => match h.get k with
    | some (.row _ _ els false) => els.all fun c => c.all flatT
    | _ => false
  | _ => false
/-- The same, of trees alone, nothing turning. -/
def callQ (run : Run) (f : Nat) (args : List V) (h : HP) : Option V :=
  match puresOf h args with
  | some ps => match callPure run f ps with
    | some (r, h') => match resOf h' r with
      | some r' => if flatV r' || (args.flatMap (keysOf h)).isEmpty || freshR h' r then some r' else none
      | none => none
    | none => none
  | none => none

def isBox (h : HP) : V → Bool
  | .pt k _ _ _ => match h.get k with
    | some (.box _ _) => true
    | _ => false
  | .pr _ => true
  | _ => false
def isRow (h : HP) : V → Bool
  | .pt k _ _ _ => match h.get k with
    | some (.row _ _ _ _) => true
    | _ => false
  | _ => false
open Classical in
noncomputable def keptB (h : HP) (k : Key) : Ob → Bool
  | .box ty cs => decide (h.get k = some (.box ty cs))
  | _ => true
/-- A call whose answer is a fresh row, its arguments being none of one's own rows. -/
def callO (C : Cfg) (run : Run) (f : Nat) (args : List V) (h : HP) (new : Key) : Option (V × Ob) :=
  match args.flatMap (keysOf h), puresOf h args with
  | [], some ps => match callPure run f ps with
    | some (.ow k sz off n, h') => match h'.get k with
      | some (.row ty sz' els false) => if (C.own f && !C.hpm f) = true ∧ sz' = sz ∧ off = 0 ∧ n = els.length then some (.ow new sz 0 n, .row ty sz els false) else none
      | _ => none
    | _ => none
  | _, _ => none

def opt (e : Env) : Option Opd → Option V
  | none => none
  | some x => some (x.ev e)

noncomputable def evPo (C : Cfg) (run : Run) (d me : Nat) (s : St) : Po → Option (V × HP × Nat)
  | .mv x => some (x.ev s.env, s.hp, s.ck)
  | .nilv ty sz => some (.ow ⟨d, s.ck, me⟩ sz 0 0, (⟨d, s.ck, me⟩, .row ty sz [] false) :: s.hp, s.ck)
  | .pick c a b => (pick (c.ev s.env) (a.ev s.env) (b.ev s.env)).map (·, s.hp, s.ck)
  | .alloc ty z => some (.pt ⟨d, s.ck, me⟩ z.length 0 0, (⟨d, s.ck, me⟩, .box ty z) :: s.hp, s.ck)
  | .box ty n x => match cells (x.ev s.env) with
    | some cs => if cs.length = n then some (.pt ⟨d, s.ck, me⟩ n 0 0, (⟨d, s.ck, me⟩, .box ty cs) :: s.hp, s.ck) else none
    | none => none
  | .build z ps => (buildV z s.env ps).map fun r => (.ag r, s.hp, s.ck)
  | .bslT sz ps => (rowsOf s.hp s.env sz ps).map fun r => (.t (.l r), freezeAll s.hp (keysOfs s.hp s.env ps), s.ck)
  | .bslO ty sz ps => (rowsOf s.hp s.env sz ps).map fun r => (.ow ⟨d, s.ck, me⟩ sz 0 r.length, (⟨d, s.ck, me⟩, .row ty sz r false) :: freezeAll s.hp (keysOfs s.hp s.env ps), s.ck)
  | .load agg n x => (load s.hp agg n (x.ev s.env)).map (·, s.hp, s.ck)
  | .store n a x => (store s.hp n (x.ev s.env) (a.ev s.env)).map (.un, ·, s.ck)
  | .storeD n a x zs => if zs.all (fun z => apart (a.ev s.env) (s.env.get z)) then (store s.hp n (x.ev s.env) (a.ev s.env)).map (.un, ·, s.ck) else none
  | .loadB agg n x => if isBox s.hp (x.ev s.env) then (load s.hp agg n (x.ev s.env)).map (·, s.hp, s.ck) else none
  | .storeR n a x => if isRow s.hp (a.ev s.env) then (store s.hp n (x.ev s.env) (a.ev s.env)).map (.un, ·, s.ck) else none
  | .callo f as => (callO C run f (as.map (·.ev s.env)) s.hp ⟨d, s.ck, me⟩).map fun r => (r.1, (⟨d, s.ck, me⟩, r.2) :: s.hp, s.ck)
  | .callR f as => match callEv C run f (as.map (·.ev s.env)) s ⟨d, s.ck, me⟩ with
    | some (r, h', c') => if s.hp.all fun p => keptB h' p.1 p.2 then some (r, h', c') else none
    | none => none
  | .bslF sz ps => match keysOfs s.hp s.env ps with
    | [] => (rowsOf s.hp s.env sz ps).map fun r => (.t (.l r), s.hp, s.ck)
    | _ => none
  | .clr n x => (clr s.hp n (x.ev s.env)).map (.un, ·, s.ck)
  | .sbs ty x => match x.ev s.env with
    | .t (.s y) => if y.length ≤ 140737488355328 then some (.ow ⟨d, s.ck, me⟩ 1 0 y.length, (⟨d, s.ck, me⟩, .row ty 1 (bytesT y) false) :: s.hp, s.ck) else none
    | _ => none
  | .nchk x => match x.ev s.env with
    | .pt k sz i j => some (.pt k sz i j, s.hp, s.ck)
    | .pr cs => some (.pr cs, s.hp, s.ck)
    | _ => none
  | .bin op x y => (bin op (x.ev s.env) (y.ev s.env)).map (·, s.hp, s.ck)
  | .beq neg x y => (beq neg (x.ev s.env) (y.ev s.env)).map (·, s.hp, s.ck)
  | .isnilI neg x => (isNilI neg (x.ev s.env)).map (·, s.hp, s.ck)
  | .isnilP neg x => (isNilP neg (x.ev s.env)).map (·, s.hp, s.ck)
  | .isnilS neg x => (isNilS neg (x.ev s.env)).map (·, s.hp, s.ck)
  | .un op x => (un op (x.ev s.env)).map (·, s.hp, s.ck)
  | .cvi k x => (cvi k (x.ev s.env)).map (·, s.hp, s.ck)
  | .cvs x => match x.ev s.env with
    | .t (.s y) => some (.t (.s y), s.hp, s.ck)
    | _ => none
  | .cvbs x => match elsOf s.hp 1 (x.ev s.env) with
    | some xs => (u8s xs).map fun r => (.t (.s r), s.hp, s.ck)
    | none => none
  | .mkfn f cs => some (.fn f (cs.map (·.ev s.env)), s.hp, s.ck)
  | .mks ty sz bytes z l c => match isInt (l.ev s.env), isInt (c.ev s.env) with
    | some n, some m => if n = m ∧ 0 ≤ n ∧ n * bytes ≤ 140737488355328 ∧ 0 < bytes ∧ z.length = sz then
        some (.ow ⟨d, s.ck, me⟩ sz 0 n.toNat, (⟨d, s.ck, me⟩, .row ty sz (List.replicate n.toNat z) false) :: s.hp, s.ck) else none
    | _, _ => none
  | .slS x lo hi => (slS (x.ev s.env) (opt s.env lo) (opt s.env hi)).map (·, s.hp, s.ck)
  | .sls sz x lo hi => (sls sz (x.ev s.env) (opt s.env lo) (opt s.env hi)).map (·, s.hp, s.ck)
  | .fad off x => (fad off (x.ev s.env)).map (·, s.hp, s.ck)
  | .fld agg off n x => (fld agg off n (x.ev s.env)).map (·, s.hp, s.ck)
  | .ixS sz x i => (ixS sz (x.ev s.env) (i.ev s.env)).map (·, s.hp, s.ck)
  | .ixA n sz x i => (ixA n sz (x.ev s.env) (i.ev s.env)).map (·, s.hp, s.ck)
  | .ixV a n sz x i => (ixV a n sz (x.ev s.env) (i.ev s.env)).map (·, s.hp, s.ck)
  | .ixs x i => (ixs (x.ev s.env) (i.ev s.env)).map (·, s.hp, s.ck)
  | .ext n x => (ext n (x.ev s.env)).map (·, s.hp, s.ck)
  | .lenL x => (len (x.ev s.env)).map (·, s.hp, s.ck)
  | .lenS x => (lenS (x.ev s.env)).map (·, s.hp, s.ck)
  | .lenc n => some (.t (.i .i64 n), s.hp, s.ck)
  | .app ty sz bytes x y => (app s.hp ty sz bytes ⟨d, s.ck, me⟩ (x.ev s.env) (y.ev s.env)).map fun r => (r.1, r.2, s.ck)
  | .mm mx xs => match xs.map (·.ev s.env) with
    | v :: r => (minmax mx v r).map (·, s.hp, s.ck)
    | [] => none
  | .call f as => callEv C run f (as.map (·.ev s.env)) s ⟨d, s.ck, me⟩
  | .callq f as => (callQ run f (as.map (·.ev s.env)) s.hp).map (·, s.hp, s.ck)
  | .callv x as => match x.ev s.env with
    | .fn f caps => callEv C run f (as.map (·.ev s.env) ++ caps) s ⟨d, s.ck, me⟩
    | _ => none

def putD (e : Env) : Option Nat → V → Env
  | some d, v => e.put d v
  | none, _ => e

/-- One operation with its guard; none: the code panics there, or it isn't told. -/
noncomputable def evG (C : Cfg) (run : Run) (me : Nat) (o : Pop) (s : St) : Option (V × HP × Nat) :=
  match o.g with
  | none => evPo C run (o.dst.getD 0) me s o.op
  | some (t, want) => match s.env.get t with
    | .t (.b x) => if x = want then evPo C run (o.dst.getD 0) me s o.op else some (.ud, s.hp, s.ck)
    | .ud => some (.ud, s.hp, s.ck)
    | _ => none
noncomputable def evOp (C : Cfg) (run : Run) (me : Nat) (o : Pop) (s : St) : Option St :=
  (evG C run me o s).map fun r => ⟨putD s.env o.dst r.1, r.2.1, r.2.2⟩

noncomputable def evOps (C : Cfg) (run : Run) : List (Nat × Pop) → St → Option St
  | [], s => some s
  | (me, o) :: r, s => match evOp C run me o s with
    | some s' => evOps C run r s'
    | none => none

def endReg (keep killH : List Nat) (s : St) : St := ⟨Env.keep keep s.env, s.hp.filter fun p => !killH.contains p.1.s, s.ck + 1⟩

def results1 (s : St) : Pres → Option V
  | .tmp t => some (s.env.get t)
  | .cell t agg n => load s.hp agg n (s.env.get t)
def resultsL (s : St) : List Pres → Option (List V)
  | [] => some []
  | p :: r => match results1 s p, resultsL s r with
    | some v, some vs => some (v :: vs)
    | _, _ => none
def results (s : St) (ps : List Pres) : Option V :=
  match resultsL s ps with
  | some [v] => some v
  | some vs => some (.tu vs)
  | none => none

def envOf (i : Nat) : List V → Env
  | [] => []
  | v :: r => (i, v) :: envOf (i + 1) r

def runFn (ev : Pc → St → Option (Ex × St)) (fn : Pfn) (args : List V) (h : HP) (ck : Nat) : Option (V × HP × Nat) :=
    if args.length = fn.np then
      match ev fn.body ⟨envOf 0 args, h, ck⟩ with
      | some (.normal, s) => (results s fn.res).map (·, s.hp, s.ck)
      | some (.ret, s) => (results s fn.res).map (·, s.hp, s.ck)
      | _ => none
    else none
/-- A program's function, or one whose contract is known. -/
def runWith (C : Cfg) (ev : Pc → St → Option (Ex × St)) : Run := fun f args h ck =>
  match C.ex f with
  | some p => p args h ck
  | none => match C.pf f with
    | none => none
    | some fn => runFn ev fn args h ck

def thenC (x : Option (Ex × St)) (k : St → Option (Ex × St)) : Option (Ex × St) :=
  match x with
  | some (.normal, s) => k s
  | some (e, s) => some (e, s)
  | none => none
def blockC (id : Nat) (x : Option (Ex × St)) : Option (Ex × St) :=
  match x with
  | some (.exit i, s) => if i = id then some (.normal, s) else some (.exit i, s)
  | r => r

/-- One step of the code, calls being run by another. -/
noncomputable def evStep (C : Cfg) (run : Run) (ev : Pc → St → Option (Ex × St)) (c : Pc) (s : St) : Option (Ex × St) :=
  match c with
  | .skip => some (.normal, s)
  | .reg ops kill killH => match evOps C run ops s with
    | some s' => some (.normal, endReg kill killH s')
    | none => none
  | .seq a b => thenC (ev a s) (ev b)
  | .cond x a b => match x.ev s.env with
    | .t (.b true) => ev a s
    | .t (.b false) => ev b s
    | _ => none
  | .block id c => blockC id (ev c s)
  | .loop c => thenC (ev c s) (ev (.loop c))
  | .exit id => some (.exit id, s)
  | .ret => some (.ret, s)

mutual
noncomputable def ev (C : Cfg) : Nat → Pc → St → Option (Ex × St)
  | 0, _, _ => none
  | n + 1, c, s => evStep C (run C n) (ev C n) c s
/-- Calls. -/
noncomputable def run (C : Cfg) : Nat → Run
  | 0, _, _, _, _ => none
  | n + 1, f, args, h, ck => runWith C (ev C n) f args h ck
end

end Go.Pev
