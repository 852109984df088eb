/- What this law leans on, of the framework and of the functions (by claimset.py). -/
import Derived.Below
import Derived.Laws.Append
import Derived.KernelRfl
import Derived.Lib.ItoaNum
import Derived.Calls
import Derived.Laws.Entries
import Derived.Laws.StructEq
import Derived.Laws.Slices
import Derived.Laws.Cells
import Derived.Great.BuildSlice
import Derived.Laws.MakeOwn
import Derived.IntWalk
set_option linter.unusedVariables false
set_option linter.unusedSimpArgs false
namespace Go.Pev
open Go
section
inductive T where
  | b (x : Bool)
  | i (k : IntKind) (n : Int)
  | s (x : List UInt8)
  | l (xs : List (List T))
  | np
  | ni
  | er
  deriving Inhabited
structure Key where
  s : Nat
  c : Nat
  o : Nat
  deriving DecidableEq, Inhabited
inductive V where
  | t (x : T)
  | ow (k : Key) (sz off len : Nat)
  | nl
  | pt (k : Key) (sz i j : Nat)
  | pr (cs : List T)
  | ag (cs : List V)
  | tu (vs : List V)
  | fn (f : Nat) (caps : List V)
  | ud
  | un
  | nn
  | nz
  | mp (k : Key)
  deriving Inhabited
inductive Ob where
  | box (ty : Nat) (cs : List V)
  | row (ty sz : Nat) (els : List (List T)) (fz : Bool)
  | mp (es : List (Int × V))
  | bls (ty e : Nat) (bs : List UInt8)
  deriving Inhabited
abbrev HP := List (Key × Ob)
def HP.get : HP → Key → Option Ob
  | [], _ => none
  | (k', o) :: r, k => if k' = k then some o else HP.get r k
def HP.put : HP → Key → Key → Ob → HP
  | [], _, _, _ => []
  | (k', o') :: r, k, k2, o => if k' = k then (k2, o) :: r else (k', o') :: HP.put r k k2 o
def HP.del : HP → Key → HP
  | [], _ => []
  | (k', o') :: r, k => if k' = k then r else (k', o') :: HP.del r k
abbrev Env := List (Nat × V)
def Env.get : Env → Nat → V
  | [], _ => .un
  | (t', v) :: r, t => if t' = t then v else Env.get r t
def Env.put (e : Env) (t : Nat) (v : V) : Env := (t, v) :: e
def Env.keep (ts : List Nat) (e : Env) : Env := ts.map fun t => (t, e.get t)
structure St where
  env : Env
  hp : HP
  ck : Nat
inductive Opd where
  | tmp (t : Nat)
  | c (v : V)
  deriving Inhabited
def Opd.ev (e : Env) : Opd → V
  | .tmp t => e.get t
  | .c v => v
inductive Po where
  | mv (x : Opd)
  | nilv (ty sz : Nat)
  | pick (c a b : Opd)
  | alloc (ty : Nat) (zero : List V)
  | box (ty n : Nat) (x : Opd)
  | build (zero : List V) (parts : List (Nat × Nat × Opd))
  | bslT (sz : Nat) (parts : List Opd)
  | bslO (ty sz : Nat) (parts : List Opd)
  | load (agg : Bool) (n : Nat) (x : Opd)
  | store (n : Nat) (a x : Opd)
  | storeD (n : Nat) (a x : Opd) (zs : List Nat)
  | bslF (sz : Nat) (parts : List Opd)
  | loadB (agg : Bool) (n : Nat) (x : Opd)
  | storeR (n : Nat) (a x : Opd)
  | callo (f : Nat) (args : List Opd)
  | callR (f : Nat) (args : List Opd)
  | callK (f : Nat) (args : List Opd)
  | clr (n : Nat) (x : Opd)
  | sbs (ty : Nat) (x : Opd)
  | nchk (x : Opd)
  | bin (op : BinOp) (x y : Opd)
  | beq (neg : Bool) (x y : Opd)
  | beqS (ks : List Nat) (neg : Bool) (x y : Opd)
  | loadS (ss : List Nat) (agg : Bool) (n : Nat) (x : Opd)
  | storeS (ss : List Nat) (n : Nat) (a x : Opd)
  | appU (ty sz bytes : Nat) (x y : Opd)
  | appS (ty : Nat) (x y : Opd)
  | sl3 (x lo hi mx : Opd)
  | mkm
  | mlk (z : V) (ok : Bool) (x i : Opd)
  | mup (x i v : Opd)
  | isnilI (neg : Bool) (x : Opd)
  | isnilP (neg : Bool) (x : Opd)
  | isnilS (neg : Bool) (x : Opd)
  | un (op : UnOp) (x : Opd)
  | cvi (k : IntKind) (x : Opd)
  | cvs (x : Opd)
  | cvbs (x : Opd)
  | mkfn (f : Nat) (caps : List Opd)
  | mks (ty sz bytes : Nat) (zero : List T) (len cap : Opd)
  | slS (x : Opd) (lo hi : Option Opd)
  | sls (sz : Nat) (x : Opd) (lo hi : Option Opd)
  | fad (off : Nat) (x : Opd)
  | fld (agg : Bool) (off n : Nat) (x : Opd)
  | ixS (sz : Nat) (x i : Opd)
  | ixA (len sz : Nat) (x i : Opd)
  | ixV (agg : Bool) (len sz : Nat) (x i : Opd)
  | ixs (x i : Opd)
  | ext (n : Nat) (x : Opd)
  | lenS (x : Opd)
  | lenL (x : Opd)
  | lenc (n : Nat)
  | app (ty sz bytes : Nat) (x y : Opd)
  | mm (mx : Bool) (xs : List Opd)
  | call (f : Nat) (args : List Opd)
  | callq (f : Nat) (args : List Opd)
  | callv (x : Opd) (args : List Opd)
  deriving Inhabited
structure Pop where
  dst : Option Nat
  op : Po
  g : Option (Nat × Bool)
  deriving Inhabited
inductive Pc where
  | skip
  | reg (ops : List (Nat × Pop)) (kill : List Nat) (killH : List Nat)
  | seq (a b : Pc)
  | cond (x : Opd) (a b : Pc)
  | block (id : Nat) (c : Pc)
  | loop (c : Pc)
  | exit (id : Nat)
  | ret
  deriving Inhabited
inductive Pres where
  | tmp (t : Nat)
  | cell (t : Nat) (agg : Bool) (n : Nat)
  deriving Inhabited
structure Pfn where
  np : Nat
  nt : Nat
  res : List Pres
  body : Pc
  deriving Inhabited
inductive Ex where
  | normal
  | exit (id : Nat)
  | ret
  deriving DecidableEq, Inhabited
def i64max : Int := 9223372036854775807
def bytesLess : List UInt8 → List UInt8 → Bool
  | _, [] => false
  | [], _ :: _ => true
  | a :: x, b :: y => a < b || (a == b && bytesLess x y)
def binS (op : BinOp) (x y : List UInt8) : Option V :=
  match op with
  | .add => if (x.length : Int) + y.length > i64max then none else some (.t (.s (x ++ y)))
  | .eql => some (.t (.b (x == y)))
  | .neq => some (.t (.b (!(x == y))))
  | .lss => some (.t (.b (bytesLess x y)))
  | .leq => some (.t (.b (bytesLess x y || x == y)))
  | .gtr => some (.t (.b (!(bytesLess x y || x == y))))
  | .geq => some (.t (.b (!(bytesLess x y))))
  | _ => none
def binI (op : BinOp) (k : IntKind) (x y : Int) : Option V :=
  match op with
  | .add => some (.t (.i k (k.wrap (x + y))))
  | .sub => some (.t (.i k (k.wrap (x - y))))
  | .mul => some (.t (.i k (k.wrap (x * y))))
  | .quo => if y = 0 then none else some (.t (.i k (k.wrap (x.tdiv y))))
  | .rem => if y = 0 then none else some (.t (.i k (x.tmod y)))
  | .and => some (.t (.i k (k.wrap (BitVec.ofInt k.bits x &&& BitVec.ofInt k.bits y).toNat)))
  | .or => some (.t (.i k (k.wrap (BitVec.ofInt k.bits x ||| BitVec.ofInt k.bits y).toNat)))
  | .xor => some (.t (.i k (k.wrap (BitVec.ofInt k.bits x ^^^ BitVec.ofInt k.bits y).toNat)))
  | .andNot => some (.t (.i k (k.wrap (BitVec.ofInt k.bits x &&& ~~~ BitVec.ofInt k.bits y).toNat)))
  | .eql => some (.t (.b (x == y)))
  | .neq => some (.t (.b (x != y)))
  | .lss => some (.t (.b (decide (x < y))))
  | .leq => some (.t (.b (decide (x ≤ y))))
  | .gtr => some (.t (.b (decide (x > y))))
  | .geq => some (.t (.b (decide (x ≥ y))))
  | _ => none
def shiftI (op : BinOp) (k : IntKind) (x y : Int) : Option V :=
  if y < 0 then none else
  match op with
  | .shl => some (.t (.i k (k.wrap (x * 2 ^ (min y.toNat k.bits)))))
  | .shr => some (.t (.i k (x.fdiv (2 ^ (min y.toNat k.bits)))))
  | _ => none
def isShift : BinOp → Bool
  | .shl | .shr => true
  | _ => false
def bin (op : BinOp) : V → V → Option V
  | .t (.i k x), .t (.i k' y) => if isShift op then shiftI op k x y else if k = k' then binI op k x y else none
  | .t (.s x), .t (.s y) => binS op x y
  | _, _ => none
def beq (neg : Bool) : V → V → Option V
  | .t (.b x), .t (.b y) => some (.t (.b (if neg then !(x == y) else x == y)))
  | _, _ => none
def mget : List (Int × V) → Int → Option V
  | [], _ => none
  | (a, v) :: r, n => if a = n then some v else mget r n
def mset : List (Int × V) → Int → V → List (Int × V)
  | [], n, v => [(n, v)]
  | (a, x) :: r, n, v => if a = n then (n, v) :: r else (a, x) :: mset r n v
def mlk (h : HP) (z : V) (ok : Bool) : V → V → Option V
  | .mp k, .t (.i .i64 n) => match h.get k with
    | some (.mp es) => some (if ok then .tu [(mget es n).getD z, .t (.b (mget es n).isSome)] else (mget es n).getD z)
    | _ => none
  | _, _ => none
def mup (h : HP) : V → V → V → Option HP
  | .mp k, .t (.i .i64 n), v => match h.get k with
    | some (.mp es) => some (h.put k k (.mp (mset es n v)))
    | _ => none
  | _, _, _ => none
def cellsEq : List Nat → List V → List V → Option Bool
  | [], [], [] => some true
  | 0 :: ks, .t (.i k a) :: r, .t (.i k' b) :: s => if k = k' then (if a = b then cellsEq ks r s else some false) else none
  | 1 :: ks, .t (.s a) :: r, .t (.s b) :: s => if a = b then cellsEq ks r s else some false
  | 2 :: ks, .t (.b a) :: r, .t (.b b) :: s => if a = b then cellsEq ks r s else some false
  | _, _, _ => none
def beqS (ks : List Nat) (neg : Bool) : V → V → Option V
  | .ag xs, .ag ys => (cellsEq ks xs ys).map fun r => .t (.b (if neg then !r else r))
  | _, _ => none
def isNilI (neg : Bool) : V → Option V
  | .t .ni => some (.t (.b (!neg)))
  | .t .er => some (.t (.b neg))
  | _ => none
def isNilP (neg : Bool) : V → Option V
  | .t .np => some (.t (.b (!neg)))
  | .pt .. => some (.t (.b neg))
  | _ => none
def isNilS (neg : Bool) : V → Option V
  | .nl => some (.t (.b (!neg)))
  | .nz => some (.t (.b (!neg)))
  | .nn => some (.t (.b neg))
  | .t (.l (_ :: _)) => some (.t (.b neg))
  | .ow _ _ _ (_ + 1) => some (.t (.b neg))
  | _ => none
def un (op : UnOp) : V → Option V
  | .t (.i k n) => match op with
    | .neg => some (.t (.i k (k.wrap (0 - n))))
    | .xor => some (.t (.i k (k.wrap (BitVec.ofInt k.bits (if k.signed then -1 else k.max) ^^^ BitVec.ofInt k.bits n).toNat)))
    | _ => none
  | .t (.b x) => match op with
    | .not => some (.t (.b (!x)))
    | _ => none
  | _ => none
def cvi (k : IntKind) : V → Option V
  | .t (.i _ n) => some (.t (.i k (k.wrap n)))
  | _ => none
def pick : V → V → V → Option V
  | .t (.b true), a, _ => some a
  | .t (.b false), _, b => some b
  | _, _, _ => none
def treeOf (h : HP) : V → Option T
  | .t x => some x
  | .nl => some (.l [])
  | .nn => some (.l [])
  | .ow k sz off len => match h.get k with
    | some (.row _ sz' els _) => if sz' = sz ∧ off + len ≤ els.length then some (.l ((els.drop off).take len)) else none
    | _ => none
  | _ => none
def treesOf (h : HP) : List V → Option (List T)
  | [] => some []
  | v :: r => match treeOf h v, treesOf h r with
    | some x, some xs => some (x :: xs)
    | _, _ => none
def cells : V → Option (List V)
  | .ag cs => some cs
  | .tu _ => none
  | .ud => none
  | .un => none
  | v => some [v]
def capOf (h : HP) : V → Option V
  | .t x => some (.t x)
  | .nl => some (.t (.l []))
  | .ow k sz off len => (treeOf h (.ow k sz off len)).map .t
  | .pr cs => some (.pr cs)
  | .pt k _ 0 0 => match h.get k with
    | some (.box _ cs) => match treesOf h cs with
      | some ts => some (.pr ts)
      | none => none
    | _ => none
  | _ => none
def capsOf (h : HP) : List V → Option (List V)
  | [] => some []
  | v :: r => match capOf h v, capsOf h r with
    | some x, some xs => some (x :: xs)
    | _, _ => none
def pureOf (h : HP) : V → Option V
  | .t x => some (.t x)
  | .nl => some (.t (.l []))
  | .ow k sz off len => (treeOf h (.ow k sz off len)).map .t
  | .ag cs => match treesOf h cs with
    | some ts => some (.ag (ts.map .t))
    | none => none
  | .pr cs => some (.pr cs)
  | .pt k sz i j => capOf h (.pt k sz i j)
  | .fn f caps => match capsOf h caps with
    | some cs => some (.fn f cs)
    | none => none
  | _ => none
def puresOf (h : HP) : List V → Option (List V)
  | [] => some []
  | v :: r => match pureOf h v, puresOf h r with
    | some x, some xs => some (x :: xs)
    | _, _ => none
def resOf1 (h : HP) : V → Option V
  | .t x => some (.t x)
  | .nl => some (.t (.l []))
  | .ow k sz off len => (treeOf h (.ow k sz off len)).map .t
  | .ag cs => match treesOf h cs with
    | some ts => some (.ag (ts.map .t))
    | none => none
  | _ => none
def resOfs (h : HP) : List V → Option (List V)
  | [] => some []
  | v :: r => match resOf1 h v, resOfs h r with
    | some x, some xs => some (x :: xs)
    | _, _ => none
def resOf (h : HP) : V → Option V
  | .tu vs => match resOfs h vs with
    | some us => some (.tu us)
    | none => none
  | v => resOf1 h v
def flatT : T → Bool
  | .l _ => false
  | _ => true
def flat1 : V → Bool
  | .t x => flatT x
  | .ag cs => cs.all fun c => match c with | .t x => flatT x | _ => false
  | _ => false
def flatV : V → Bool
  | .tu vs => vs.all flat1
  | v => flat1 v
def keysOf1 (h : HP) : V → List Key
  | .ow k _ _ _ => [k]
  | .pt k _ 0 0 => match h.get k with
    | some (.box _ cs) => cs.flatMap fun c => match c with | .ow k' _ _ _ => [k'] | _ => []
    | _ => []
  | _ => []
def keysOf (h : HP) : V → List Key
  | .ow k _ _ _ => [k]
  | .ag cs => cs.flatMap (keysOf1 h)
  | .fn _ caps => caps.flatMap (keysOf1 h)
  | .pt k sz i j => keysOf1 h (.pt k sz i j)
  | _ => []
def freeze1 (h : HP) (k : Key) : HP :=
  match h.get k with
  | some (.row ty sz els _) => h.put k k (.row ty sz els true)
  | _ => h
def freezeAll (h : HP) : List Key → HP
  | [] => h
  | k :: r => freezeAll (freeze1 h k) r
def over {α : Type} (c : List α) (j : Nat) : List α → List α
  | [] => c
  | x :: r => over (c.set j x) (j + 1) r
def buildV (zero : List V) (e : Env) : List (Nat × Nat × Opd) → Option (List V)
  | [] => some zero
  | (off, n, x) :: r => match cells (x.ev e) with
    | some cs => if cs.length = n ∧ off + n ≤ zero.length then buildV (over zero off cs) e r else none
    | none => none
def treesC (h : HP) (v : V) : Option (List T) :=
  match cells v with
  | some cs => treesOf h cs
  | none => none
def rowsOf (h : HP) (e : Env) (sz : Nat) : List Opd → Option (List (List T))
  | [] => some []
  | x :: r => match treesC h (x.ev e), rowsOf h e sz r with
    | some c, some cs => if c.length = sz then some (c :: cs) else none
    | _, _ => none
def keysOfs (h : HP) (e : Env) : List Opd → List Key
  | [] => []
  | x :: r => (match x.ev e with | .ow k _ _ _ => [k] | .ag cs => cs.flatMap (keysOf1 h) | _ => []) ++ keysOfs h e r
def loadOf (agg : Bool) (n : Nat) (cs : List V) : Option V :=
  if agg then (if (cs.take n).length = n then some (.ag (cs.take n)) else none)
  else match cs with
    | v :: _ => some v
    | [] => none
def load (h : HP) (agg : Bool) (n : Nat) : V → Option V
  | .pt k sz i j => match h.get k with
    | some (.box _ cs) => if i = 0 then loadOf agg n (cs.drop j) else none
    | some (.row _ sz' els _) => if sz' = sz then (match els[i]? with
      | some c => loadOf agg n ((c.drop j).map .t)
      | none => none) else none
    | _ => none
  | .pr cs => loadOf agg n (cs.map .t)
  | _ => none
def store (h : HP) (n : Nat) (v : V) : V → Option HP
  | .pt k sz i j => match h.get k with
    | some (.box ty cs) => match cells v with
      | some vs => if i = 0 ∧ vs.length = n ∧ j + n ≤ cs.length then some (h.put k k (.box ty (over cs j vs))) else none
      | none => none
    | some (.row _ _ _ _) => match treesC h v with
      | some ts => match (freezeAll h (keysOf h v)).get k with
        | some (.row ty sz' els false) => if sz' = sz then (match els[i]? with
          | some c => if ts.length = n ∧ j + n ≤ c.length then some ((freezeAll h (keysOf h v)).put k k (.row ty sz (els.set i (over c j ts)) false)) else none
          | none => none) else none
        | _ => none
      | none => none
    | _ => none
  | _ => none
def apart : V → V → Bool
  | .pt k _ _ _, .pt q _ _ _ => q != k
  | .pt _ _ _ _, .pr _ => true
  | _, .ud => true
  | _, _ => false
def bytesT (y : List UInt8) : List (List T) := y.map fun b => [.i .u8 b.toNat]
def clr (h : HP) (n : Nat) : V → Option HP
  | .ow k sz off len => match h.get k with
    | some (.row ty sz2 els false) => if sz = n ∧ sz2 = n ∧ off + len ≤ els.length then some (h.put k k (.row ty sz2 (els.take off) false)) else none
    | _ => none
  | _ => none
def isInt : V → Option Int
  | .t (.i _ n) => some n
  | _ => none
def bound (x : Option V) (dflt y : Nat) : Option Nat :=
  match x with
  | none => some dflt
  | some v => match isInt v with
    | some n => if 0 ≤ n ∧ n ≤ y then some n.toNat else none
    | none => none
def inSites (ss : List Nat) : V → Bool
  | .pt k _ _ _ => ss.contains k.s
  | _ => false
def countK : HP → Key → Nat
  | [], _ => 0
  | (k', _) :: r, k => (if k' = k then 1 else 0) + countK r k
def appOk (h : HP) (new : Key) : V → Bool
  | .nl => countK h new == 0
  | .ow k _ _ _ => countK h k == 1 && countK h { new with s := k.s } == 0
  | _ => false
def sliceLen : V → Option Nat
  | .ow _ _ _ len => some len
  | .nl => some 0
  | .t (.l xs) => some xs.length
  | _ => none
def sl3 (x lo hi mx : V) : Option V := match sliceLen x with
  | some len => match bound (some mx) len len with
    | some m => match bound (some hi) m m with
      | some h => match bound (some lo) 0 h with
        | some _ => some .un
        | none => none
      | none => none
    | none => none
  | none => none
def slS (x : V) (lo hi : Option V) : Option V :=
  match x with
  | .t (.s s) => match bound hi s.length s.length with
    | some h => match bound lo 0 h with
      | some l => some (.t (.s ((s.take h).drop l)))
      | none => none
    | none => none
  | _ => none
def sls (sz : Nat) (x : V) (lo hi : Option V) : Option V :=
  match x with
  | .ow k sz' off len => if sz' = sz then (match bound hi len len with
    | some h => match bound lo 0 h with
      | some l => some (.ow k sz (off + l) (h - l))
      | none => none
    | none => none) else none
  | .t (.l xs) => if (xs.all fun c => c.length == sz) then (match bound hi xs.length xs.length with
    | some h => match bound lo 0 h with
      | some l => some (.t (.l ((xs.take h).drop l)))
      | none => none
    | none => none) else none
  | _ => none
def fad (off : Nat) : V → Option V
  | .pt k sz i j => some (.pt k sz i (j + off))
  | .pr cs => some (.pr (cs.drop off))
  | _ => none
def fld (agg : Bool) (off n : Nat) : V → Option V
  | .ag cs => loadOf agg n (cs.drop off)
  | _ => none
def ixS (sz : Nat) (x i : V) : Option V :=
  match isInt i with
  | none => none
  | some n => if 0 ≤ n then (match x with
    | .ow k sz' off len => if sz' = sz ∧ n < (len : Int) then some (.pt k sz (off + n.toNat) 0) else none
    | .t (.l xs) => match xs[n.toNat]? with
      | some c => if c.length = sz then some (.pr c) else none
      | none => none
    | _ => none) else none
def ixA (len sz : Nat) (x i : V) : Option V :=
  match isInt i with
  | none => none
  | some n => if 0 ≤ n ∧ n < (len : Int) then (match x with
    | .pt k sz' i' j => some (.pt k sz' i' (j + n.toNat * sz))
    | .pr cs => some (.pr (cs.drop (n.toNat * sz)))
    | _ => none) else none
def ixV (agg : Bool) (len sz : Nat) (x i : V) : Option V :=
  match isInt i with
  | none => none
  | some n => if 0 ≤ n ∧ n < (len : Int) then (match x with
    | .ag cs => loadOf agg sz (cs.drop (n.toNat * sz))
    | _ => none) else none
def ixs (x i : V) : Option V :=
  match x, isInt i with
  | .t (.s s), some n => if 0 ≤ n then (match s[n.toNat]? with
    | some b => some (.t (.i .u8 b.toNat))
    | none => none) else none
  | _, _ => none
def ext (n : Nat) : V → Option V
  | .tu vs => vs[n]?
  | _ => none
def len : V → Option V
  | .ow _ _ _ n => some (.t (.i .i64 n))
  | .nl => some (.t (.i .i64 0))
  | .t (.l xs) => some (.t (.i .i64 xs.length))
  | _ => none
def lenS : V → Option V
  | .t (.s s) => some (.t (.i .i64 s.length))
  | _ => none
def elsOf (h : HP) (sz : Nat) (v : V) : Option (List (List T)) :=
  match treeOf h v with
  | some (.l xs) => if xs.all fun c => c.length == sz then some xs else none
  | _ => none
def app (h : HP) (ty sz bytes : Nat) (new : Key) (x y : V) : Option (V × HP) :=
  match elsOf h sz y with
  | none => none
  | some ys =>
    match x with
    | .nl => if ys.length * bytes ≤ 140737488355328 ∧ 0 < bytes then some (.ow new sz 0 ys.length, (new, .row ty sz ys false) :: h) else none
    | .ow k sz' off len => match h.get k with
      | some (.row ty' sz'' xs false) =>
        if sz' = sz ∧ sz'' = sz ∧ ty' = ty ∧ off = 0 ∧ len = xs.length ∧ (len + ys.length) * bytes ≤ 140737488355328 ∧ 0 < bytes then
          some (.ow { new with s := k.s } sz 0 (len + ys.length), h.put k { new with s := k.s } (.row ty sz (xs ++ ys) false))
        else none
      | _ => none
    | _ => none
def minmax (mx : Bool) : V → List V → Option V
  | v, [] => some v
  | .t (.i k a), .t (.i k' b) :: r => if k = k' then minmax mx (.t (.i k (if mx then (if a < b then b else a) else (if b < a then b else a)))) r else none
  | _, _ => none
def u8s : List (List T) → Option (List UInt8)
  | [] => some []
  | [.i .u8 n] :: r => match u8s r with
    | some x => some (UInt8.ofNat n.toNat :: x)
    | none => none
  | _ => none
abbrev Run := Nat → List V → HP → Nat → Option (V × HP × Nat)
structure Cfg where
  pf : Nat → Option Pfn
  own : Nat → Bool
  hpm : Nat → Bool
  ex : Nat → Option (List V → HP → Nat → Option (V × HP × Nat))
def callPure (run : Run) (f : Nat) (args : List V) : Option (V × HP) :=
  match run f args [] 0 with
  | some (r, h, _) => some (r, h)
  | none => none
def callEv (C : Cfg) (run : Run) (f : Nat) (args : List V) (s : St) (new : Key) : Option (V × HP × Nat) :=
  if C.hpm f then (match run f args s.hp (s.ck + 1) with
    | some (r, h', c') => some (r, h', c' + 1)
    | none => none) else
  match puresOf s.hp args with
  | some ps => match callPure run f ps with
    | some (r, h') =>
      match C.own f, r with
      | true, .ow k sz off n => match h'.get k with
        | some (.row ty sz' els false) => if sz' = sz ∧ off = 0 ∧ n = els.length then some (.ow new sz 0 n, (new, .row ty sz els false) :: freezeAll s.hp (args.flatMap (keysOf s.hp)), s.ck) else none
        | _ => none
      | _, r => match resOf h' r with
        | some r' => some (r', (if flatV r' then s.hp else freezeAll s.hp (args.flatMap (keysOf s.hp))), s.ck)
        | none => none
    | none => none
  | none => none
def freshR (h : HP) : V → Bool
  | .ow k _ _ _ => match h.get k with
    | some (.row _ _ els false) => els.all fun c => c.all flatT
    | _ => false
  | _ => false
def callQ (run : Run) (f : Nat) (args : List V) (h : HP) : Option V :=
  match puresOf h args with
  | some ps => match callPure run f ps with
    | some (r, h') => match resOf h' r with
      | some r' => if flatV r' || (args.flatMap (keysOf h)).isEmpty || freshR h' r then some r' else none
      | none => none
    | none => none
  | none => none
def isBox (h : HP) : V → Bool
  | .pt k _ _ _ => match h.get k with
    | some (.box _ _) => true
    | _ => false
  | .pr _ => true
  | _ => false
def isRow (h : HP) : V → Bool
  | .pt k _ _ _ => match h.get k with
    | some (.row _ _ _ _) => true
    | _ => false
  | _ => false
noncomputable def sameHp (a b : HP) : Bool := @decide (a = b) (Classical.propDecidable _)
theorem sameHp_iff {a b : HP} : sameHp a b = true ↔ a = b := by unfold sameHp; exact @decide_eq_true_iff _ (Classical.propDecidable _)
@[simp] theorem sameHp_self (a : HP) : sameHp a a = true := sameHp_iff.2 rfl
open Classical in
noncomputable def keptB (h : HP) (k : Key) : Ob → Bool
  | .box ty cs => decide (h.get k = some (.box ty cs))
  | _ => true
def callO (C : Cfg) (run : Run) (f : Nat) (args : List V) (h : HP) (new : Key) : Option (V × Ob) :=
  match args.flatMap (keysOf h), puresOf h args with
  | [], some ps => match callPure run f ps with
    | some (.ow k sz off n, h') => match h'.get k with
      | some (.row ty sz' els false) => if (C.own f && !C.hpm f) = true ∧ sz' = sz ∧ off = 0 ∧ n = els.length then some (.ow new sz 0 n, .row ty sz els false) else none
      | _ => none
    | _ => none
  | _, _ => none
def noFn : V → Bool
  | .fn _ _ => false
  | .pt _ _ _ _ => false
  | _ => true
def opt (e : Env) : Option Opd → Option V
  | none => none
  | some x => some (x.ev e)
noncomputable def evPo (C : Cfg) (run : Run) (d me : Nat) (s : St) : Po → Option (V × HP × Nat)
  | .mv x => some (x.ev s.env, s.hp, s.ck)
  | .nilv ty sz => some (.ow ⟨d, s.ck, me⟩ sz 0 0, (⟨d, s.ck, me⟩, .row ty sz [] false) :: s.hp, s.ck)
  | .pick c a b => (pick (c.ev s.env) (a.ev s.env) (b.ev s.env)).map (·, s.hp, s.ck)
  | .alloc ty z => some (.pt ⟨d, s.ck, me⟩ z.length 0 0, (⟨d, s.ck, me⟩, .box ty z) :: s.hp, s.ck)
  | .box ty n x => match cells (x.ev s.env) with
    | some cs => if cs.length = n then some (.pt ⟨d, s.ck, me⟩ n 0 0, (⟨d, s.ck, me⟩, .box ty cs) :: s.hp, s.ck) else none
    | none => none
  | .build z ps => (buildV z s.env ps).map fun r => (.ag r, s.hp, s.ck)
  | .bslT sz ps => (rowsOf s.hp s.env sz ps).map fun r => (.t (.l r), freezeAll s.hp (keysOfs s.hp s.env ps), s.ck)
  | .bslO ty sz ps => (rowsOf s.hp s.env sz ps).map fun r => (.ow ⟨d, s.ck, me⟩ sz 0 r.length, (⟨d, s.ck, me⟩, .row ty sz r false) :: freezeAll s.hp (keysOfs s.hp s.env ps), s.ck)
  | .load agg n x => (load s.hp agg n (x.ev s.env)).map (·, s.hp, s.ck)
  | .store n a x => (store s.hp n (x.ev s.env) (a.ev s.env)).map (.un, ·, s.ck)
  | .storeD n a x zs => if zs.all (fun z => apart (a.ev s.env) (s.env.get z)) then (store s.hp n (x.ev s.env) (a.ev s.env)).map (.un, ·, s.ck) else none
  | .loadB agg n x => if isBox s.hp (x.ev s.env) then (load s.hp agg n (x.ev s.env)).map (·, s.hp, s.ck) else none
  | .storeR n a x => if isRow s.hp (a.ev s.env) then (store s.hp n (x.ev s.env) (a.ev s.env)).map (.un, ·, s.ck) else none
  | .callo f as => if (as.map (·.ev s.env)).all noFn = true then (callO C run f (as.map (·.ev s.env)) s.hp ⟨d, s.ck, me⟩).map fun r => (r.1, (⟨d, s.ck, me⟩, r.2) :: s.hp, s.ck) else none
  | .callR f as => match callEv C run f (as.map (·.ev s.env)) s ⟨d, s.ck, me⟩ with
    | some (r, h', c') => if s.hp.all fun p => keptB h' p.1 p.2 then some (r, h', c') else none
    | none => none
  | .callK f as => match callEv C run f (as.map (·.ev s.env)) s ⟨d, s.ck, me⟩ with
    | some (r, h', c') => if sameHp h' s.hp then some (r, h', c') else none
    | none => none
  | .bslF sz ps => match keysOfs s.hp s.env ps with
    | [] => (rowsOf s.hp s.env sz ps).map fun r => (.t (.l r), s.hp, s.ck)
    | _ => none
  | .clr n x => (clr s.hp n (x.ev s.env)).map (.un, ·, s.ck)
  | .sbs ty x => match x.ev s.env with
    | .t (.s y) => if y.length ≤ 140737488355328 then some (.ow ⟨d, s.ck, me⟩ 1 0 y.length, (⟨d, s.ck, me⟩, .row ty 1 (bytesT y) false) :: s.hp, s.ck) else none
    | _ => none
  | .nchk x => match x.ev s.env with
    | .pt k sz i j => some (.pt k sz i j, s.hp, s.ck)
    | .pr cs => some (.pr cs, s.hp, s.ck)
    | _ => none
  | .bin op x y => (bin op (x.ev s.env) (y.ev s.env)).map (·, s.hp, s.ck)
  | .beq neg x y => (beq neg (x.ev s.env) (y.ev s.env)).map (·, s.hp, s.ck)
  | .beqS n neg x y => (beqS n neg (x.ev s.env) (y.ev s.env)).map (·, s.hp, s.ck)
  | .loadS ss agg n x => if inSites ss (x.ev s.env) then (load s.hp agg n (x.ev s.env)).map (·, s.hp, s.ck) else none
  | .storeS ss n a x => if inSites ss (a.ev s.env) then (store s.hp n (x.ev s.env) (a.ev s.env)).map (.un, ·, s.ck) else none
  | .appU ty sz bytes x y => if appOk s.hp ⟨d, s.ck, me⟩ (x.ev s.env) then (app s.hp ty sz bytes ⟨d, s.ck, me⟩ (x.ev s.env) (y.ev s.env)).map fun r => (r.1, r.2, s.ck) else none
  | .appS ty x y => match y.ev s.env with
    | .t (.s b) => (app s.hp ty 1 1 ⟨d, s.ck, me⟩ (x.ev s.env) (.t (.l (bytesT b)))).map fun r => (r.1, r.2, s.ck)
    | _ => none
  | .sl3 x lo hi mx => (sl3 (x.ev s.env) (lo.ev s.env) (hi.ev s.env) (mx.ev s.env)).map (·, s.hp, s.ck)
  | .mkm => some (.mp ⟨d, s.ck, me⟩, (⟨d, s.ck, me⟩, .mp []) :: s.hp, s.ck)
  | .mlk z ok x i => (mlk s.hp z ok (x.ev s.env) (i.ev s.env)).map (·, s.hp, s.ck)
  | .mup x i v => (mup s.hp (x.ev s.env) (i.ev s.env) (v.ev s.env)).map (.un, ·, s.ck)
  | .isnilI neg x => (isNilI neg (x.ev s.env)).map (·, s.hp, s.ck)
  | .isnilP neg x => (isNilP neg (x.ev s.env)).map (·, s.hp, s.ck)
  | .isnilS neg x => (isNilS neg (x.ev s.env)).map (·, s.hp, s.ck)
  | .un op x => (un op (x.ev s.env)).map (·, s.hp, s.ck)
  | .cvi k x => (cvi k (x.ev s.env)).map (·, s.hp, s.ck)
  | .cvs x => match x.ev s.env with
    | .t (.s y) => some (.t (.s y), s.hp, s.ck)
    | _ => none
  | .cvbs x => match elsOf s.hp 1 (x.ev s.env) with
    | some xs => (u8s xs).map fun r => (.t (.s r), s.hp, s.ck)
    | none => none
  | .mkfn f cs => some (.fn f (cs.map (·.ev s.env)), s.hp, s.ck)
  | .mks ty sz bytes z l c => match isInt (l.ev s.env), isInt (c.ev s.env) with
    | some n, some m => if n = m ∧ 0 ≤ n ∧ n * bytes ≤ 140737488355328 ∧ 0 < bytes ∧ z.length = sz then
        some (.ow ⟨d, s.ck, me⟩ sz 0 n.toNat, (⟨d, s.ck, me⟩, .row ty sz (List.replicate n.toNat z) false) :: s.hp, s.ck) else none
    | _, _ => none
  | .slS x lo hi => (slS (x.ev s.env) (opt s.env lo) (opt s.env hi)).map (·, s.hp, s.ck)
  | .sls sz x lo hi => (sls sz (x.ev s.env) (opt s.env lo) (opt s.env hi)).map (·, s.hp, s.ck)
  | .fad off x => (fad off (x.ev s.env)).map (·, s.hp, s.ck)
  | .fld agg off n x => (fld agg off n (x.ev s.env)).map (·, s.hp, s.ck)
  | .ixS sz x i => (ixS sz (x.ev s.env) (i.ev s.env)).map (·, s.hp, s.ck)
  | .ixA n sz x i => (ixA n sz (x.ev s.env) (i.ev s.env)).map (·, s.hp, s.ck)
  | .ixV a n sz x i => (ixV a n sz (x.ev s.env) (i.ev s.env)).map (·, s.hp, s.ck)
  | .ixs x i => (ixs (x.ev s.env) (i.ev s.env)).map (·, s.hp, s.ck)
  | .ext n x => (ext n (x.ev s.env)).map (·, s.hp, s.ck)
  | .lenL x => (len (x.ev s.env)).map (·, s.hp, s.ck)
  | .lenS x => (lenS (x.ev s.env)).map (·, s.hp, s.ck)
  | .lenc n => some (.t (.i .i64 n), s.hp, s.ck)
  | .app ty sz bytes x y => (app s.hp ty sz bytes ⟨d, s.ck, me⟩ (x.ev s.env) (y.ev s.env)).map fun r => (r.1, r.2, s.ck)
  | .mm mx xs => match xs.map (·.ev s.env) with
    | v :: r => (minmax mx v r).map (·, s.hp, s.ck)
    | [] => none
  | .call f as => callEv C run f (as.map (·.ev s.env)) s ⟨d, s.ck, me⟩
  | .callq f as => (callQ run f (as.map (·.ev s.env)) s.hp).map (·, s.hp, s.ck)
  | .callv x as => match x.ev s.env with
    | .fn f caps => callEv C run f (as.map (·.ev s.env) ++ caps) s ⟨d, s.ck, me⟩
    | _ => none
def putD (e : Env) : Option Nat → V → Env
  | some d, v => e.put d v
  | none, _ => e
noncomputable def evG (C : Cfg) (run : Run) (me : Nat) (o : Pop) (s : St) : Option (V × HP × Nat) :=
  match o.g with
  | none => evPo C run (o.dst.getD 0) me s o.op
  | some (t, want) => match s.env.get t with
    | .t (.b x) => if x = want then evPo C run (o.dst.getD 0) me s o.op else some (.ud, s.hp, s.ck)
    | .ud => some (.ud, s.hp, s.ck)
    | _ => none
noncomputable def evOp (C : Cfg) (run : Run) (me : Nat) (o : Pop) (s : St) : Option St :=
  (evG C run me o s).map fun r => ⟨putD s.env o.dst r.1, r.2.1, r.2.2⟩
noncomputable def evOps (C : Cfg) (run : Run) : List (Nat × Pop) → St → Option St
  | [], s => some s
  | (me, o) :: r, s => match evOp C run me o s with
    | some s' => evOps C run r s'
    | none => none
def endReg (keep killH : List Nat) (s : St) : St := ⟨Env.keep keep s.env, s.hp.filter fun p => !killH.contains p.1.s, s.ck + 1⟩
def results1 (s : St) : Pres → Option V
  | .tmp t => some (s.env.get t)
  | .cell t agg n => load s.hp agg n (s.env.get t)
def resultsL (s : St) : List Pres → Option (List V)
  | [] => some []
  | p :: r => match results1 s p, resultsL s r with
    | some v, some vs => some (v :: vs)
    | _, _ => none
def results (s : St) (ps : List Pres) : Option V :=
  match resultsL s ps with
  | some [v] => some v
  | some vs => some (.tu vs)
  | none => none
def envOf (i : Nat) : List V → Env
  | [] => []
  | v :: r => (i, v) :: envOf (i + 1) r
def runFn (ev : Pc → St → Option (Ex × St)) (fn : Pfn) (args : List V) (h : HP) (ck : Nat) : Option (V × HP × Nat) :=
    if args.length = fn.np then
      match ev fn.body ⟨envOf 0 args, h, ck⟩ with
      | some (.normal, s) => (results s fn.res).map (·, s.hp, s.ck)
      | some (.ret, s) => (results s fn.res).map (·, s.hp, s.ck)
      | _ => none
    else none
def runWith (C : Cfg) (ev : Pc → St → Option (Ex × St)) : Run := fun f args h ck =>
  match C.ex f with
  | some p => p args h ck
  | none => match C.pf f with
    | none => none
    | some fn => runFn ev fn args h ck
def thenC (x : Option (Ex × St)) (k : St → Option (Ex × St)) : Option (Ex × St) :=
  match x with
  | some (.normal, s) => k s
  | some (e, s) => some (e, s)
  | none => none
def blockC (id : Nat) (x : Option (Ex × St)) : Option (Ex × St) :=
  match x with
  | some (.exit i, s) => if i = id then some (.normal, s) else some (.exit i, s)
  | r => r
noncomputable def evStep (C : Cfg) (run : Run) (ev : Pc → St → Option (Ex × St)) (c : Pc) (s : St) : Option (Ex × St) :=
  match c with
  | .skip => some (.normal, s)
  | .reg ops kill killH => match evOps C run ops s with
    | some s' => some (.normal, endReg kill killH s')
    | none => none
  | .seq a b => thenC (ev a s) (ev b)
  | .cond x a b => match x.ev s.env with
    | .t (.b true) => ev a s
    | .t (.b false) => ev b s
    | _ => none
  | .block id c => blockC id (ev c s)
  | .loop c => thenC (ev c s) (ev (.loop c))
  | .exit id => some (.exit id, s)
  | .ret => some (.ret, s)
mutual
noncomputable def ev (C : Cfg) : Nat → Pc → St → Option (Ex × St)
  | 0, _, _ => none
  | n + 1, c, s => evStep C (run C n) (ev C n) c s
/-- Calls. -/
noncomputable def run (C : Cfg) : Nat → Run
  | 0, _, _, _, _ => none
  | n + 1, f, args, h, ck => runWith C (ev C n) f args h ck
end
end
def globB : Nat → Prop := fun g => g = 0 ∨ g = 3 ∨ g = 4 ∨ g = 5
def globOk : World → Prop := fun w => (∃ m, w.cell? ⟨0, 0, none⟩ = some (.int .i64 m)) ∧ (∃ a b, w.heap[3]? = some (.cells (Lib.pow10Tab.map fun z => Value.int .u64 z).toArray a b)) ∧
  (∃ t p, w.cell? ⟨4, 0, none⟩ = some (.iface t p)) ∧ ∃ t p, w.cell? ⟨5, 0, none⟩ = some (.iface t p)
theorem globOk.keep {w w' : World} (h : globOk w) (hk : ∀ g, globB g → w'.heap[g]? = w.heap[g]?) : globOk w' := by
  have e0 := hk 0 (.inl rfl)
  have e3 := hk 3 (.inr (.inl rfl))
  have e4 := hk 4 (.inr (.inr (.inl rfl)))
  have e5 := hk 5 (.inr (.inr (.inr rfl)))
  obtain ⟨h0, h3, h4, h5⟩ := h
  refine ⟨?_, ?_, ?_, ?_⟩
  · simpa only [World.cell?, e0] using h0
  · rw [e3]; exact h3
  · simpa only [World.cell?, e4] using h4
  · simpa only [World.cell?, e5] using h5
end Go.Pev
namespace Go.Pev
open Go Go.RowKit
def at2 (xs : List (List T)) (i j : Nat) : Option T := (xs[i]?).bind (·[j]?)
structure Rl where
  S : Nat → Prop
  B : Nat → Prop
  μ : Key → Option (Option (Nat × Nat))
inductive RepT (S : Nat → Prop) (w : World) : Value → T → Prop where
  | b (x : Bool) : RepT S w (.bool x) (.b x)
  | i (k : IntKind) (n : Int) : RepT S w (.int k n) (.i k n)
  | s (x : ByteArray) (y : List UInt8) (h : x.data.toList = y) : RepT S w (.string x) (.s y)
  | l (A : Option Addr) (n c : Nat) (xs : List (List T)) (sz g o : Nat) (f : Nat → Nat → Value) (hl : xs.length = n) (hc : n ≤ c) (hA : 0 < n → A = some ⟨g, o, none⟩) (hS : 0 < n → S g) (hsz : ∀ cs ∈ xs, cs.length = sz)
      (hcell : ∀ i j t, at2 xs i j = some t → w.cell? ⟨g, o + (i * sz + j), none⟩ = some (f i j))
      (hrep : ∀ i j t, at2 xs i j = some t → RepT S w (f i j) t) : RepT S w (.slice A n c) (.l xs)
  | np : RepT S w (.pointer none) .np
  | ni : RepT S w .nilIface .ni
  | er (t : TypeId) (v : Value) : RepT S w (.iface t v) .er
inductive RepV (R : Rl) (w : World) : Value → V → Prop where
  | t {v : Value} {x : T} (h : RepT R.S w v x) : RepV R w v (.t x)
  | ow (k : Key) (sz off len g tot : Nat) (A : Option Addr) (cap : Nat) (hμ : R.μ k = some (some (g, tot))) (hl : len ≤ cap) (hc : off + cap = tot) (hA : 0 < cap → A = some ⟨g, off * sz, none⟩) : RepV R w (.slice A len cap) (.ow k sz off len)
  | owv (k : Key) (sz : Nat) (hμ : R.μ k = some none) : RepV R w (.slice none 0 0) (.ow k sz 0 0)
  | nl : RepV R w (.slice none 0 0) .nl
  | pt (k : Key) (sz i j g n : Nat) (hμ : R.μ k = some (some (g, n))) : RepV R w (.pointer (some ⟨g, i * sz + j, none⟩)) (.pt k sz i j)
  | pr (g o : Nat) (cs : List T) (f : Nat → Value) (hB : cs ≠ [] → R.S g ∨ R.B g) (hcell : ∀ j t, cs[j]? = some t → w.cell? ⟨g, o + j, none⟩ = some (f j)) (hrep : ∀ j t, cs[j]? = some t → RepT R.S w (f j) t) :
      RepV R w (.pointer (some ⟨g, o, none⟩)) (.pr cs)
  | ag (arr : Array Value) (cs : List V) (hn : arr.size = cs.length) (h1 : ∀ j, j < arr.size → (arr.getD j undef).oneCell' = true) (h : ∀ j v, cs[j]? = some v → RepV R w (arr.getD j undef) v) : RepV R w (.agg arr) (.ag cs)
  | tu (arr : Array Value) (vs : List V) (hn : arr.size = vs.length) (h : ∀ j v, vs[j]? = some v → RepV R w (arr.getD j undef) v) : RepV R w (.tuple arr) (.tu vs)
  | fn (f : Nat) (arr : Array Value) (caps : List V) (hn : arr.size = caps.length) (h : ∀ j v, caps[j]? = some v → RepV R w (arr.getD j undef) v) : RepV R w (.func (.func f) #[] arr) (.fn f caps)
  | ud : RepV R w undef .ud
  | un (v : Value) : RepV R w v .un
  | nn (A : Addr) (c : Nat) : RepV R w (.slice (some A) 0 c) .nn
  | nz (c : Nat) : RepV R w (.slice none 0 c) .nz
  | mp (k : Key) (g n : Nat) (hμ : R.μ k = some (some (g, n))) : RepV R w (.map (some g)) (.mp k)
def MapRep (R : Rl) (w : World) : List MapEntry → List (Int × V) → Prop
  | [], [] => True
  | e :: l, (n, v) :: es => e.key = .int .i64 n ∧ RepV R w e.val v ∧ MapRep R w l es
  | _, _ => False
def RowAt (w : World) (g : Nat) (arr : Array Value) (ty : TypeId) : Prop := ∃ mk : Nat × Nat, w.heap[g]? = some (.cells arr ty mk) ∧ ∀ j, j < arr.size → ¬ (mk.1 ≤ j ∧ j < mk.2)
theorem RowAt.of {w : World} {g : Nat} {arr : Array Value} {ty : TypeId} (h : w.heap[g]? = some (.cells arr ty (0, 0))) : RowAt w g arr ty := ⟨_, h, fun j _ => by simp⟩
theorem RowAt.at {w w' : World} {g : Nat} {arr : Array Value} {ty : TypeId} (hb : w'.heap[g]? = w.heap[g]?) (h : RowAt w g arr ty) : RowAt w' g arr ty := by
  obtain ⟨mk, h1, h2⟩ := h
  exact ⟨mk, hb.trans h1, h2⟩
theorem RowAt.lt {w : World} {g : Nat} {arr : Array Value} {ty : TypeId} (h : RowAt w g arr ty) : g < w.heap.size := by
  obtain ⟨mk, h1, _⟩ := h
  exact (Array.getElem?_eq_some_iff.1 h1).1
def ObRel (R : Rl) (w : World) (k : Key) : Ob → Prop
  | .box ty cs => ∃ g n arr, R.μ k = some (some (g, n)) ∧ w.heap[g]? = some (.cells arr ty (0, 0)) ∧ arr.size = cs.length ∧ (∀ j, j < arr.size → (arr.getD j undef).oneCell' = true) ∧ ∀ j v, cs[j]? = some v → RepV R w (arr.getD j undef) v
  | .row ty sz els fz => (R.μ k = some none ∧ els = []) ∨ ∃ g tot arr, R.μ k = some (some (g, tot)) ∧ RowAt w g arr ty ∧ arr.size = tot * sz ∧ els.length ≤ tot ∧ tot ≤ maxLen ∧ (∀ c ∈ els, c.length = sz) ∧
      (∀ j, j < arr.size → (arr.getD j undef).oneCell' = true) ∧ (∀ i j t, at2 els i j = some t → RepT R.S w (arr.getD (i * sz + j) undef) t) ∧ (fz = true → R.S g)
  | .mp es => ∃ g n arr clock, R.μ k = some (some (g, n)) ∧ w.heap[g]? = some (.map arr clock) ∧ MapRep R w arr.toList es
  | .bls ty e bs => ∃ g n p g2 cap cur mk, R.μ k = some (some (g, n)) ∧ w.heap[g]? = some (.cells #[p, .slice (some ⟨g2, 0, none⟩) bs.length cap] ty (0, 0)) ∧ R.S g2 ∧ w.heap[g2]? = some (.cells cur e mk) ∧ mk.1 = 0 ∧ bs.length ≤ mk.2 ∧ 0 < bs.length ∧ bs.length ≤ cap ∧ cap ≤ maxLen ∧ cur.size = cap ∧ ∀ j x, bs[j]? = some x → cur.getD j undef = .int .u8 x.toNat
def live : Ob → Bool
  | .box .. => true
  | .row _ _ _ fz => !fz
  | .mp _ => true
  | .bls _ _ _ => true
def Own (R : Rl) (hp : HP) (g : Nat) : Prop := ∃ k o n, hp.get k = some o ∧ live o = true ∧ R.μ k = some (some (g, n))
structure HInv (R : Rl) (w : World) (hp : HP) (ck : Nat) (dn : Nat → Prop) : Prop where
  ob : ∀ k o, hp.get k = some o → ObRel R w k o
  sep : ∀ k1 k2 o1 o2 g n1 n2, hp.get k1 = some o1 → hp.get k2 = some o2 → live o1 = true → R.μ k1 = some (some (g, n1)) → R.μ k2 = some (some (g, n2)) → k1 = k2
  own : ∀ g, Own R hp g → ¬ R.S g ∧ ¬ R.B g
  sS : ∀ g, R.S g → g < w.heap.size
  sB : ∀ g, R.B g → g < w.heap.size
  fr : ∀ k p, R.μ k = some p → k.c < ck ∨ (k.c = ck ∧ dn k.o)
  nd : (hp.map Prod.fst).Nodup
  gl : (∀ g, globB g → R.S g ∨ R.B g) ∧ globOk w
structure Inv (R : Rl) (w : World) (a : Act) (s : St) (dn : Nat → Prop) (N : Nat) : Prop where
  df : a.defers = []
  sz : a.tmps.size = N
  env : ∀ t, RepV R w (a.tmps.getD t undef) (s.env.get t)
  hi : HInv R w s.hp s.ck dn
structure Grow (R : Rl) (w : World) (hp : HP) (R' : Rl) (w' : World) (hp' : HP) : Prop where
  os : w'.os = w.os
  tape : w'.tape = w.tape
  output : w'.output = w.output
  size : w.heap.size ≤ w'.heap.size
  keep : ∀ g, g < w.heap.size → ¬ Own R hp g → w'.heap[g]? = w.heap[g]?
  S : ∀ g, R.S g → R'.S g
  B : R'.B = R.B
  μ : ∀ k p, R.μ k = some p → R'.μ k = some p
  S' : ∀ g, R'.S g → R.S g ∨ w.heap.size ≤ g ∨ Own R hp g
  own : ∀ g, Own R' hp' g → w.heap.size ≤ g ∨ Own R hp g
theorem Grow.refl (R : Rl) (w : World) (hp : HP) : Grow R w hp R w hp :=
  ⟨rfl, rfl, rfl, Nat.le_refl _, fun _ _ _ => rfl, fun _ h => h, rfl, fun _ _ h => h, fun _ h => .inl h, fun _ h => .inr h⟩
theorem Grow.trans {R w hp R1 w1 hp1 R2 w2 hp2} (h : Grow R w hp R1 w1 hp1) (k : Grow R1 w1 hp1 R2 w2 hp2) : Grow R w hp R2 w2 hp2 where
  os := k.os.trans h.os
  tape := k.tape.trans h.tape
  output := k.output.trans h.output
  size := Nat.le_trans h.size k.size
  keep := fun g hg hn => (k.keep g (Nat.lt_of_lt_of_le hg h.size) (fun ho => by
    rcases h.own g ho with h1 | h1
    · omega
    · exact hn h1)).trans (h.keep g hg hn)
  S := fun g hg => k.S g (h.S g hg)
  B := k.B.trans h.B
  μ := fun q p hq => k.μ q p (h.μ q p hq)
  S' := fun g hg => by
    rcases k.S' g hg with h1 | h1 | h1
    · exact h.S' g h1
    · exact .inr (.inl (Nat.le_trans h.size h1))
    · rcases h.own g h1 with h2 | h2
      · exact .inr (.inl h2)
      · exact .inr (.inr h2)
  own := fun g hg => by
    rcases k.own g hg with h1 | h1
    · exact .inl (Nat.le_trans h.size h1)
    · exact h.own g h1
theorem RepT.mono {S S' : Nat → Prop} {w w' : World} (hS : ∀ g, S g → S' g) (hw : ∀ g, S g → w'.heap[g]? = w.heap[g]?) {v : Value} {t : T} (h : RepT S w v t) : RepT S' w' v t := by
  induction h with
  | b x => exact .b x
  | i k n => exact .i k n
  | s x y h => exact .s x y h
  | l A n c xs sz g o f hl hc hA hS0 hsz hcell hrep ih =>
    refine .l A n c xs sz g o f hl hc hA (fun h => hS g (hS0 h)) hsz (fun i j t ht => ?_) ih
    have hn : 0 < n := by
      unfold at2 at ht
      cases hx : xs[i]? with
      | none => simp [hx] at ht
      | some y => have := (List.getElem?_eq_some_iff.1 hx).1; omega
    rw [World.cell?_of_block (w := w) (hw g (hS0 hn))]
    exact hcell i j t ht
  | np => exact .np
  | ni => exact .ni
  | er t v => exact .er t v
structure Agree (R : Rl) (w : World) (R' : Rl) (w' : World) : Prop where
  S : ∀ g, R.S g → R'.S g
  B : ∀ g, R.B g → R'.B g
  μ : ∀ k p, R.μ k = some p → R'.μ k = some p
  hS : ∀ g, R.S g → w'.heap[g]? = w.heap[g]?
  hB : ∀ g, R.B g → w'.heap[g]? = w.heap[g]?
theorem gl_keep {R R' : Rl} {w w' : World} (h : (∀ g, globB g → R.S g ∨ R.B g) ∧ globOk w) (ha : Agree R w R' w') : (∀ g, globB g → R'.S g ∨ R'.B g) ∧ globOk w' :=
  ⟨fun g hg => (h.1 g hg).imp (ha.S g) (ha.B g), h.2.keep fun g hg => (h.1 g hg).elim (ha.hS g) (ha.hB g)⟩
theorem RepV.mono {R R' : Rl} {w w' : World} (ha : Agree R w R' w') {v : Value} {x : V} (h : RepV R w v x) : RepV R' w' v x := by
  induction h with
  | t h => exact .t (h.mono ha.S ha.hS)
  | ow k sz off len g tot A cap hμ hl hc hA => exact .ow k sz off len g tot A cap (ha.μ _ _ hμ) hl hc hA
  | owv k sz hμ => exact .owv k sz (ha.μ _ _ hμ)
  | nl => exact .nl
  | pt k sz i j g n hμ => exact .pt k sz i j g n (ha.μ _ _ hμ)
  | pr g o cs f hB hcell hrep =>
    refine .pr g o cs f (fun h => (hB h).imp (ha.S g) (ha.B g)) (fun j t ht => ?_) (fun j t ht => (hrep j t ht).mono ha.S ha.hS)
    have hne : cs ≠ [] := by
      intro e
      subst e
      simp at ht
    have hb : w'.heap[g]? = w.heap[g]? := (hB hne).elim (ha.hS g) (ha.hB g)
    rw [World.cell?_of_block (w := w) hb]
    exact hcell j t ht
  | ag arr cs hn h1 h ih => exact .ag arr cs hn h1 ih
  | tu arr vs hn h ih => exact .tu arr vs hn ih
  | fn f arr caps hn h ih => exact .fn f arr caps hn ih
  | ud => exact .ud
  | un v => exact .un v
  | nn A c => exact .nn A c
  | nz c => exact .nz c
  | mp k g n hμ => exact .mp k g n (ha.μ _ _ hμ)
theorem MapRep.mono {R R' : Rl} {w w' : World} (ha : Agree R w R' w') : ∀ {l : List MapEntry} {es : List (Int × V)}, MapRep R w l es → MapRep R' w' l es
  | [], [], _ => trivial
  | e :: l, (n, v) :: es, h => ⟨h.1, h.2.1.mono ha, h.2.2.mono ha⟩
  | [], _ :: _, h => h.elim
  | _ :: _, [], h => h.elim
theorem Grow.agree {R w hp R' w' hp' ck dn} (h : Grow R w hp R' w' hp') (hi : HInv R w hp ck dn) : Agree R w R' w' :=
  ⟨h.S, fun g hg => by rw [h.B]; exact hg, h.μ, fun g hg => h.keep g (hi.sS g hg) (fun ho => (hi.own g ho).1 hg), fun g hg => h.keep g (hi.sB g hg) (fun ho => (hi.own g ho).2 hg)⟩
theorem over_length {α : Type} : ∀ (vs c : List α) (j : Nat), (over c j vs).length = c.length
  | [], c, j => rfl
  | x :: r, c, j => by unfold over; rw [over_length r]; simp
theorem over_get {α : Type} : ∀ (vs c : List α) (j i : Nat), j + vs.length ≤ c.length → (over c j vs)[i]? = if j ≤ i ∧ i < j + vs.length then vs[i - j]? else c[i]?
  | [], c, j, i, _ => by
    unfold over
    rw [if_neg (by simp)]
  | x :: r, c, j, i, h => by
    unfold over
    simp only [List.length_cons] at h
    rw [over_get r (c.set j x) (j + 1) i (by simp; omega)]
    simp only [List.length_cons]
    by_cases h1 : j + 1 ≤ i ∧ i < j + 1 + r.length
    · rw [if_pos h1, if_pos (by omega)]
      rw [show i - j = (i - (j + 1)) + 1 by omega, List.getElem?_cons_succ]
    · rw [if_neg h1]
      by_cases h2 : i = j
      · subst h2
        rw [if_pos (by omega), List.getElem?_set, if_pos rfl, if_pos (by omega)]
        simp
      · rw [if_neg (by omega), List.getElem?_set, if_neg (by omega)]
def HP.keys (h : HP) : List Key := h.map Prod.fst
theorem HP.get_none {h : HP} {k : Key} (hk : k ∉ h.keys) : h.get k = none := by
  induction h with
  | nil => rfl
  | cons p r ih =>
    obtain ⟨k', o'⟩ := p
    simp only [HP.keys, List.map_cons, List.mem_cons, not_or] at hk
    simp only [HP.get]
    rw [if_neg (Ne.symm hk.1)]
    exact ih hk.2
theorem HP.mem_of_get {h : HP} {k : Key} {o : Ob} (hk : h.get k = some o) : k ∈ h.keys := by
  apply Classical.byContradiction
  intro hn
  rw [HP.get_none hn] at hk
  cases hk
theorem HP.get_cons (h : HP) (k k' : Key) (o : Ob) : HP.get ((k', o) :: h) k = if k' = k then some o else h.get k := rfl
theorem HP.get_put {h : HP} (nd : h.keys.Nodup) {k k2 : Key} {o : Ob} (hk : k ∈ h.keys) (hf : k2 = k ∨ k2 ∉ h.keys) (q : Key) : (h.put k k2 o).get q = if q = k2 then some o else if q = k then none else h.get q := by
  induction h with
  | nil => simp [HP.keys] at hk
  | cons p r ih =>
    obtain ⟨k', o'⟩ := p
    simp only [HP.keys, List.map_cons, List.mem_cons, not_or, List.nodup_cons] at nd hk hf
    simp only [HP.put]
    by_cases e : k' = k
    · subst e
      rw [if_pos rfl]
      simp only [HP.get]
      by_cases e2 : k2 = q
      · subst e2; simp
      · rw [if_neg e2, if_neg (Ne.symm e2)]
        by_cases e3 : q = k'
        · subst e3
          rw [if_pos rfl]
          exact HP.get_none nd.1
        · rw [if_neg e3, if_neg (Ne.symm e3)]
    · rw [if_neg e]
      simp only [HP.get]
      have hkr : k ∈ HP.keys r := hk.resolve_left (Ne.symm e)
      rw [ih nd.2 hkr (hf.imp id fun h => h.2)]
      by_cases e2 : k' = q
      · subst e2
        rw [if_pos rfl]
        have : k' ≠ k2 := by
          intro e3
          subst e3
          rcases hf with h | h
          · exact e h
          · exact h.1 rfl
        rw [if_neg this, if_neg e, if_pos rfl]
      · rw [if_neg e2]
        by_cases e3 : q = k2
        · rw [if_pos e3, if_pos e3]
        · rw [if_neg e3, if_neg e3, if_neg e2]
theorem HP.keys_put (h : HP) (k k2 : Key) (o : Ob) (q : Key) (hq : q ∈ (h.put k k2 o).keys) : q = k2 ∨ q ∈ h.keys := by
  induction h with
  | nil => simp [HP.put, HP.keys] at hq
  | cons p r ih =>
    obtain ⟨k', o'⟩ := p
    simp only [HP.put] at hq
    by_cases e : k' = k
    · rw [if_pos e] at hq
      simp only [HP.keys, List.map_cons, List.mem_cons] at hq ⊢
      rcases hq with h | h
      · exact .inl h
      · exact .inr (.inr h)
    · rw [if_neg e] at hq
      simp only [HP.keys, List.map_cons, List.mem_cons] at hq ⊢
      rcases hq with h | h
      · exact .inr (.inl h)
      · exact (ih h).imp id .inr
theorem HP.nodup_put {h : HP} (nd : h.keys.Nodup) {k k2 : Key} {o : Ob} (hk : k ∈ h.keys) (hf : k2 = k ∨ k2 ∉ h.keys) : (h.put k k2 o).keys.Nodup := by
  induction h with
  | nil => simp [HP.keys] at hk
  | cons p r ih =>
    obtain ⟨k', o'⟩ := p
    simp only [HP.keys, List.map_cons, List.mem_cons, not_or, List.nodup_cons] at nd hk hf
    simp only [HP.put]
    by_cases e : k' = k
    · subst e
      rw [if_pos rfl]
      simp only [HP.keys, List.map_cons, List.nodup_cons]
      refine ⟨?_, nd.2⟩
      rcases hf with h | h
      · rw [h]; exact nd.1
      · exact h.2
    · rw [if_neg e]
      simp only [HP.keys, List.map_cons, List.nodup_cons]
      have hkr : k ∈ HP.keys r := hk.resolve_left (Ne.symm e)
      refine ⟨fun hm => ?_, ih nd.2 hkr (hf.imp id fun h => h.2)⟩
      rcases HP.keys_put r k k2 o k' hm with h | h
      · subst h
        rcases hf with h | h
        · exact e h
        · exact h.1 rfl
      · exact nd.1 h
theorem HP.get_filter (h : HP) (p : Key → Bool) (k : Key) : HP.get (h.filter fun x => p x.1) k = if p k = true then h.get k else none := by
  induction h with
  | nil => simp [HP.get]
  | cons x r ih =>
    obtain ⟨k', o'⟩ := x
    simp only [List.filter_cons]
    by_cases hp : p k' = true
    · rw [if_pos hp]
      simp only [HP.get]
      by_cases e : k' = k
      · subst e
        rw [if_pos rfl, if_pos hp, if_pos rfl]
      · rw [if_neg e, if_neg e]
        exact ih
    · rw [if_neg hp, ih]
      simp only [HP.get]
      by_cases e : k' = k
      · subst e
        rw [if_neg hp, if_neg hp]
      · rw [if_neg e]
theorem HP.nodup_filter {h : HP} (nd : h.keys.Nodup) (p : Key → Bool) : (HP.keys (h.filter fun x => p x.1)).Nodup := by
  unfold HP.keys at *
  exact nd.sublist (List.Sublist.map _ List.filter_sublist)
theorem Env.get_put (e : Env) (t : Nat) (v : V) (q : Nat) : (e.put t v).get q = if q = t then v else e.get q := by
  simp only [Env.put, Env.get]
  by_cases h : t = q
  · rw [if_pos h, if_pos h.symm]
  · rw [if_neg h, if_neg (Ne.symm h)]
theorem Env.get_keep (ts : List Nat) (e : Env) (q : Nat) : (Env.keep ts e).get q = if ts.contains q then e.get q else .un := by
  unfold Env.keep
  induction ts with
  | nil => simp [Env.get]
  | cons t r ih =>
    simp only [List.map_cons, Env.get]
    by_cases h : t = q
    · subst h
      simp
    · rw [if_neg h, ih]
      have : (q == t) = false := by simpa using fun e => h e.symm
      simp only [List.contains_cons, this, Bool.false_or]
def plus (dn : Nat → Prop) (me : Nat) : Nat → Prop := fun x => dn x ∨ x = me
theorem ObRel.mono {R R' : Rl} {w w' : World} (ha : Agree R w R' w') {k : Key} {o : Ob} (hb : ∀ g n, R.μ k = some (some (g, n)) → w'.heap[g]? = w.heap[g]?) (h : ObRel R w k o) : ObRel R' w' k o := by
  cases o with
  | box ty cs =>
    obtain ⟨g, n, arr, h1, h2, h3, h4, h5⟩ := h
    exact ⟨g, n, arr, ha.μ _ _ h1, (hb g n h1).trans h2, h3, h4, fun j v hv => (h5 j v hv).mono ha⟩
  | row ty sz els fz =>
    rcases h with ⟨h1, h2⟩ | ⟨g, n, arr, h1, h2, h3, h4, h5, h6, h7, h8, h9⟩
    · exact .inl ⟨ha.μ _ _ h1, h2⟩
    · exact .inr ⟨g, n, arr, ha.μ _ _ h1, RowAt.at (hb g n h1) h2, h3, h4, h5, h6, h7, fun i j t ht => (h8 i j t ht).mono ha.S ha.hS, fun h => ha.S g (h9 h)⟩
  | mp es =>
    obtain ⟨g, n, arr, clock, h1, h2, h3⟩ := h
    exact ⟨g, n, arr, clock, ha.μ _ _ h1, (hb g n h1).trans h2, h3.mono ha⟩
  | bls ty e0 bs =>
    obtain ⟨g, n, p, g2, cap, cur, mk, h1, h2, h3, h4, h5⟩ := h
    exact ⟨g, n, p, g2, cap, cur, mk, ha.μ _ _ h1, (hb g n h1).trans h2, ha.S g2 h3, (ha.hS g2 h3).trans h4, h5⟩
theorem ObRel.lt {R : Rl} {w : World} {k : Key} {o : Ob} (h : ObRel R w k o) {g n : Nat} (hm : R.μ k = some (some (g, n))) : g < w.heap.size := by
  cases o with
  | box ty cs =>
    obtain ⟨g', n', arr, h1, h2, _⟩ := h
    rw [h1] at hm
    cases hm
    exact (Array.getElem?_eq_some_iff.1 h2).1
  | row ty sz els fz =>
    rcases h with ⟨h1, h2⟩ | ⟨g', n', arr, h1, h2, _⟩
    · rw [h1] at hm
      cases hm
    · rw [h1] at hm
      cases hm
      exact RowAt.lt h2
  | mp es =>
    obtain ⟨g', n', arr, clock, h1, h2, _⟩ := h
    rw [h1] at hm
    cases hm
    exact (Array.getElem?_eq_some_iff.1 h2).1
  | bls ty e0 bs =>
    obtain ⟨g', n', p, g2, cap, cur, mk, h1, h2, _⟩ := h
    rw [h1] at hm
    cases hm
    exact (Array.getElem?_eq_some_iff.1 h2).1
theorem ObRel.μ_some {R : Rl} {w : World} {k : Key} {o : Ob} (h : ObRel R w k o) : ∃ p, R.μ k = some p := by
  cases o with
  | box ty cs =>
    obtain ⟨g', n', arr, h1, h2, _⟩ := h
    exact ⟨_, h1⟩
  | row ty sz els fz =>
    rcases h with ⟨h1, h2⟩ | ⟨g', n', arr, h1, h2, _⟩
    · exact ⟨_, h1⟩
    · exact ⟨_, h1⟩
  | mp es =>
    obtain ⟨g', n', arr, clock, h1, h2, _⟩ := h
    exact ⟨_, h1⟩
  | bls ty e0 bs =>
    obtain ⟨g', n', p, g2, cap, cur, mk, h1, h2, _⟩ := h
    exact ⟨_, h1⟩
theorem get_of_mem {h : HP} {k : Key} (hk : k ∈ h.map Prod.fst) : ∃ o, h.get k = some o := by
  cases hg : h.get k with
  | some o => exact ⟨o, rfl⟩
  | none =>
    exfalso
    induction h with
    | nil => simp at hk
    | cons p r ih =>
      obtain ⟨k', o'⟩ := p
      simp only [HP.get] at hg
      by_cases e : k' = k
      · rw [if_pos e] at hg
        cases hg
      · rw [if_neg e] at hg
        simp only [List.map_cons, List.mem_cons] at hk
        exact ih (hk.resolve_left (Ne.symm e)) hg
theorem HInv.fresh {R w hp ck dn} (hi : HInv R w hp ck dn) {k : Key} (hc : k.c = ck) (hd : ¬ dn k.o) : R.μ k = none ∧ k ∉ hp.map Prod.fst := by
  have h0 : R.μ k = none := by
    cases h : R.μ k with
    | none => rfl
    | some p =>
      rcases hi.fr k p h with h1 | h1
      · omega
      · exact absurd h1.2 hd
  refine ⟨h0, fun hm => ?_⟩
  obtain ⟨o, ho⟩ := get_of_mem hm
  obtain ⟨p, hp⟩ := (hi.ob k o ho).μ_some
  rw [h0] at hp
  cases hp
theorem HInv.plus {R w hp ck dn} (hi : HInv R w hp ck dn) (me : Nat) : HInv R w hp ck (plus dn me) :=
  ⟨hi.ob, hi.sep, hi.own, hi.sS, hi.sB, fun k p h => (hi.fr k p h).imp id fun h => ⟨h.1, .inl h.2⟩, hi.nd, hi.gl⟩
def updμ (μ : Key → Option (Option (Nat × Nat))) (k : Key) (p : Option (Nat × Nat)) : Key → Option (Option (Nat × Nat)) := fun q => if q = k then some p else μ q
theorem updμ_same (μ : Key → Option (Option (Nat × Nat))) (k : Key) (p : Option (Nat × Nat)) : updμ μ k p k = some p := if_pos rfl
theorem updμ_other (μ : Key → Option (Option (Nat × Nat))) (k q : Key) (p : Option (Nat × Nat)) (h : q ≠ k) : updμ μ k p q = μ q := if_neg h
theorem alloc_step {R : Rl} {w w' : World} {hp : HP} {ck me : Nat} {dn : Nat → Prop} (hi : HInv R w hp ck dn) (hd : ¬ dn me) (k : Key) (hk : k.c = ck ∧ k.o = me) (p : Option (Nat × Nat)) (ob : Ob)
    (hos : w'.os = w.os) (htp : w'.tape = w.tape) (hout : w'.output = w.output) (hsz : w.heap.size ≤ w'.heap.size) (hold : ∀ g, g < w.heap.size → w'.heap[g]? = w.heap[g]?)
    (hp_new : ∀ g n, p = some (g, n) → w.heap.size ≤ g)
    (hob : Agree R w { R with μ := updμ R.μ k p } w' → ObRel { R with μ := updμ R.μ k p } w' k ob) :
    Grow R w hp { R with μ := updμ R.μ k p } w' ((k, ob) :: hp) ∧ HInv { R with μ := updμ R.μ k p } w' ((k, ob) :: hp) ck (plus dn me) := by
  obtain ⟨hf, hn⟩ := hi.fresh hk.1 (by rw [hk.2]; exact hd)
  have hμ : ∀ q p', R.μ q = some p' → updμ R.μ k p q = some p' := by
    intro q p' hq
    rw [updμ_other _ _ _ _ (by rintro rfl; rw [hf] at hq; cases hq)]
    exact hq
  have ha : Agree R w { R with μ := updμ R.μ k p } w' := ⟨fun _ h => h, fun _ h => h, hμ, fun g hg => hold g (hi.sS g hg), fun g hg => hold g (hi.sB g hg)⟩
  have hgc : ∀ q, HP.get ((k, ob) :: hp) q = if k = q then some ob else hp.get q := fun q => rfl
  have hne : ∀ q o, hp.get q = some o → k ≠ q := by
    intro q o hq e
    subst e
    exact hn (HP.mem_of_get hq)
  have hown : ∀ g, Own { R with μ := updμ R.μ k p } ((k, ob) :: hp) g → w.heap.size ≤ g ∨ Own R hp g := by
    rintro g ⟨q, o, n, h1, h2, h3⟩
    rw [hgc] at h1
    by_cases e : k = q
    · subst e
      simp only [updμ_same] at h3
      exact .inl (hp_new g n (Option.some.inj h3))
    · rw [if_neg e] at h1
      simp only [updμ_other _ _ _ _ (Ne.symm e)] at h3
      exact .inr ⟨q, o, n, h1, h2, h3⟩
  refine ⟨⟨hos, htp, hout, hsz, fun g hg _ => hold g hg, fun _ h => h, rfl, hμ, fun _ h => .inl h, hown⟩, ?_⟩
  constructor
  · intro q o hq
    rw [hgc] at hq
    by_cases e : k = q
    · subst e
      rw [if_pos rfl] at hq
      cases hq
      exact hob ha
    · rw [if_neg e] at hq
      exact (hi.ob q o hq).mono ha (fun g n hg => hold g ((hi.ob q o hq).lt hg))
  · intro k1 k2 o1 o2 g n1 n2 h1 h2 hl hm1 hm2
    rw [hgc] at h1 h2
    by_cases e1 : k = k1
    · by_cases e2 : k = k2
      · exact e1.symm.trans e2
      · subst e1
        rw [if_neg e2] at h2
        simp only [updμ_same] at hm1
        simp only [updμ_other _ _ _ _ (Ne.symm e2)] at hm2
        have := hp_new g n1 (Option.some.inj hm1)
        have := (hi.ob k2 o2 h2).lt hm2
        omega
    · rw [if_neg e1] at h1
      simp only [updμ_other _ _ _ _ (Ne.symm e1)] at hm1
      by_cases e2 : k = k2
      · subst e2
        simp only [updμ_same] at hm2
        have := hp_new g n2 (Option.some.inj hm2)
        have := (hi.ob k1 o1 h1).lt hm1
        omega
      · rw [if_neg e2] at h2
        simp only [updμ_other _ _ _ _ (Ne.symm e2)] at hm2
        exact hi.sep k1 k2 o1 o2 g n1 n2 h1 h2 hl hm1 hm2
  · intro g hg
    rcases hown g hg with h | h
    · exact ⟨fun hs => by have := hi.sS g hs; omega, fun hs => by have := hi.sB g hs; omega⟩
    · exact hi.own g h
  · exact fun g hg => Nat.lt_of_lt_of_le (hi.sS g hg) hsz
  · exact fun g hg => Nat.lt_of_lt_of_le (hi.sB g hg) hsz
  · intro q p' hq
    by_cases e : q = k
    · subst e
      exact .inr ⟨hk.1, .inr hk.2⟩
    · simp only [updμ_other _ _ _ _ e] at hq
      exact (hi.fr q p' hq).imp id fun h => ⟨h.1, .inl h.2⟩
  · simp only [List.map_cons, List.nodup_cons]
    exact ⟨hn, hi.nd⟩
  · exact gl_keep hi.gl ha
theorem put_step {R : Rl} {w w' : World} {hp : HP} {ck me : Nat} {dn : Nat → Prop} (hi : HInv R w hp ck dn) (k k2 : Key) (o ob : Ob) (hko : hp.get k = some o) (hl : live o = true) (p : Option (Nat × Nat))
    (hk2 : (k2 = k ∧ R.μ k = some p) ∨ (k2.c = ck ∧ k2.o = me ∧ ¬ dn me))
    (hos : w'.os = w.os) (htp : w'.tape = w.tape) (hout : w'.output = w.output) (hsz : w.heap.size ≤ w'.heap.size) (hold : ∀ g, g < w.heap.size → (∀ n, R.μ k ≠ some (some (g, n))) → w'.heap[g]? = w.heap[g]?)
    (hp_new : ∀ g n, p = some (g, n) → w.heap.size ≤ g ∨ ∃ n', R.μ k = some (some (g, n')))
    (hfz : live ob = true)
    (hob : Agree R w { R with μ := updμ R.μ k2 p } w' → ObRel { R with μ := updμ R.μ k2 p } w' k2 ob) :
    Grow R w hp { R with μ := updμ R.μ k2 p } w' (hp.put k k2 ob) ∧ HInv { R with μ := updμ R.μ k2 p } w' (hp.put k k2 ob) ck (plus dn me) := by
  have hkm : k ∈ hp.map Prod.fst := HP.mem_of_get hko
  have hfresh : k2 = k ∨ (R.μ k2 = none ∧ k2 ∉ hp.map Prod.fst) := hk2.imp (·.1) fun h => hi.fresh h.1 (by rw [h.2.1]; exact h.2.2)
  have hμ : ∀ q p', R.μ q = some p' → updμ R.μ k2 p q = some p' := by
    intro q p' hq
    by_cases e : q = k2
    · rcases hk2 with ⟨h1, h2⟩ | h
      · subst e
        rw [updμ_same, ← h2, ← h1]
        exact hq
      · have := (hi.fresh h.1 (by rw [h.2.1]; exact h.2.2)).1
        rw [e, this] at hq
        cases hq
    · rw [updμ_other _ _ _ _ e]
      exact hq
  have hownk : ∀ g n, R.μ k = some (some (g, n)) → Own R hp g := fun g n h => ⟨k, o, n, hko, hl, h⟩
  have hS : ∀ g, R.S g → w'.heap[g]? = w.heap[g]? := fun g hg => hold g (hi.sS g hg) (fun n e => (hi.own g (hownk g n e)).1 hg)
  have hB : ∀ g, R.B g → w'.heap[g]? = w.heap[g]? := fun g hg => hold g (hi.sB g hg) (fun n e => (hi.own g (hownk g n e)).2 hg)
  have ha : Agree R w { R with μ := updμ R.μ k2 p } w' := ⟨fun _ h => h, fun _ h => h, hμ, hS, hB⟩
  have hgp : ∀ q, (hp.put k k2 ob).get q = if q = k2 then some ob else if q = k then none else hp.get q := fun q => HP.get_put hi.nd hkm (hfresh.imp id (·.2)) q
  have hown : ∀ g, Own { R with μ := updμ R.μ k2 p } (hp.put k k2 ob) g → w.heap.size ≤ g ∨ Own R hp g := by
    rintro g ⟨q, o', n, h1, h2, h3⟩
    rw [hgp] at h1
    by_cases e : q = k2
    · subst e
      simp only [updμ_same] at h3
      rcases hp_new g n (Option.some.inj h3) with h | ⟨n', h⟩
      · exact .inl h
      · exact .inr (hownk g n' h)
    · rw [if_neg e] at h1
      simp only [updμ_other _ _ _ _ e] at h3
      by_cases e2 : q = k
      · rw [if_pos e2] at h1
        cases h1
      · rw [if_neg e2] at h1
        exact .inr ⟨q, o', n, h1, h2, h3⟩
  have hother : ∀ q o', q ≠ k → hp.get q = some o' → ∀ g n, R.μ q = some (some (g, n)) → w'.heap[g]? = w.heap[g]? := by
    intro q o' hq ho g n hm
    exact hold g ((hi.ob q o' ho).lt hm) (fun n' e => hq (hi.sep k q o o' g n' n hko ho hl e hm).symm)
  refine ⟨⟨hos, htp, hout, hsz, fun g hg hn => hold g hg (fun n e => hn (hownk g n e)), fun _ h => h, rfl, hμ, fun _ h => .inl h, hown⟩, ?_⟩
  constructor
  · intro q o' hq
    rw [hgp] at hq
    by_cases e : q = k2
    · rw [if_pos e] at hq
      subst e
      cases hq
      exact hob ha
    · rw [if_neg e] at hq
      by_cases e2 : q = k
      · rw [if_pos e2] at hq
        cases hq
      · rw [if_neg e2] at hq
        exact (hi.ob q o' hq).mono ha (hother q o' e2 hq)
  · intro k1 k3 o1 o3 g n1 n3 h1 h3 hl1 hm1 hm3
    rw [hgp] at h1 h3
    by_cases e1 : k1 = k2
    · by_cases e3 : k3 = k2
      · exact e1.trans e3.symm
      · exfalso
        subst e1
        rw [if_neg e3] at h3
        simp only [updμ_same] at hm1
        simp only [updμ_other _ _ _ _ e3] at hm3
        by_cases e4 : k3 = k
        · rw [if_pos e4] at h3
          cases h3
        · rw [if_neg e4] at h3
          rcases hp_new g n1 (Option.some.inj hm1) with h | ⟨n', h⟩
          · have := (hi.ob k3 o3 h3).lt hm3
            omega
          · exact e4 (hi.sep k k3 o o3 g n' n3 hko h3 hl h hm3).symm
    · rw [if_neg e1] at h1
      simp only [updμ_other _ _ _ _ e1] at hm1
      by_cases e5 : k1 = k
      · rw [if_pos e5] at h1
        cases h1
      · rw [if_neg e5] at h1
        by_cases e3 : k3 = k2
        · exfalso
          subst e3
          simp only [updμ_same] at hm3
          rcases hp_new g n3 (Option.some.inj hm3) with h | ⟨n', h⟩
          · have := (hi.ob k1 o1 h1).lt hm1
            omega
          · exact e5 (hi.sep k k1 o o1 g n' n1 hko h1 hl h hm1).symm
        · rw [if_neg e3] at h3
          simp only [updμ_other _ _ _ _ e3] at hm3
          by_cases e4 : k3 = k
          · rw [if_pos e4] at h3
            cases h3
          · rw [if_neg e4] at h3
            exact hi.sep k1 k3 o1 o3 g n1 n3 h1 h3 hl1 hm1 hm3
  · intro g hg
    rcases hown g hg with h | h
    · exact ⟨fun hs => by have := hi.sS g hs; omega, fun hs => by have := hi.sB g hs; omega⟩
    · exact hi.own g h
  · exact fun g hg => Nat.lt_of_lt_of_le (hi.sS g hg) hsz
  · exact fun g hg => Nat.lt_of_lt_of_le (hi.sB g hg) hsz
  · intro q p' hq
    by_cases e : q = k2
    · subst e
      rcases hk2 with ⟨h1, h2⟩ | h
      · subst h1
        exact (hi.fr _ _ h2).imp id fun h => ⟨h.1, .inl h.2⟩
      · exact .inr ⟨h.1, .inr h.2.1⟩
    · simp only [updμ_other _ _ _ _ e] at hq
      exact (hi.fr q p' hq).imp id fun h => ⟨h.1, .inl h.2⟩
  · exact HP.nodup_put hi.nd hkm (hfresh.imp id (·.2))
  · exact gl_keep hi.gl ha
def rowsAt (R : Rl) (hp : HP) (ks : List Key) (g : Nat) : Prop := ∃ k ∈ ks, ∃ ty sz els fz n, hp.get k = some (.row ty sz els fz) ∧ R.μ k = some (some (g, n))
def Rl.withS (R : Rl) (S : Nat → Prop) : Rl := { R with S := fun g => R.S g ∨ S g }
theorem freeze1_get {hp : HP} (nd : (hp.map Prod.fst).Nodup) (k q : Key) : (freeze1 hp k).get q = if q = k then (match hp.get k with | some (.row ty sz els _) => some (.row ty sz els true) | x => x) else hp.get q := by
  unfold freeze1
  cases h : hp.get k with
  | none =>
    simp only
    by_cases e : q = k
    · rw [if_pos e, e]; exact h
    · rw [if_neg e]
  | some o =>
    cases o with
    | box ty cs =>
      simp only
      by_cases e : q = k
      · rw [if_pos e, e]; exact h
      · rw [if_neg e]
    | bls ty e0 bs =>
      simp only
      by_cases e : q = k
      · rw [if_pos e, e]; exact h
      · rw [if_neg e]
    | mp es =>
      simp only
      by_cases e : q = k
      · rw [if_pos e, e]; exact h
      · rw [if_neg e]
    | row ty sz els fz =>
      simp only
      rw [HP.get_put nd (HP.mem_of_get h) (.inl rfl)]
      by_cases e : q = k
      · rw [if_pos e, if_pos e]
      · rw [if_neg e, if_neg e, if_neg e]
theorem freeze1_nd {hp : HP} (nd : (hp.map Prod.fst).Nodup) (k : Key) : ((freeze1 hp k).map Prod.fst).Nodup := by
  unfold freeze1
  split
  · rename_i h
    exact HP.nodup_put nd (HP.mem_of_get h) (.inl rfl)
  · exact nd
theorem freeze1_step {R : Rl} {w : World} {hp : HP} {ck : Nat} {dn : Nat → Prop} (hi : HInv R w hp ck dn) (k : Key) :
    Grow R w hp (R.withS (rowsAt R hp [k])) w (freeze1 hp k) ∧ HInv (R.withS (rowsAt R hp [k])) w (freeze1 hp k) ck dn ∧ (∀ g, rowsAt R hp [k] g → R.S g ∨ Own R hp g) := by
  have hro : ∀ g, rowsAt R hp [k] g → R.S g ∨ Own R hp g := by
    rintro g ⟨k', hk', ty, sz, els, fz, n, h1, h2⟩
    rw [List.mem_singleton.1 hk'] at h1 h2
    cases fz with
    | true =>
      rcases hi.ob _ _ h1 with ⟨h3, _⟩ | ⟨g', n', arr, h3, h4, h5, h6, h7, h8, h9, h10, h11⟩
      · rw [h3] at h2; cases h2
      · rw [h3] at h2
        cases h2
        exact .inl (h11 rfl)
    | false => exact .inr ⟨k, _, n, h1, rfl, h2⟩
  have ha : Agree R w (R.withS (rowsAt R hp [k])) w := ⟨fun _ h => .inl h, fun _ h => h, fun _ _ h => h, fun _ _ => rfl, fun _ _ => rfl⟩
  have hg := fun q => freeze1_get hi.nd k q
  have hback : ∀ q o, (freeze1 hp k).get q = some o → ∃ o', hp.get q = some o' ∧ (live o = true → live o' = true) ∧ (q = k → ∀ ty sz els fz, o' = .row ty sz els fz → o = .row ty sz els true) ∧ (q ≠ k → o = o') ∧ (∀ ty cs, o' = .box ty cs → o = o') ∧ (∀ es, o' = .mp es → o = o') ∧ (∀ ty e0 bs, o' = .bls ty e0 bs → o = o') := by
    intro q o hq
    rw [hg] at hq
    by_cases e : q = k
    · subst e
      rw [if_pos rfl] at hq
      cases h : hp.get q with
      | none => rw [h] at hq; cases hq
      | some o' =>
        rw [h] at hq
        refine ⟨o', rfl, ?_, ?_, fun h => absurd rfl h, ?_, ?_, ?_⟩
        · cases o' with
          | box ty cs => intro _; rfl
          | row ty sz els fz => simp only at hq; cases hq; intro h; cases h
          | mp es => intro _; rfl
          | bls ty e0 bs => intro _; rfl
        · intro _ ty sz els fz ho
          subst ho
          simp only at hq
          cases hq
          rfl
        · intro ty cs ho
          subst ho
          simp only at hq
          cases hq
          rfl
        · intro es ho
          subst ho
          simp only at hq
          cases hq
          rfl
        · intro ty e0 bs ho
          subst ho
          simp only at hq
          cases hq
          rfl
    · rw [if_neg e] at hq
      exact ⟨o, hq, id, fun h => absurd h e, fun _ => rfl, fun _ _ _ => rfl, fun _ _ => rfl, fun _ _ _ _ => rfl⟩
  have hown : ∀ g, Own (R.withS (rowsAt R hp [k])) (freeze1 hp k) g → Own R hp g := by
    rintro g ⟨q, o, n, h1, h2, h3⟩
    obtain ⟨o', h4, h5, _⟩ := hback q o h1
    exact ⟨q, o', n, h4, h5 h2, h3⟩
  refine ⟨⟨rfl, rfl, rfl, Nat.le_refl _, fun _ _ _ => rfl, fun _ h => .inl h, rfl, fun _ _ h => h, ?_, fun g h => .inr (hown g h)⟩, ?_, hro⟩
  · rintro g (h | h)
    · exact .inl h
    · exact (hro g h).imp id .inr
  constructor
  · intro q o hq
    obtain ⟨o', h4, h5, h6, h7, h8, h8m, h8b⟩ := hback q o hq
    have h9 := (hi.ob q o' h4).mono ha (fun _ _ _ => rfl)
    by_cases e : q = k
    · cases o' with
      | box ty cs => rw [h8 ty cs rfl]; exact h9
      | mp es => rw [h8m es rfl]; exact h9
      | bls ty e0 bs => rw [h8b ty e0 bs rfl]; exact h9
      | row ty sz els fz =>
        rw [h6 e ty sz els fz rfl]
        rcases h9 with h | ⟨g, n, arr, a1, a2, a3, a4, a5, a6, a7, a8, a9⟩
        · exact .inl h
        · exact .inr ⟨g, n, arr, a1, a2, a3, a4, a5, a6, a7, a8, fun _ => .inr ⟨k, by simp, ty, sz, els, fz, n, by rw [← e]; exact h4, by rw [← e]; exact a1⟩⟩
    · rw [h7 e]; exact h9
  · intro k1 k2 o1 o2 g n1 n2 h1 h2 hl hm1 hm2
    obtain ⟨o1', h3, h4, _⟩ := hback k1 o1 h1
    obtain ⟨o2', h5, _⟩ := hback k2 o2 h2
    exact hi.sep k1 k2 o1' o2' g n1 n2 h3 h5 (h4 hl) hm1 hm2
  · intro g hg
    refine ⟨?_, fun hb => (hi.own g (hown g hg)).2 hb⟩
    rintro (h | h)
    · exact (hi.own g (hown g hg)).1 h
    · obtain ⟨q, o, n, h1, h2, h3⟩ := hg
      obtain ⟨k', hk', ty, sz, els, fz, n', h4, h5⟩ := h
      rw [List.mem_singleton.1 hk'] at h4 h5
      obtain ⟨o', h6, h7, h8, _⟩ := hback q o h1
      have e := hi.sep q k o' _ g n n' h6 h4 (h7 h2) h3 h5
      rw [e, h4] at h6
      cases h6
      have := h8 e ty sz els fz rfl
      rw [this] at h2
      cases h2
  · rintro g (h | h)
    · exact hi.sS g h
    · rcases hro g h with h | ⟨q, o, n, h1, h2, h3⟩
      · exact hi.sS g h
      · exact (hi.ob q o h1).lt h3
  · exact hi.sB
  · exact hi.fr
  · exact freeze1_nd hi.nd k
  · exact gl_keep hi.gl ha
theorem rowsAt_freeze1 {R : Rl} {hp : HP} (nd : (hp.map Prod.fst).Nodup) (k : Key) (ks : List Key) (R' : Rl) (hR : R'.μ = R.μ) (g : Nat) : rowsAt R' (freeze1 hp k) ks g ↔ rowsAt R hp ks g := by
  constructor
  · rintro ⟨k', hk', ty, sz, els, fz, n, h1, h2⟩
    rw [hR] at h2
    rw [freeze1_get nd] at h1
    by_cases e : k' = k
    · rw [if_pos e] at h1
      cases h : hp.get k with
      | none => rw [h] at h1; cases h1
      | some o =>
        rw [h] at h1
        cases o with
        | box _ _ => cases h1
        | mp _ => cases h1
        | bls _ _ _ => cases h1
        | row ty' sz' els' fz' => exact ⟨k', hk', ty', sz', els', fz', n, by rw [e]; exact h, h2⟩
    · rw [if_neg e] at h1
      exact ⟨k', hk', ty, sz, els, fz, n, h1, h2⟩
  · rintro ⟨k', hk', ty, sz, els, fz, n, h1, h2⟩
    by_cases e : k' = k
    · refine ⟨k', hk', ty, sz, els, true, n, ?_, by rw [hR]; exact h2⟩
      rw [freeze1_get nd, if_pos e, ← e, h1]
    · refine ⟨k', hk', ty, sz, els, fz, n, ?_, by rw [hR]; exact h2⟩
      rw [freeze1_get nd, if_neg e]
      exact h1
theorem freezeAll_step {w : World} {ck : Nat} {dn : Nat → Prop} : ∀ (ks : List Key) {R : Rl} {hp : HP} (hi : HInv R w hp ck dn),
    ∃ R', R'.μ = R.μ ∧ R'.B = R.B ∧ (∀ g, R'.S g ↔ R.S g ∨ rowsAt R hp ks g) ∧ Grow R w hp R' w (freezeAll hp ks) ∧ HInv R' w (freezeAll hp ks) ck dn
  | [], R, hp, hi => ⟨R, rfl, rfl, fun g => ⟨.inl, fun h => h.elim id fun ⟨k, hk, _⟩ => by simp at hk⟩, Grow.refl _ _ _, hi⟩
  | k :: ks, R, hp, hi => by
    obtain ⟨g1, h1, _⟩ := freeze1_step hi k
    obtain ⟨R', m1, m2, m3, g2, h2⟩ := freezeAll_step ks h1
    refine ⟨R', m1, m2, fun g => ?_, g1.trans g2, h2⟩
    rw [m3, rowsAt_freeze1 hi.nd k ks (R.withS (rowsAt R hp [k])) rfl]
    constructor
    · rintro ((h | ⟨k', hk', h⟩) | ⟨k', hk', h⟩)
      · exact .inl h
      · exact .inr ⟨k', by rw [List.mem_singleton.1 hk']; exact List.mem_cons_self, h⟩
      · exact .inr ⟨k', List.mem_cons_of_mem _ hk', h⟩
    · rintro (h | ⟨k', hk', h⟩)
      · exact .inl (.inl h)
      · rcases List.mem_cons.1 hk' with e | e
        · exact .inl (.inr ⟨k', by rw [e]; simp, h⟩)
        · exact .inr ⟨k', e, h⟩
end Go.Pev
namespace Go.Pev
open Go
structure Ann where
  kill : Nat → List Nat
  killH : Nat → List Nat
  own : Nat → Nat → Bool
def constC : Value → Option V
  | .bool b => some (.t (.b b))
  | .int k n => some (.t (.i k n))
  | .string s => some (.t (.s s.data.toList))
  | .slice none 0 0 => some .nl
  | .pointer none => some (.t .np)
  | .nilIface => some (.t .ni)
  | _ => none
def constCs : List Value → Option (List V)
  | [] => some []
  | c :: r => match constC c, constCs r with
    | some v, some vs => some (v :: vs)
    | _, _ => none
def constV : Value → Option V
  | .agg cs => (constCs cs.toList).map .ag
  | v => constC v
def toTc : V → Option T
  | .t x => some x
  | .nl => some (.l [])
  | _ => none
def toTcs : List V → Option (List T)
  | [] => some []
  | c :: r => match toTc c, toTcs r with
    | some v, some vs => some (v :: vs)
    | _, _ => none
def compOpd : Operand → Option Opd
  | .tmp t => some (.tmp t)
  | .const v => (constV v).map .c
  | .func f => some (.c (.fn f []))
  | .global _ => none
def compOpds : List Operand → Option (List Opd)
  | [] => some []
  | x :: r => match compOpd x, compOpds r with
    | some y, some ys => some (y :: ys)
    | _, _ => none
def compOpt : Option Operand → Option (Option Opd)
  | none => some none
  | some x => (compOpd x).map some
def aggD : TypeDesc → Bool
  | .struct _ | .array _ _ => true
  | _ => false
def szOf (P : Program) (t : TypeId) : Option Nat := (P.info? t).map (·.size)
def aggOf (P : Program) (t : TypeId) : Option Bool := (P.underlying t).map aggD
def isIntMap (P : Program) (t : TypeId) : Bool := match P.underlying t with
  | some (.map kt _) => (match P.underlying kt with
    | some (.int .i64) => true
    | _ => false)
  | _ => false
def mapElem (P : Program) (t : TypeId) : Option V := match P.underlying t with
  | some (.map _ et) => ((P.info? et).bind (·.zero)).bind constV
  | _ => none
def eqKind (P : Program) (f : Field) (i : Nat) : Option Nat := if f.name ≠ "_" ∧ f.offset = i then (match P.underlying f.type with
  | some (.int _) => some 0
  | some .string => some 1
  | some .bool => some 2
  | _ => none) else none
def eqKinds (P : Program) : List Field → Nat → Option (List Nat)
  | [], _ => some []
  | f :: r, i => match eqKind P f i, eqKinds P r (i + 1) with
    | some k, some ks => some (k :: ks)
    | _, _ => none
def bytesOf (P : Program) (t : TypeId) : Option Nat := (P.info? t).map (·.bytes)
def zeroOf (P : Program) (t : TypeId) : Option Value := (P.info? t).bind (·.zero)
def nilKind (d : TypeDesc) (y : Operand) : Nat :=
  match d, y with
  | .interface _, .const .nilIface => 1
  | .pointer _, .const (.pointer none) => 2
  | .slice _, .const (.slice none 0 0) => 3
  | _, _ => 0
def placesOf (P : Program) : List (Nat × Nat × Operand) → Option (List (Nat × Nat × Opd))
  | [] => some []
  | (o, n, x) :: r => match compOpd x, placesOf P r with
    | some y, some ys => some ((o, n, y) :: ys)
    | _, _ => none
def fieldsOf (P : Program) (fs : Array Field) : Option (List (Nat × Nat)) := fs.toList.mapM fun f => (P.info? f.type).map fun i => (f.offset, i.size)
def placeS (pls : List (Nat × Nat)) : List (Nat × Operand) → Option (List (Nat × Nat × Operand))
  | [] => some []
  | (i, x) :: r => match pls[i]?, placeS pls r with
    | some p, some ys => some ((p.1, p.2, x) :: ys)
    | _, _ => none
def placeA (n : Nat) : List (Nat × Operand) → List (Nat × Nat × Operand)
  | [] => []
  | (i, x) :: r => (i * n, n, x) :: placeA n r
def goodFn (P : Program) (f : FuncId) : Bool :=
  match P.funcs[f]? with
  | some fn => fn.body.isSome && !(fn.name == "runtime.NumGoroutine")
  | none => false
def compPo (P : Program) (A : Ann) (rid i : Nat) (draw : Bool) (o : Oper) : Option Po :=
  match o.op with
  | .move x => (compOpd x).map .mv
  | .assign x => match x with
    | .const (.slice none 0 0) => match P.underlying o.type with
      | some (.slice e) => (szOf P e).map (.nilv e ·)
      | _ => none
    | x => (compOpd x).map .mv
  | .pick c a b => match compOpd c, compOpd a, compOpd b with
    | some c, some a, some b => some (.pick c a b)
    | _, _, _ => none
  | .alloc e => match zeroOf P e with
    | some z => (constCs z.cells.toList).map (.alloc e ·)
    | none => none
  | .box e x => match szOf P e, compOpd x with
    | some n, some x => some (.box e n x)
    | _, _ => none
  | .build t ps => match zeroOf P t, P.underlying t with
    | some z, some (.struct fs) => match constCs z.cells.toList, fieldsOf P fs with
      | some zs, some fo => match placeS fo ps.toList with
        | some pl => (placesOf P pl).map (.build zs ·)
        | none => none
      | _, _ => none
    | some z, some (.array _ e) => match constCs z.cells.toList, szOf P e with
      | some zs, some n => (placesOf P (placeA n ps.toList)).map (.build zs ·)
      | _, _ => none
    | _, _ => none
  | .buildSlice t len ps => match P.underlying t with
    | some (.slice e) => match szOf P e, zeroOf P e, compOpds (ps.toList.map (·.2)) with
      | some n, some z, some xs => if ps.toList.map (·.1) = List.range len ∧ len * n ≤ 16777216 ∧ 0 < n ∧ z.cells.size = n then
          (if A.own rid i then some (.bslO e n xs) else some (.bslT n xs)) else none
      | _, _, _ => none
    | _ => none
  | .load t x => match aggOf P t, szOf P t, compOpd x with
    | some a, some n, some x => some (.load a n x)
    | _, _, _ => none
  | .store t x y => match szOf P t, compOpd x, compOpd y with
    | some n, some x, some y => some (.store n x y)
    | _, _, _ => none
  | .nilCheck x => (compOpd x).map .nchk
  | .binOp op t x y _ => match P.underlying t, compOpd x, compOpd y with
    | some d, some x', some y' =>
      match op, nilKind d y with
      | .eql, 1 => some (.isnilI false x')
      | .neq, 1 => some (.isnilI true x')
      | .eql, 2 => some (.isnilP false x')
      | .neq, 2 => some (.isnilP true x')
      | .eql, 3 => some (.isnilS false x')
      | .neq, 3 => some (.isnilS true x')
      | _, _ => match d with
        | .int _ => some (.bin op x' y')
        | .string => some (.bin op x' y')
        | .bool => match op with
          | .eql => some (.beq false x' y')
          | .neq => some (.beq true x' y')
          | _ => none
        | .struct fs => if P.stoodInHeld t = false ∧ P.eqGuardType P.depth t = false then
            (match op, eqKinds P fs.toList 0 with
              | .eql, some ks => some (.beqS ks false x' y')
              | .neq, some ks => some (.beqS ks true x' y')
              | _, _ => none)
          else none
        | _ => none
    | _, _, _ => none
  | .unOp op _ x => (compOpd x).map (.un op ·)
  | .convert s d x => match P.underlying s, P.underlying d, compOpd x with
    | some (.int _), some (.int k), some x => some (.cvi k x)
    | some .string, some .string, some x => some (.cvs x)
    | some .string, some (.slice e), some x => match P.underlying e with
      | some (.int .u8) => some (.sbs e x)
      | _ => none
    | some (.slice e), some .string, some x => match P.underlying e with
      | some (.int .u8) => some (.cvbs x)
      | _ => none
    | _, _, _ => none
  | .makeFunc (.func f) first caps => if first.size = 0 then (compOpds caps.toList).map (.mkfn f ·) else none
  | .makeSlice t l c => match P.underlying t with
    | some (.slice e) => match szOf P e, bytesOf P e, zeroOf P e, compOpd l, compOpd c with
      | some n, some by_, some z, some l, some c => match constCs z.cells.toList with
        | some zs => match toTcs zs with
          | some ts => if 0 < n then some (.mks e n by_ ts l c) else none
          | none => none
        | none => none
      | _, _, _, _, _ => none
    | _ => none
  | .slice t x lo hi none => match P.underlying t, compOpd x, compOpt lo, compOpt hi with
    | some .string, some x, some lo, some hi => some (.slS x lo hi)
    | some (.slice e), some x, some lo, some hi => match szOf P e with
      | some n => if 0 < n then some (.sls n x lo hi) else none
      | none => none
    | _, _, _, _ => none
  | .fieldAddr t x f => match P.underlying t, compOpd x with
    | some (.struct fs), some x => match fs[f]? with
      | some fd => match szOf P fd.type with
        | some n => if 0 < n then some (.fad fd.offset x) else none
        | none => none
      | none => none
    | _, _ => none
  | .field t x f => match P.underlying t, compOpd x with
    | some (.struct fs), some x => match fs[f]? with
      | some fd => match aggOf P fd.type, szOf P fd.type with
        | some a, some n => some (.fld a fd.offset n x)
        | _, _ => none
      | none => none
    | _, _ => none
  | .indexAddr t x j => match P.underlying t, compOpd x, compOpd j with
    | some (.slice e), some x, some j => match szOf P e with
      | some n => if 0 < n then some (.ixS n x j) else none
      | none => none
    | some (.array len e), some x, some j => match szOf P e with
      | some n => if 0 < n then some (.ixA len n x j) else none
      | none => none
    | _, _, _ => none
  | .index t x j => match P.underlying t, compOpd x, compOpd j with
    | some .string, some x, some j => some (.ixs x j)
    | some (.array len e), some x, some j => match aggOf P e, szOf P e with
      | some a, some n => some (.ixV a len n x j)
      | _, _ => none
    | _, _, _ => none
  | .extract x n => (compOpd x).map (.ext n ·)
  | .call { callee := .builtin .len, args := as, argTypes := ts } => match as.toList, ts.toList with
    | [x], [t] => match P.underlying t, compOpd x with
      | some .string, some x => some (.lenS x)
      | some (.slice _), some x => some (.lenL x)
      | some (.array n _), some _ => some (.lenc n)
      | _, _ => none
    | _, _ => none
  | .call { callee := .builtin .append, args := as, argTypes := ts } => match as.toList, ts.toList with
    | [x, y], [t, u] => match P.underlying t, compOpd x, compOpd y with
      | some (.slice e), some x, some y => match szOf P e, bytesOf P e, zeroOf P e with
        | some n, some by_, some z => if t = u ∧ 0 < n ∧ z.cells.size = n ∧ z.cells.all (·.oneCell') then some (.app e n by_ x y) else match P.underlying u, n, by_, z with
          | some .string, 1, 1, .int .u8 0 => some (.appS e x y)
          | _, _, _, _ => none
        | _, _, _ => none
      | _, _, _ => none
    | _, _ => none
  | .call { callee := .builtin .clear, args := as, argTypes := ts } => match as.toList, ts.toList with
    | [x], [t] => match P.underlying t, compOpd x with
      | some (.slice e), some x => match szOf P e, zeroOf P e with
        | some n, some z => if 0 < n ∧ z.cells.size = n ∧ z.cells.all (·.oneCell') then some (.clr n x) else none
        | _, _ => none
      | _, _ => none
    | _, _ => none
  | .call { callee := .builtin .min, args := as, .. } => (compOpds as.toList).map (.mm false ·)
  | .call { callee := .builtin .max, args := as, .. } => (compOpds as.toList).map (.mm true ·)
  | .call { callee := .value f, args := as, .. } => match f, compOpds as.toList with
    | .func f, some xs => if goodFn P f then (if draw then some (.callq f xs) else some (.call f xs)) else none
    | .tmp t, some xs => if draw then none else some (.callv (.tmp t) xs)
    | _, _ => none
  | .slice t x (some lo) (some hi) (some mx) => match P.underlying t, compOpd x, compOpd lo, compOpd hi, compOpd mx with
    | some (.slice e), some x', some lo', some hi', some mx' => match szOf P e with
      | some _ => some (.sl3 x' lo' hi' mx')
      | none => none
    | _, _, _, _, _ => none
  | .makeMap t none => if isIntMap P t then some .mkm else none
  | .lookup t x j ok => match mapElem P t, compOpd x, compOpd j with
    | some z, some x', some j' => if isIntMap P t then some (.mlk z ok x' j') else none
    | _, _, _ => none
  | .mapUpdate t m k x => match compOpd m, compOpd k, compOpd x with
    | some m', some k', some x' => if isIntMap P t then some (.mup m' k' x') else none
    | _, _, _ => none
  | _ => none
def compGuard (ops : Array Oper) : Option (Nat × Bool) → Option (Option (Nat × Bool))
  | none => some none
  | some (j, want) => match (ops[j]?).bind (·.dst) with
    | some t => some (some (t, want))
    | none => none
def dstOk (nt : Nat) : Option Tmp → Bool
  | none => true
  | some d => d < nt
def loadTmp (o : Oper) : Option Nat := match o.op with
  | .load _ (.tmp t) => some t
  | _ => none
def looseLoads (ops : Array Oper) (bef : Array Nat) (i : Nat) : List Nat := (List.range ops.size).filterMap fun j => match ops[j]? with
  | some o => match loadTmp o with
    | some t => if j == i || (bef.getD i 0).testBit j || (bef.getD j 0).testBit i then none else some t
    | none => none
  | none => none
def sitesOf (A : Ann) (rid i : Nat) : List Nat := (List.range 200).filter fun s => A.own rid (i + 1000 * (s + 3))
def wrapD (A : Ann) (rid : Nat) (ops : Array Oper) (i : Nat) (draw : Bool) (p : Po) : Po := if draw then (match p with
  | .store n a x => if A.own rid (i + 2000) then .storeS (sitesOf A rid i) n a x else match looseLoads ops (Region.before ops) i with
    | [] => .store n a x
    | zs => if A.own rid i then .storeR n a x else .storeD n a x zs
  | .load ag n x => if A.own rid (i + 2000) then .loadS (sitesOf A rid i) ag n x else if A.own rid i then .loadB ag n x else .load ag n x
  | .app t n b x y => if A.own rid (i + 2000) then .appU t n b x y else .app t n b x y
  | .call f xs => if A.own rid (i + 2000) then .call f xs else if A.own rid i && A.own rid (i + 1000) then .callK f xs else if A.own rid i then .callo f xs else .callR f xs
  | .bslT n xs => if A.own rid (i + 1000) then .bslF n xs else match looseLoads ops (Region.before ops) i with
    | [] => .bslT n xs
    | _ => .bslF n xs
  | p => p) else p
def compPop (P : Program) (A : Ann) (nt rid : Nat) (draw : Bool) (ops : Array Oper) (i : Nat) (o : Oper) : Option Pop :=
  match compPo P A rid i (draw && !A.own rid i && !A.own rid (i + 1000) && !A.own rid (i + 2000)) o, compGuard ops o.guard with
  | some p, some g => if dstOk nt o.dst then some ⟨o.dst, wrapD A rid ops i draw p, g⟩ else none
  | _, _ => none
def compOps (P : Program) (A : Ann) (nt rid : Nat) (draw : Bool) (ops : Array Oper) : Nat → List Oper → Option (List (Nat × Pop))
  | _, [] => some []
  | i, o :: r => match compPop P A nt rid draw ops i o, compOps P A nt rid draw ops (i + 1) r with
    | some p, some ps => some ((i, p) :: ps)
    | _, _ => none
def Opd.rd : Opd → List Nat
  | .tmp t => [t]
  | .c _ => []
def Opd.rdo : Option Opd → List Nat
  | some x => x.rd
  | none => []
def Po.rd : Po → List Nat
  | .mv x | .box _ _ x | .load _ _ x | .loadB _ _ x | .loadS _ _ _ x | .nchk x | .isnilI _ x | .isnilP _ x | .isnilS _ x | .un _ x | .cvi _ x | .cvs x | .cvbs x | .fad _ x | .fld _ _ _ x | .ext _ x | .lenL x | .lenS x | .clr _ x | .sbs _ x => x.rd
  | .nilv _ _ | .alloc _ _ | .lenc _ | .mkm => []
  | .pick c a b | .mup c a b => c.rd ++ a.rd ++ b.rd
  | .sl3 c a b d => c.rd ++ a.rd ++ b.rd ++ d.rd
  | .build _ ps => ps.flatMap fun p => p.2.2.rd
  | .bslT _ xs | .bslF _ xs | .bslO _ _ xs | .mkfn _ xs | .mm _ xs | .call _ xs | .callq _ xs | .callo _ xs | .callR _ xs | .callK _ xs => xs.flatMap (·.rd)
  | .store _ x y | .storeR _ x y | .storeS _ _ x y | .appU _ _ _ x y | .bin _ x y | .beq _ x y | .beqS _ _ x y | .mlk _ _ x y | .mks _ _ _ _ x y | .ixS _ x y | .ixA _ _ x y | .ixV _ _ _ x y | .ixs x y | .app _ _ _ x y | .appS _ x y => x.rd ++ y.rd
  | .slS x lo hi | .sls _ x lo hi => x.rd ++ Opd.rdo lo ++ Opd.rdo hi
  | .callv x xs => x.rd ++ xs.flatMap (·.rd)
  | .storeD _ x y zs => x.rd ++ y.rd ++ zs
def clsE : List Opd → Nat
  | [] => 2
  | _ :: _ => 3
def Po.cls : Po → Nat
  | .mv _ | .pick _ _ _ | .build _ _ | .nchk _ | .bin _ _ _ | .beq _ _ _ | .beqS _ _ _ _ | .isnilI _ _ | .isnilP _ _ | .isnilS _ _ | .un _ _ | .cvi _ _ | .cvs _ | .mkfn _ _ | .slS _ _ _ | .sls _ _ _ _ | .fad _ _ | .fld _ _ _ _ | .ixS _ _ _ | .ixA _ _ _ _ | .ixV _ _ _ _ _ | .ixs _ _ | .ext _ _ | .lenL _ | .lenS _ | .lenc _ | .mm _ _ | .sl3 _ _ _ _ => 0
  | .load _ _ _ | .loadB _ _ _ | .loadS _ _ _ _ => 1
  | .callq _ _ | .cvbs _ | .bslF _ _ => 4
  | .alloc _ _ | .mks _ _ _ _ _ _ => 2
  | .bslO _ _ xs => clsE xs
  | .callo _ _ => 8
  | .storeD _ _ _ _ | .storeR _ _ _ | .storeS _ _ _ _ | .appU _ _ _ _ _ => 5
  | .store _ _ _ => 6
  | _ => 3
def Pop.rd (p : Pop) : List Nat := (match p.g with | some (t, _) => [t] | none => []) ++ p.op.rd
def meets (a b : List Nat) : Bool := a.any b.contains
def rdr (c : Nat) : Bool := c == 1 || c == 4
def seen : Po → Po → Bool
  | .load _ _ (.tmp t), .storeD _ _ _ zs => zs.contains t
  | .loadB _ _ _, .storeR _ _ _ => true
  | .loadS ss _ _ _, .storeS ts _ _ _ => ss.all fun s => !ts.contains s
  | .loadB _ _ _, .appU _ _ _ _ _ => true
  | _, _ => false
def kept : Po → Po → Bool
  | .loadB _ _ _, .callR _ _ => true
  | _, _ => false
def stay : Po → Po → Bool
  | .load _ _ _, .callK _ _ => true
  | .loadB _ _ _, .callK _ _ => true
  | _, _ => false
def beside : Po → Po → Bool
  | .callo _ _, .loadB _ _ _ => true
  | .callo _ _, .bslF _ _ => true
  | .bslO _ _ [], .loadB _ _ _ => true
  | _, _ => false
def heapMay (lo : Bool) (p q : Po) : Bool := p.cls == 0 || q.cls == 0 || (rdr p.cls && rdr q.cls) || (rdr p.cls && (q.cls == 2 || q.cls == 8)) || (lo && ((p.cls == 2 || p.cls == 8) && (q.cls == 2 || q.cls == 8))) || seen p q || seen q p || kept p q || beside p q || stay p q || stay q p
def okL : Po → Bool
  | .appU _ _ _ _ _ => false
  | p => p.cls != 3
def free2 (lo : Bool) (p q : Pop) : Bool :=
  !(meets p.dst.toList (q.rd ++ q.dst.toList)) && !(meets q.dst.toList p.rd) && heapMay lo p.op q.op
def freeAll (lo : Bool) (bef : Array Nat) : List (Nat × Pop) → Bool
  | [] => true
  | (i, p) :: r => (r.all fun x => (bef.getD x.1 0).testBit i || free2 lo p x.2) && freeAll lo bef r
def edgesOk (ops : Array Oper) : Bool := (List.range ops.size).all fun i => match ops[i]? with
  | some o => o.after.all fun e => !(Region.binds .any e) || decide (e.on < i)
  | none => true
def befOk (ops : Array Oper) (bef : Array Nat) : Bool := (List.range ops.size).all fun i => match ops[i]? with
  | some o => (List.range ops.size).all fun j => !((bef.getD i 0).testBit j) || o.after.any fun e => Region.binds .any e && (e.on == j || (bef.getD e.on 0).testBit j)
  | none => true
def smallOk (ops : Array Oper) (bef : Array Nat) : Bool := bef.all fun b => decide (b < 2 ^ ops.size)
def drawOkB (ops : Array Oper) (ps : List (Nat × Pop)) (bef : Array Nat) : Bool := edgesOk ops && befOk ops bef && smallOk ops bef && (freeAll false bef ps || (freeAll true bef ps && ps.all fun q => okL q.2.op))
def drawOk (ops : Array Oper) (ps : List (Nat × Pop)) : Bool := drawOkB ops ps (Region.before ops)
def compC (P : Program) (A : Ann) (nt : Nat) : Code → Option Pc
  | .skip => some .skip
  | .region id ops draw => match compOps P A nt id draw ops 0 ops.toList with
    | some ps => if !draw || drawOk ops ps then some (.reg ps (A.kill id) (A.killH id)) else none
    | none => none
  | .seq a b => match compC P A nt a, compC P A nt b with
    | some x, some y => some (.seq x y)
    | _, _ => none
  | .cond c a b => match compOpd c, compC P A nt a, compC P A nt b with
    | some c, some x, some y => some (.cond c x y)
    | _, _, _ => none
  | .block id c => (compC P A nt c).map (.block id ·)
  | .loop c => (compC P A nt c).map .loop
  | .exit id => some (.exit id)
  | .ret => some .ret
  | _ => none
def compRes (P : Program) : List ResultVar → Option (List Pres)
  | [] => some []
  | .tmp t :: r => (compRes P r).map (.tmp t :: ·)
  | .cell x t :: r => match aggOf P t, szOf P t, compRes P r with
    | some a, some n, some rs => some (.cell x a n :: rs)
    | _, _, _ => none
def compF (P : Program) (A : Ann) (f : FuncId) : Option Pfn :=
  match P.funcs[f]? with
  | some fn => match fn.body with
    | some c => match compC P A fn.ntmps c, compRes P fn.results.toList with
      | some b, some rs => if fn.params.size + fn.nfree ≤ fn.ntmps then some ⟨fn.params.size + fn.nfree, fn.ntmps, rs, b⟩ else none
      | _, _ => none
    | none => none
  | none => none
end Go.Pev
namespace Go.Pev
open Go Go.RowKit
section
def ExecTo (P : Program) (o : Oper) (a : Act) (w : World) (v : Value) (w' : World) : Prop :=
  (execOp a.eval o).run P w = .ok (.value v) w' ∨ ((execOp a.eval o).run P w = .ok .skip w' ∧ v = undef)
theorem ExecTo.wp {P : Program} {o : Oper} {a : Act} {w w' : World} {v : Value} {next : Act → World → Prop} {Q : Exit → Act → World → Prop} (h : ExecTo P o a w v w') (hn : next (a.put o.dst v) w') : o.wp P a w next Q := by
  unfold Oper.wp
  rcases h with h | ⟨h, e⟩
  · rw [h]; exact hn
  · rw [h]; subst e; exact hn
def Out (P : Program) (o : Oper) (a : Act) (R : Rl) (w : World) (hp : HP) (dn : Nat → Prop) (me : Nat) (r : V) (hp' : HP) (ck' : Nat) : Prop :=
  ∀ (next : Act → World → Prop) (Q : Exit → Act → World → Prop), (∀ v w' R', RepV R' w' v r → Grow R w hp R' w' hp' → HInv R' w' hp' ck' (plus dn me) → next (a.put o.dst v) w') → o.wp P a w next Q
theorem Out.of {P : Program} {o : Oper} {a : Act} {R : Rl} {w : World} {hp hp' : HP} {dn : Nat → Prop} {me ck' : Nat} {r : V} (v : Value) (w' : World) (R' : Rl) (h1 : ExecTo P o a w v w') (h2 : RepV R' w' v r) (h3 : Grow R w hp R' w' hp') (h4 : HInv R' w' hp' ck' (plus dn me)) :
    Out P o a R w hp dn me r hp' ck' := fun next Q hn => h1.wp (hn v w' R' h2 h3 h4)
theorem Out.pure {P : Program} {o : Oper} {a : Act} {R : Rl} {w : World} {hp : HP} {dn : Nat → Prop} {me ck : Nat} {r : V} (hi : HInv R w hp ck dn) (v : Value) (h1 : (execOp a.eval o).run P w = .ok (.value v) w) (h2 : RepV R w v r) :
    Out P o a R w hp dn me r hp ck := Out.of v w R (.inl h1) h2 (Grow.refl _ _ _) (hi.plus me)
section
variable {R : Rl} {w : World} {v : Value}
theorem repV_i {k : IntKind} {n : Int} (h : RepV R w v (.t (.i k n))) : v = .int k n := by cases h with | t h => cases h; rfl
theorem repV_b {b : Bool} (h : RepV R w v (.t (.b b))) : v = .bool b := by cases h with | t h => cases h; rfl
theorem repV_s {s : List UInt8} (h : RepV R w v (.t (.s s))) : ∃ x : ByteArray, v = .string x ∧ x.data.toList = s := by cases h with | t h => cases h with | s x y h => exact ⟨x, rfl, h⟩
theorem repV_ud (h : RepV R w v .ud) : v = undef := by cases h; rfl
theorem repV_isInt {x : V} {n : Int} (h : RepV R w v x) (hx : isInt x = some n) : ∃ k, v = .int k n := by
  cases x with
  | t x => cases x with
    | i k m => simp [isInt] at hx; subst hx; exact ⟨k, repV_i h⟩
    | _ => simp [isInt] at hx
  | _ => simp [isInt] at hx
theorem constC_rep {c : Value} {x : V} (h : constC c = some x) : RepV R w c x ∧ c.oneCell' = true := by
  unfold constC at h
  split at h <;> first
    | (simp at h; subst h; refine ⟨?_, rfl⟩; first | exact .t (.b _) | exact .t (.i _ _) | exact .t (.s _ _ rfl) | exact .nl | exact .t .np | exact .t .ni)
    | (simp at h)
theorem constCs_rep : ∀ (cs : List Value) (xs : List V), constCs cs = some xs → cs.length = xs.length ∧ ∀ j v, xs[j]? = some v → RepV R w (cs.getD j undef) v ∧ (cs.getD j undef).oneCell' = true
  | [], xs, h => by simp [constCs] at h; subst h; simp
  | c :: r, xs, h => by
    simp only [constCs] at h
    cases h1 : constC c with
    | none => simp [h1] at h
    | some x =>
      cases h2 : constCs r with
      | none => simp [h1, h2] at h
      | some ys =>
        simp [h1, h2] at h
        subst h
        obtain ⟨hl, hr⟩ := constCs_rep r ys h2
        refine ⟨by simp [hl], fun j v hj => ?_⟩
        cases j with
        | zero => simp at hj; subst hj; simpa using constC_rep h1
        | succ j => simp at hj; simpa using hr j v hj
theorem arr_getD (arr : Array Value) (j : Nat) (d : Value) : arr.toList.getD j d = arr.getD j d := by simp [List.getD_eq_getElem?_getD, Array.getD_eq_getD_getElem?]
theorem constV_rep {c : Value} {x : V} (h : constV c = some x) : RepV R w c x := by
  unfold constV at h
  split at h
  · rename_i cs
    cases h1 : constCs cs.toList with
    | none => simp [h1] at h
    | some xs =>
      simp [h1] at h
      subst h
      obtain ⟨hl, hr⟩ := constCs_rep (R := R) (w := w) cs.toList xs h1
      have hl' : cs.size = xs.length := by simpa using hl
      refine .ag cs xs hl' (fun j hj => ?_) (fun j v hv => ?_)
      · have := (hr j _ (List.getElem?_eq_getElem (by omega))).2
        rwa [arr_getD] at this
      · have := (hr j v hv).1
        rwa [arr_getD] at this
  · exact (constC_rep h).1
end
def EnvRep (R : Rl) (w : World) (a : Act) (e : Env) : Prop := ∀ t, RepV R w (a.tmps.getD t undef) (e.get t)
theorem opd_rep {R : Rl} {w : World} {a : Act} {e : Env} (he : EnvRep R w a e) {x : Operand} {y : Opd} (h : compOpd x = some y) : RepV R w (a.eval x) (y.ev e) := by
  cases x with
  | tmp t => simp [compOpd] at h; subst h; exact he t
  | const v =>
    simp only [compOpd] at h
    cases h1 : constV v with
    | none => simp [h1] at h
    | some z => simp [h1] at h; subst h; exact constV_rep h1
  | func f => simp [compOpd] at h; subst h; exact .fn f #[] [] rfl (by simp)
  | global g => simp [compOpd] at h
theorem opds_rep {R : Rl} {w : World} {a : Act} {e : Env} (he : EnvRep R w a e) : ∀ (xs : List Operand) (ys : List Opd), compOpds xs = some ys → (xs.map a.eval).length = (ys.map (·.ev e)).length ∧ ∀ j v, (ys.map (·.ev e))[j]? = some v → RepV R w ((xs.map a.eval).getD j undef) v
  | [], ys, h => by simp [compOpds] at h; subst h; simp
  | x :: r, ys, h => by
    simp only [compOpds] at h
    cases h1 : compOpd x with
    | none => simp [h1] at h
    | some y =>
      cases h2 : compOpds r with
      | none => simp [h1, h2] at h
      | some zs =>
        simp [h1, h2] at h
        subst h
        obtain ⟨hl, hr⟩ := opds_rep he r zs h2
        refine ⟨by simpa using hl, fun j v hj => ?_⟩
        cases j with
        | zero => simp at hj; subst hj; simpa using opd_rep he h1
        | succ j => simp only [List.map_cons, List.getElem?_cons_succ] at hj; simpa using hr j v hj
section
variable {P : Program} {o : Oper} {a : Act} {R : Rl} {w : World} {hp : HP} {dn : Nat → Prop} {me ck : Nat} {e : Env}
theorem mv_out (hi : HInv R w hp ck dn) (he : EnvRep R w a e) {x : Operand} {y : Opd} (ho : o.op = .move x ∨ o.op = .assign x) (hx : compOpd x = some y) : Out P o a R w hp dn me (y.ev e) hp ck := by
  refine Out.pure hi (a.eval x) ?_ (opd_rep he hx)
  rcases ho with ho | ho <;> simp [execOp, ho]
theorem pick_out (hi : HInv R w hp ck dn) (he : EnvRep R w a e) {c x y : Operand} {c' x' y' : Opd} (ho : o.op = .pick c x y) (hc : compOpd c = some c') (hx : compOpd x = some x') (hy : compOpd y = some y') {r : V} (hr : pick (c'.ev e) (x'.ev e) (y'.ev e) = some r) : Out P o a R w hp dn me r hp ck := by
  have rc := opd_rep he hc
  have rx := opd_rep he hx
  have ry := opd_rep he hy
  unfold pick at hr
  split at hr
  · rename_i h1
    rw [h1] at rc
    simp at hr
    subst hr
    refine Out.pure hi (a.eval x) ?_ rx
    simp [execOp, ho, repV_b rc, asBool]
  · rename_i h1
    rw [h1] at rc
    simp at hr
    subst hr
    refine Out.pure hi (a.eval y) ?_ ry
    simp [execOp, ho, repV_b rc, asBool]
  · simp at hr
theorem toList_loop (x : ByteArray) : ∀ (d i : Nat) (r : List UInt8), x.size - i = d → ByteArray.toList.loop x i r = r.reverse ++ x.data.toList.drop i
  | 0, i, r, h => by
    unfold ByteArray.toList.loop
    rw [if_neg (by omega), List.drop_of_length_le (by rw [Array.length_toList]; exact Nat.le_of_sub_eq_zero h)]
    simp
  | d + 1, i, r, h => by
    unfold ByteArray.toList.loop
    have hi : i < x.size := by omega
    have hi' : i < x.data.toList.length := by rw [Array.length_toList]; exact hi
    rw [if_pos hi, toList_loop x d (i + 1) _ (by omega), List.drop_eq_getElem_cons hi']
    have : x.get! i = x.data.toList[i] := by
      show x.data[i]! = _
      rw [getElem!_pos x.data i hi]
      simp
    simp [this]
theorem toList_eq (x : ByteArray) : x.toList = x.data.toList := by
  unfold ByteArray.toList
  rw [toList_loop x x.size 0 [] (by omega)]
  simp
theorem bytesLess_eq : ∀ x y, Op.bytesLess x y = bytesLess x y
  | _, [] => by cases ‹List UInt8› <;> simp [Op.bytesLess, bytesLess]
  | [], _ :: _ => by simp [Op.bytesLess, bytesLess]
  | a :: x, b :: y => by simp [Op.bytesLess, bytesLess, bytesLess_eq x y]
theorem bin_run {op : BinOp} {t : TypeId} {x y : V} {u v : Value} (hu : RepV R w u x) (hv : RepV R w v y) {r : V} (hr : bin op x y = some r) (xo yo : Operand) :
    ∃ z, (do eqGuard op t xo yo u v; binOp op t u v : Sem Value).run P w = .ok z w ∧ RepV R w z r := by
  unfold bin at hr
  split at hr
  · rename_i k m k' n
    have := repV_i hu
    have := repV_i hv
    subst u v
    by_cases hs : isShift op = true
    · rw [if_pos hs] at hr
      unfold shiftI at hr
      by_cases hn : n < 0
      · simp [hn] at hr
      · rw [if_neg hn] at hr
        cases op <;> simp [isShift] at hs <;> simp at hr <;> subst hr <;> refine ⟨_, ?_, .t (.i _ _)⟩ <;> simp [eqGuard, binOp, Op.shift, hn]
    · rw [if_neg hs] at hr
      by_cases hk : k = k'
      · subst hk
        rw [if_pos rfl] at hr
        cases op <;> simp [isShift] at hs <;> simp only [binI] at hr <;> first
          | (simp at hr; subst hr; refine ⟨_, ?_, .t (.i _ _)⟩; simp [eqGuard, binOp, Op.intArith, Op.intBits]; done)
          | (simp at hr; subst hr; refine ⟨_, ?_, .t (.b _)⟩; simp [eqGuard, binOp, Op.intCmp]; done)
          | (by_cases hn : n = 0
             · simp [hn] at hr
             · rw [if_neg hn] at hr
               simp at hr; subst hr; refine ⟨_, ?_, .t (.i _ _)⟩; simp [eqGuard, binOp, Op.intDiv, hn])
      · rw [if_neg hk] at hr
        cases hr
  · rename_i s s'
    obtain ⟨x1, rfl, h1⟩ := repV_s hu
    obtain ⟨x2, rfl, h2⟩ := repV_s hv
    have e1 : x1.toList = s := (toList_eq x1).trans h1
    have e2 : x2.toList = s' := (toList_eq x2).trans h2
    have l1 : x1.size = s.length := by rw [← h1, Array.length_toList]; rfl
    have l2 : x2.size = s'.length := by rw [← h2, Array.length_toList]; rfl
    cases op <;> simp only [binS] at hr <;> first
      | (cases hr; done)
      | (simp at hr; subst hr; refine ⟨_, ?_, .t (.b _)⟩; simp [eqGuard, binOp, Op.stringOp, e1, e2, bytesLess_eq]; done)
      | (by_cases hn : (s.length : Int) + s'.length > i64max
         · simp [hn] at hr
         · rw [if_neg hn] at hr
           simp at hr
           subst hr
           have hn' : ¬ ((x1.size : Int) + (x2.size : Int) > IntKind.i64.max) := by rw [l1, l2]; exact hn
           refine ⟨.string (x1 ++ x2), ?_, .t (.s _ _ ?_)⟩
           · have hn2 : ¬ (IntKind.i64.max < (x1.size : Int) + (x2.size : Int)) := hn'
             have hn3 : (x1.size : Int) + (x2.size : Int) ≤ 9223372036854775807 := by rw [l1, l2]; unfold i64max at hn; omega
             simp [eqGuard, binOp, Op.stringOp, hn2, hn3]
           · rw [← h1, ← h2]; simp)
  · cases hr
theorem bin_out (hi : HInv R w hp ck dn) (he : EnvRep R w a e) {op : BinOp} {t u : TypeId} {d : TypeDesc} {x y : Operand} {x' y' : Opd} (ho : o.op = .binOp op t x y u) (hd : P.underlying t = some d) (hok : (match d with | .int _ => true | .string => true | _ => false) = true)
    (hx : compOpd x = some x') (hy : compOpd y = some y') {r : V} (hr : bin op (x'.ev e) (y'.ev e) = some r) : Out P o a R w hp dn me r hp ck := by
  obtain ⟨z, h1, h2⟩ := bin_run (P := P) (opd_rep he hx) (opd_rep he hy) hr (t := t) x y
  exact Out.pure hi z (by simp only [execOp, ho]; rw [Sem.run_bind, h1]; rfl) h2
theorem equal_bool {t : TypeId} (hd : P.underlying t = some .bool) (x y : Bool) : (Op.equal t (.bool x) (.bool y)).run P w = .ok (x == y) w := by
  have : Op.equal t (.bool x) (.bool y) = Op.equalIn (9999 + 1) t (.bool x) (.bool y) := rfl
  rw [this]
  generalize 9999 = n
  simp [Op.equalIn, run_underlying hd]
theorem beq_out (hi : HInv R w hp ck dn) (he : EnvRep R w a e) {neg : Bool} {t u : TypeId} {x y : Operand} {x' y' : Opd} (ho : o.op = .binOp (if neg then .neq else .eql) t x y u) (hd : P.underlying t = some .bool)
    (hx : compOpd x = some x') (hy : compOpd y = some y') {r : V} (hr : beq neg (x'.ev e) (y'.ev e) = some r) : Out P o a R w hp dn me r hp ck := by
  have rx := opd_rep he hx
  have ry := opd_rep he hy
  unfold beq at hr
  split at hr
  · rename_i b b' h1 h2
    rw [h1] at rx
    rw [h2] at ry
    cases hr
    refine Out.pure hi (.bool (if neg then !(b == b') else b == b')) ?_ (.t (.b _))
    cases neg <;> simp [execOp, ho, repV_b rx, repV_b ry, eqGuard, binOp, equal_bool hd]
  · cases hr
end
end
section
theorem addr_add (g o j : Nat) : (⟨g, o, none⟩ : Addr).add j = ⟨g, o + j, none⟩ := by unfold Addr.add; split <;> simp_all
theorem run_szOf {P : Program} {t : TypeId} {n : Nat} (h : szOf P t = some n) (w : World) : (sizeOf t).run P w = .ok n w := by
  unfold szOf at h
  cases hi : P.info? t with
  | none => simp [hi] at h
  | some i => simp [hi] at h; subst h; simp [sizeOf, typeInfo, hi]
theorem run_aggOf {P : Program} {t : TypeId} {b : Bool} (h : aggOf P t = some b) (w : World) : (isAgg t).run P w = .ok b w := by
  unfold aggOf at h
  cases hi : P.underlying t with
  | none => simp [hi] at h
  | some d =>
    simp [hi] at h
    subst h
    unfold isAgg
    rw [Sem.run_bind, run_underlying hi]
    cases d <;> rfl
theorem run_zeroOf {P : Program} {t : TypeId} {z : Value} (h : zeroOf P t = some z) (w : World) : (zeroValue t).run P w = .ok z w := by
  unfold zeroOf at h
  cases hi : P.info? t with
  | none => simp [hi] at h
  | some i => simp [hi] at h; simp [zeroValue, typeInfo, hi, h]
theorem run_bytesOf {P : Program} {t : TypeId} {n : Nat} (h : bytesOf P t = some n) : ∃ i, P.info? t = some i ∧ i.bytes = n := by
  unfold bytesOf at h
  cases hi : P.info? t with
  | none => simp [hi] at h
  | some i => simp [hi] at h; exact ⟨i, rfl, h⟩
def Reads (R : Rl) (w : World) (g o : Nat) (cs : List V) : Prop := ∀ j v, cs[j]? = some v → ∃ u, w.cell? ⟨g, o + j, none⟩ = some u ∧ RepV R w u v ∧ u.oneCell' = true
theorem Reads.drop {R w g o cs} (h : Reads R w g o cs) (n : Nat) : Reads R w g (o + n) (cs.drop n) := by
  intro j v hv
  rw [List.getElem?_drop] at hv
  have := h (n + j) v hv
  rwa [← Nat.add_assoc] at this
theorem oneCell_repT {S : Nat → Prop} {w : World} {u : Value} {t : T} (h : RepT S w u t) : u.oneCell' = true := by cases h <;> rfl
theorem reads_trees {R : Rl} {w : World} {g o : Nat} {cs : List T} {f : Nat → Value} (hcell : ∀ j t, cs[j]? = some t → w.cell? ⟨g, o + j, none⟩ = some (f j)) (hrep : ∀ j t, cs[j]? = some t → RepT R.S w (f j) t) : Reads R w g o (cs.map .t) := by
  intro j v hv
  rw [List.getElem?_map] at hv
  cases h : cs[j]? with
  | none => simp [h] at hv
  | some t =>
    simp [h] at hv
    subst hv
    exact ⟨f j, hcell j t h, .t (hrep j t h), oneCell_repT (hrep j t h)⟩
theorem load_run {P : Program} {R : Rl} {w : World} {g o : Nat} {cs : List V} (h : Reads R w g o cs) {t : TypeId} {agg : Bool} {n : Nat} (ha : aggOf P t = some agg) (hn : szOf P t = some n) {r : V} (hr : loadOf agg n cs = some r) :
    ∃ z, (loadVar t ⟨g, o, none⟩).run P w = .ok z w ∧ RepV R w z r := by
  unfold loadOf at hr
  cases agg with
  | true =>
    simp only [if_true] at hr
    by_cases hl : (cs.take n).length = n
    · rw [if_pos hl] at hr
      cases hr
      have hle : n ≤ cs.length := by simp at hl; omega
      have hf : ∀ j, j < n → ∃ u, w.cell? ⟨g, o + j, none⟩ = some u ∧ RepV R w u (cs.getD j .un) ∧ u.oneCell' = true := by
        intro j hj
        have h1 : cs[j]? = some (cs.getD j .un) := by rw [List.getD_eq_getElem?_getD, List.getElem?_eq_getElem (by omega)]; rfl
        exact h j _ h1
      have hf2 : ∃ f : Nat → Value, ∀ j, j < n → w.cell? ⟨g, o + j, none⟩ = some (f j) ∧ RepV R w (f j) (cs.getD j .un) ∧ (f j).oneCell' = true := by
        refine ⟨fun j => (w.cell? ⟨g, o + j, none⟩).getD undef, fun j hj => ?_⟩
        obtain ⟨u, h1, h2, h3⟩ := hf j hj
        refine ⟨?_, ?_, ?_⟩ <;> simp only [h1, Option.getD_some] <;> assumption
      obtain ⟨f, hf⟩ := hf2
      have hrun := run_loadCells (P := P) w ⟨g, o, none⟩ n f (fun j hj => by rw [addr_add]; exact (hf j hj).1)
      refine ⟨.agg ((List.range n).map f).toArray, ?_, ?_⟩
      · simp [loadVar, run_aggOf ha, run_szOf hn, hrun]
      · refine .ag _ _ (by simp; omega) (fun j hj => ?_) (fun j v hv => ?_)
        · simp at hj
          simp [hj]
          exact (hf j hj).2.2
        · rw [List.getElem?_take] at hv
          by_cases hj : j < n
          · rw [if_pos hj] at hv
            simp [hj]
            have := (hf j hj).2.1
            rw [List.getD_eq_getElem?_getD, hv] at this
            exact this
          · rw [if_neg hj] at hv
            cases hv
    · rw [if_neg hl] at hr
      cases hr
  | false =>
    simp only [Bool.false_eq_true, if_false] at hr
    cases cs with
    | nil => simp at hr
    | cons v r' =>
      simp at hr
      subst hr
      obtain ⟨u, h1, h2, _⟩ := h 0 v rfl
      refine ⟨u, ?_, h2⟩
      rw [Nat.add_zero] at h1
      simp [loadVar, run_aggOf ha, h1]
theorem getD_of_getElem? {arr : Array Value} {j : Nat} (hj : j < arr.size) : arr[j]? = some (arr.getD j undef) := by
  rw [Array.getD_eq_getD_getElem?, Array.getElem?_eq_getElem hj]; rfl
theorem RowAt.cell {w : World} {g : Nat} {arr : Array Value} {ty : TypeId} (h : RowAt w g arr ty) {j : Nat} : w.cell? ⟨g, j, none⟩ = arr[j]? := by
  obtain ⟨mk, h1, _⟩ := h
  exact cell_of_row w g j arr ty mk h1
theorem box_reads {R : Rl} {w : World} {k : Key} {ty : Nat} {cs : List V} (h : ObRel R w k (.box ty cs)) : ∃ g n, R.μ k = some (some (g, n)) ∧ Reads R w g 0 cs := by
  obtain ⟨g, n, arr, h1, h2, h3, h4, h5⟩ := h
  refine ⟨g, n, h1, fun j v hv => ?_⟩
  have hj : j < arr.size := by rw [h3]; exact (List.getElem?_eq_some_iff.1 hv).1
  refine ⟨arr.getD j undef, ?_, h5 j v hv, h4 j hj⟩
  rw [Nat.zero_add, cell_of_row w g j arr ty (0, 0) h2]
  exact getD_of_getElem? hj
theorem at2_some {xs : List (List T)} {i j : Nat} {c : List T} {t : T} (h1 : xs[i]? = some c) (h2 : c[j]? = some t) : at2 xs i j = some t := by simp [at2, h1, h2]
theorem at2_elim {xs : List (List T)} {i j : Nat} {t : T} (h : at2 xs i j = some t) : ∃ c, xs[i]? = some c ∧ c[j]? = some t := by
  unfold at2 at h
  cases h1 : xs[i]? with
  | none => simp [h1] at h
  | some c => simp [h1] at h; exact ⟨c, rfl, h⟩
theorem mul_lt {i n j sz : Nat} (hi : i < n) (hj : j < sz) : i * sz + j < n * sz := by
  have : (i + 1) * sz ≤ n * sz := Nat.mul_le_mul_right _ hi
  rw [Nat.add_mul] at this
  omega
theorem row_reads {R : Rl} {w : World} {k : Key} {ty sz : Nat} {els : List (List T)} {fz : Bool} (h : ObRel R w k (.row ty sz els fz)) {i : Nat} {c : List T} (hc : els[i]? = some c) : ∃ g n, R.μ k = some (some (g, n)) ∧ Reads R w g (i * sz) (c.map .t) := by
  have hi := (List.getElem?_eq_some_iff.1 hc).1
  rcases h with ⟨_, h⟩ | ⟨g, tot, arr, h1, h2, h3, h4, h5, h6, h7, h8, h9⟩
  · subst h; simp at hi
  · refine ⟨g, tot, h1, ?_⟩
    have hsz := h6 c (List.mem_of_getElem? hc)
    refine reads_trees (f := fun j => arr.getD (i * sz + j) undef) (fun j t ht => ?_) (fun j t ht => h8 i j t (at2_some hc ht))
    have hj := (List.getElem?_eq_some_iff.1 ht).1
    rw [h2.cell]
    refine getD_of_getElem? ?_
    rw [h3]
    exact mul_lt (by omega) (by omega)
theorem load_rep {P : Program} {R : Rl} {w : World} {hp : HP} {ck : Nat} {dn : Nat → Prop} (hi : HInv R w hp ck dn) {u : Value} {x : V} (hx : RepV R w u x) {t : TypeId} {agg : Bool} {n : Nat} (ha : aggOf P t = some agg) (hn : szOf P t = some n) {r : V} (hr : load hp agg n x = some r) :
    ∃ z, (Instr.loadAt t u).run P w = .ok z w ∧ RepV R w z r := by
  unfold load at hr
  split at hr
  · rename_i k sz i j
    cases hx with
    | pt _ _ _ _ g n' hμ =>
      split at hr
      · rename_i ty cs hk
        by_cases hi0 : i = 0
        · rw [if_pos hi0] at hr
          subst hi0
          obtain ⟨g', n2, h1, h2⟩ := box_reads (hi.ob _ _ hk)
          rw [h1] at hμ
          cases hμ
          obtain ⟨z, h3, h4⟩ := load_run (h2.drop j) ha hn hr
          refine ⟨z, ?_, h4⟩
          simpa [Instr.loadAt, Instr.sureAddr] using h3
        · rw [if_neg hi0] at hr
          cases hr
      · rename_i ty sz' els fz hk
        by_cases hs : sz' = sz
        · rw [if_pos hs] at hr
          subst hs
          split at hr
          · rename_i c hc
            obtain ⟨g', n2, h1, h2⟩ := row_reads (hi.ob _ _ hk) hc
            rw [h1] at hμ
            cases hμ
            rw [List.map_drop] at hr
            obtain ⟨z, h3, h4⟩ := load_run (h2.drop j) ha hn hr
            exact ⟨z, by simpa [Instr.loadAt, Instr.sureAddr] using h3, h4⟩
          · cases hr
        · rw [if_neg hs] at hr
          cases hr
      · cases hr
  · rename_i cs
    cases hx with
    | pr g o _ f hB hcell hrep =>
      obtain ⟨z, h3, h4⟩ := load_run (reads_trees hcell hrep) ha hn hr
      exact ⟨z, by simpa [Instr.loadAt, Instr.sureAddr] using h3, h4⟩
  · cases hr
theorem repT_l {S : Nat → Prop} {w : World} {v : Value} {xs : List (List T)} (h : RepT S w v (.l xs)) (sz : Nat) (hsz : ∀ c ∈ xs, c.length = sz) :
    ∃ (A : Option Addr) (c g o : Nat) (f : Nat → Nat → Value), v = .slice A xs.length c ∧ xs.length ≤ c ∧ (0 < xs.length → A = some ⟨g, o, none⟩) ∧ (0 < xs.length → S g) ∧ (∀ i j t, at2 xs i j = some t → w.cell? ⟨g, o + (i * sz + j), none⟩ = some (f i j)) ∧ (∀ i j t, at2 xs i j = some t → RepT S w (f i j) t) := by
  cases h with
  | l A n c _ sz' g o f hl hc hA hS hsz' hcell hrep =>
    subst hl
    refine ⟨A, c, g, o, f, rfl, hc, hA, hS, fun i j t ht => ?_, hrep⟩
    obtain ⟨cc, h1, h2⟩ := at2_elim ht
    have hm := List.mem_of_getElem? h1
    have : sz' = sz := (hsz' cc hm).symm.trans (hsz cc hm)
    subst this
    exact hcell i j t ht
theorem repT_l0 {S : Nat → Prop} {w : World} {v : Value} {xs : List (List T)} (h : RepT S w v (.l xs)) :
    ∃ (A : Option Addr) (c sz g o : Nat) (f : Nat → Nat → Value), v = .slice A xs.length c ∧ xs.length ≤ c ∧ (∀ c ∈ xs, c.length = sz) ∧ (0 < xs.length → A = some ⟨g, o, none⟩) ∧ (0 < xs.length → S g) ∧ (∀ i j t, at2 xs i j = some t → w.cell? ⟨g, o + (i * sz + j), none⟩ = some (f i j)) ∧ (∀ i j t, at2 xs i j = some t → RepT S w (f i j) t) := by
  cases h with
  | l A n c _ sz' g o f hl hc hA hS hsz' hcell hrep =>
    subst hl
    exact ⟨A, c, sz', g, o, f, rfl, hc, hsz', hA, hS, hcell, hrep⟩
theorem repV_tl {R : Rl} {w : World} {v : Value} {x : T} (h : RepV R w v (.t x)) : RepT R.S w v x := by cases h; assumption
theorem repV_ow {R : Rl} {w : World} {v : Value} {k : Key} {sz off len : Nat} (h : RepV R w v (.ow k sz off len)) :
    (∃ g tot A cap, v = .slice A len cap ∧ R.μ k = some (some (g, tot)) ∧ len ≤ cap ∧ off + cap = tot ∧ (0 < cap → A = some ⟨g, off * sz, none⟩)) ∨ (v = .slice none 0 0 ∧ R.μ k = some none ∧ off = 0 ∧ len = 0) := by
  cases h with
  | ow _ _ _ _ g tot A cap hμ hl hc hA => exact .inl ⟨g, tot, A, cap, rfl, hμ, hl, hc, hA⟩
  | owv _ _ hμ => exact .inr ⟨rfl, hμ, rfl, rfl⟩
section
variable {P : Program} {o : Oper} {a : Act} {R : Rl} {w : World} {hp : HP} {dn : Nat → Prop} {me ck : Nat} {e : Env}
theorem load_out (hi : HInv R w hp ck dn) (he : EnvRep R w a e) {t : TypeId} {x : Operand} {x' : Opd} (ho : o.op = .load t x) {agg : Bool} {n : Nat} (ha : aggOf P t = some agg) (hn : szOf P t = some n) (hx : compOpd x = some x') {r : V} (hr : load hp agg n (x'.ev e) = some r) :
    Out P o a R w hp dn me r hp ck := by
  obtain ⟨z, h1, h2⟩ := load_rep hi (opd_rep he hx) ha hn hr
  exact Out.pure hi z (by simp only [execOp, ho]; rw [Sem.run_bind, h1]; rfl) h2
theorem nchk_out (hi : HInv R w hp ck dn) (he : EnvRep R w a e) {x : Operand} {x' : Opd} (ho : o.op = .nilCheck x) (hx : compOpd x = some x') {r : V} (hr : (∃ k sz i j, x'.ev e = .pt k sz i j ∧ r = .pt k sz i j) ∨ (∃ cs, x'.ev e = .pr cs ∧ r = .pr cs)) :
    Out P o a R w hp dn me r hp ck := by
  have rx := opd_rep he hx
  refine Out.pure hi (a.eval x) ?_ ?_
  · rcases hr with ⟨k, sz, i, j, h1, rfl⟩ | ⟨cs, h1, rfl⟩
    · rw [h1] at rx
      cases hv : a.eval x <;> rw [hv] at rx <;> cases rx
      simp [execOp, ho, hv]
    · rw [h1] at rx
      cases hv : a.eval x <;> rw [hv] at rx <;> cases rx
      simp [execOp, ho, hv]
  · rcases hr with ⟨k, sz, i, j, h1, rfl⟩ | ⟨cs, h1, rfl⟩ <;> rw [← h1] <;> exact rx
theorem un_out (hi : HInv R w hp ck dn) (he : EnvRep R w a e) {op : UnOp} {t : TypeId} {x : Operand} {x' : Opd} (ho : o.op = .unOp op t x) (hx : compOpd x = some x') {r : V} (hr : un op (x'.ev e) = some r) :
    Out P o a R w hp dn me r hp ck := by
  have rx := opd_rep he hx
  unfold un at hr
  split at hr
  · rename_i k n h1
    rw [h1] at rx
    cases op with
    | neg =>
      cases hr
      exact Out.pure hi (.int k (k.wrap (0 - n))) (by simp [execOp, ho, repV_i rx, Op.unary, Op.intArith]) (.t (.i _ _))
    | xor =>
      cases hr
      exact Out.pure hi _ (by simp only [execOp, ho, repV_i rx, Op.unary, Op.intBits]; rfl) (.t (.i _ _))
    | not => cases hr
    | plus => cases hr
  · rename_i b h1
    rw [h1] at rx
    cases op <;> simp at hr
    subst hr
    exact Out.pure hi (.bool (!b)) (by simp [execOp, ho, repV_b rx, Op.unary]) (.t (.b _))
  · cases hr
theorem cvi_out (hi : HInv R w hp ck dn) (he : EnvRep R w a e) {s d : TypeId} {k : IntKind} {q : IntKind} {x : Operand} {x' : Opd} (ho : o.op = .convert s d x) (hs : P.underlying s = some (.int q)) (hd : P.underlying d = some (.int k)) (hx : compOpd x = some x') {r : V} (hr : cvi k (x'.ev e) = some r) :
    Out P o a R w hp dn me r hp ck := by
  have rx := opd_rep he hx
  unfold cvi at hr
  split at hr
  · rename_i k' n h1
    rw [h1] at rx
    cases hr
    exact Out.pure hi (.int k (k.wrap n)) (by simp [execOp, ho, repV_i rx, convert, run_underlying hs, run_underlying hd, Conv.intToInt]) (.t (.i _ _))
  · cases hr
theorem cvs_out (hi : HInv R w hp ck dn) (he : EnvRep R w a e) {s d : TypeId} {x : Operand} {x' : Opd} (ho : o.op = .convert s d x) (hs : P.underlying s = some .string) (hd : P.underlying d = some .string) (hx : compOpd x = some x') {y : List UInt8} (hr : x'.ev e = .t (.s y)) :
    Out P o a R w hp dn me (.t (.s y)) hp ck := by
  have rx := opd_rep he hx
  rw [hr] at rx
  obtain ⟨z, h1, h2⟩ := repV_s rx
  exact Out.pure hi (.string z) (by simp [execOp, ho, h1, convert, run_underlying hs, run_underlying hd]) (.t (.s _ _ h2))
theorem mkfn_out (hi : HInv R w hp ck dn) (he : EnvRep R w a e) {f : FuncId} {first caps : Array Operand} {caps' : List Opd} (ho : o.op = .makeFunc (.func f) first caps) (hf : first.size = 0) (hc : compOpds caps.toList = some caps') :
    Out P o a R w hp dn me (.fn f (caps'.map (·.ev e))) hp ck := by
  have hf' : first = #[] := Array.eq_empty_of_size_eq_zero hf
  obtain ⟨h1, h2⟩ := opds_rep he _ _ hc
  refine Out.pure hi (.func (.func f) #[] (caps.map a.eval)) (by simp [execOp, ho, hf', Instr.makeFunc]) (.fn f _ _ (by simpa using h1) (fun j v hv => ?_))
  have := h2 j v hv
  rw [← Array.toList_map, arr_getD] at this
  exact this
theorem ext_out (hi : HInv R w hp ck dn) (he : EnvRep R w a e) {n : Nat} {x : Operand} {x' : Opd} (ho : o.op = .extract x n) (hx : compOpd x = some x') {r : V} (hr : ext n (x'.ev e) = some r) :
    Out P o a R w hp dn me r hp ck := by
  have rx := opd_rep he hx
  unfold ext at hr
  split at hr
  · rename_i vs h1
    rw [h1] at rx
    cases hv : a.eval x <;> rw [hv] at rx <;> cases rx
    rename_i arr hn h
    have hj : n < arr.size := by rw [hn]; exact (List.getElem?_eq_some_iff.1 hr).1
    refine Out.pure hi (arr.getD n undef) ?_ (h n r hr)
    simp only [execOp, ho, hv, Instr.extract]
    rw [getD_of_getElem? hj]
    rfl
  · cases hr
theorem fld_out (hi : HInv R w hp ck dn) (he : EnvRep R w a e) {t : TypeId} {f : Nat} {x : Operand} {x' : Opd} (ho : o.op = .field t x f) {fs : Array Field} {fd : Field} (ht : P.underlying t = some (.struct fs)) (hf : fs[f]? = some fd) {agg : Bool} {n : Nat} (ha : aggOf P fd.type = some agg) (hn : szOf P fd.type = some n)
    (hx : compOpd x = some x') {r : V} (hr : fld agg fd.offset n (x'.ev e) = some r) : Out P o a R w hp dn me r hp ck := by
  have rx := opd_rep he hx
  unfold fld at hr
  split at hr
  · rename_i cs h1
    rw [h1] at rx
    cases hv : a.eval x <;> rw [hv] at rx <;> cases rx
    rename_i arr h1 hl h
    unfold loadOf at hr
    cases agg with
    | true =>
      simp only [if_true] at hr
      by_cases hlen : ((cs.drop fd.offset).take n).length = n
      · rw [if_pos hlen] at hr
        cases hr
        have hle : n = 0 ∨ fd.offset + n ≤ cs.length := by simp at hlen; omega
        have hsize : (arr.extract fd.offset (fd.offset + n)).size = n := by rw [Array.size_extract]; omega
        have hget : ∀ j, j < n → (arr.extract fd.offset (fd.offset + n)).getD j undef = arr.getD (fd.offset + j) undef := by
          intro j hj
          rw [Array.getD_eq_getD_getElem?, Array.getD_eq_getD_getElem?, Array.getElem?_extract, if_pos (by omega)]
        refine Out.pure hi (.agg (arr.extract fd.offset (fd.offset + n))) ?_ (.ag _ _ (by rw [hsize, hlen]) (fun j hj => ?_) (fun j v hv => ?_))
        · simp [execOp, ho, hv, Instr.field, run_underlying ht, hf, asAgg, part, run_aggOf ha, run_szOf hn]
        · rw [hsize] at hj
          rw [hget j hj]
          exact h1 _ (by omega)
        · rw [List.getElem?_take] at hv
          by_cases hj : j < n
          · rw [if_pos hj, List.getElem?_drop] at hv
            rw [hget j hj]
            exact h _ _ hv
          · rw [if_neg hj] at hv
            cases hv
      · rw [if_neg hlen] at hr
        cases hr
    | false =>
      simp only [Bool.false_eq_true, if_false] at hr
      cases hd : cs.drop fd.offset with
      | nil => rw [hd] at hr; simp at hr
      | cons v r' =>
        rw [hd] at hr
        simp at hr
        subst hr
        have hg : cs[fd.offset]? = some v := by
          have := congrArg (·[0]?) hd
          simpa using this
        have hj : fd.offset < arr.size := by rw [hl]; exact (List.getElem?_eq_some_iff.1 hg).1
        refine Out.pure hi (arr.getD fd.offset undef) ?_ (h _ _ hg)
        have hg' := getD_of_getElem? hj
        generalize arr.getD fd.offset undef = z at hg' ⊢
        simp [execOp, ho, hv, Instr.field, run_underlying ht, hf, asAgg, part, run_aggOf ha, hg']
  · cases hr
theorem fad_out (hi : HInv R w hp ck dn) (he : EnvRep R w a e) {t : TypeId} {f : Nat} {x : Operand} {x' : Opd} (ho : o.op = .fieldAddr t x f) {fs : Array Field} {fd : Field} (ht : P.underlying t = some (.struct fs)) (hf : fs[f]? = some fd) {n : Nat} (hn : szOf P fd.type = some n) (hn0 : 0 < n)
    (hx : compOpd x = some x') {r : V} (hr : fad fd.offset (x'.ev e) = some r) : Out P o a R w hp dn me r hp ck := by
  have rx := opd_rep he hx
  have hrun : ∀ g q : Nat, a.eval x = .pointer (some ⟨g, q, none⟩) → (execOp a.eval o).run P w = .ok (.value (.pointer (some ⟨g, q + fd.offset, none⟩))) w := by
    intro g q hv
    have hne : ¬ n = 0 := by omega
    simp [execOp, ho, hv, Instr.fieldAt, run_underlying ht, hf, Instr.sureAddr, fieldPlace, run_szOf hn, hne, addr_add]
  unfold fad at hr
  split at hr
  · rename_i k sz i j h1
    cases hr
    rw [h1] at rx
    cases hv : a.eval x <;> rw [hv] at rx <;> cases rx
    rename_i g n' hμ
    refine Out.pure hi _ (hrun g _ hv) ?_
    rw [Nat.add_assoc]
    exact .pt k sz i (j + fd.offset) g n' hμ
  · rename_i cs h1
    cases hr
    rw [h1] at rx
    cases hv : a.eval x <;> rw [hv] at rx <;> cases rx
    rename_i g q f' hB hcell hrep
    refine Out.pure hi _ (hrun g _ hv) ?_
    refine .pr g (q + fd.offset) _ (fun j => f' (fd.offset + j)) (fun h => hB (by rintro rfl; simp at h)) (fun j t ht => ?_) (fun j t ht => ?_)
    · rw [List.getElem?_drop] at ht
      have := hcell _ _ ht
      rwa [← Nat.add_assoc] at this
    · rw [List.getElem?_drop] at ht
      exact hrep _ _ ht
  · cases hr
theorem ixS_out (hi : HInv R w hp ck dn) (he : EnvRep R w a e) {t el : TypeId} {x y : Operand} {x' y' : Opd} (ho : o.op = .indexAddr t x y) (ht : P.underlying t = some (.slice el)) {n : Nat} (hn : szOf P el = some n) (hn0 : 0 < n)
    (hx : compOpd x = some x') (hy : compOpd y = some y') {r : V} (hr : ixS n (x'.ev e) (y'.ev e) = some r) : Out P o a R w hp dn me r hp ck := by
  have rx := opd_rep he hx
  have ry := opd_rep he hy
  unfold ixS at hr
  split at hr
  · cases hr
  · rename_i m hm
    obtain ⟨k, hy'⟩ := repV_isInt ry hm
    by_cases h0 : 0 ≤ m
    · rw [if_pos h0] at hr
      have hrun : ∀ (g q len cap : Nat), a.eval x = .slice (some ⟨g, q, none⟩) len cap → m < (len : Int) → (execOp a.eval o).run P w = .ok (.value (.pointer (some ⟨g, q + m.toNat * n, none⟩))) w := by
        intro g q len cap hv hlt
        simp [execOp, ho, hv, hy', Instr.indexAt, asIntOf, run_underlying ht, h0, hlt, run_szOf hn, addr_add]
      split at hr
      · rename_i k' sz' off len h1
        by_cases hc : sz' = n ∧ m < (len : Int)
        · rw [if_pos hc] at hr
          cases hr
          obtain ⟨rfl, hlt⟩ := hc
          rw [h1] at rx
          rcases repV_ow rx with ⟨g, tot, A, cap, hv, hμ, hl, hcap, hA⟩ | ⟨_, _, _, h⟩
          · rw [hA (by omega)] at hv
            refine Out.pure hi _ (hrun _ _ _ _ hv hlt) ?_
            have := RepV.pt (R := R) (w := w) k' sz' (off + m.toNat) 0 g tot hμ
            rw [Nat.add_zero, Nat.add_mul] at this
            exact this
          · omega
        · rw [if_neg hc] at hr
          cases hr
      · rename_i xs h1
        split at hr
        · rename_i c hc
          by_cases hs : c.length = n
          · rw [if_pos hs] at hr
            cases hr
            rw [h1] at rx
            have hmem := List.mem_of_getElem? hc
            have hlt := (List.getElem?_eq_some_iff.1 hc).1
            obtain ⟨A, cap, sz, g, q, f, hv, hcap, hsz, hA, hS, hcell, hrep⟩ := repT_l0 (repV_tl rx)
            have : sz = n := (hsz c hmem).symm.trans hs
            subst this
            rw [hA (by omega)] at hv
            refine Out.pure hi _ (hrun _ _ _ _ hv (by omega)) ?_
            refine .pr g _ c (fun j => f m.toNat j) (fun _ => .inl (hS (by omega))) (fun j t ht => ?_) (fun j t ht => hrep _ _ _ (at2_some hc ht))
            have := hcell _ _ _ (at2_some hc ht)
            rwa [← Nat.add_assoc] at this
          · rw [if_neg hs] at hr
            cases hr
        · cases hr
      · cases hr
    · rw [if_neg h0] at hr
      cases hr
theorem ixA_out (hi : HInv R w hp ck dn) (he : EnvRep R w a e) {t el : TypeId} {len : Nat} {x y : Operand} {x' y' : Opd} (ho : o.op = .indexAddr t x y) (ht : P.underlying t = some (.array len el)) {n : Nat} (hn : szOf P el = some n) (hn0 : 0 < n)
    (hx : compOpd x = some x') (hy : compOpd y = some y') {r : V} (hr : ixA len n (x'.ev e) (y'.ev e) = some r) : Out P o a R w hp dn me r hp ck := by
  have rx := opd_rep he hx
  have ry := opd_rep he hy
  unfold ixA at hr
  split at hr
  · cases hr
  · rename_i m hm
    obtain ⟨k, hy'⟩ := repV_isInt ry hm
    by_cases h0 : 0 ≤ m ∧ m < (len : Int)
    · rw [if_pos h0] at hr
      have hrun : ∀ (g q : Nat), a.eval x = .pointer (some ⟨g, q, none⟩) → (execOp a.eval o).run P w = .ok (.value (.pointer (some ⟨g, q + m.toNat * n, none⟩))) w := by
        intro g q hv
        simp [execOp, ho, hv, hy', Instr.indexAt, asIntOf, run_underlying ht, h0, run_szOf hn, addr_add, Instr.sureAddr]
      split at hr
      · rename_i k' sz' i' j h1
        cases hr
        rw [h1] at rx
        cases hv : a.eval x <;> rw [hv] at rx <;> cases rx
        rename_i g n' hμ
        refine Out.pure hi _ (hrun g _ hv) ?_
        rw [Nat.add_assoc]
        exact .pt k' sz' i' _ g n' hμ
      · rename_i cs h1
        cases hr
        rw [h1] at rx
        cases hv : a.eval x <;> rw [hv] at rx <;> cases rx
        rename_i g q f' hB hcell hrep
        refine Out.pure hi _ (hrun g _ hv) ?_
        refine .pr g _ _ (fun j => f' (m.toNat * n + j)) (fun h => hB (by rintro rfl; simp at h)) (fun j t ht => ?_) (fun j t ht => ?_)
        · rw [List.getElem?_drop] at ht
          have := hcell _ _ ht
          rwa [← Nat.add_assoc] at this
        · rw [List.getElem?_drop] at ht
          exact hrep _ _ ht
      · cases hr
    · rw [if_neg h0] at hr
      cases hr
theorem bytes_get (x : ByteArray) (i : Nat) : x[i]? = x.data.toList[i]? := by
  by_cases h : i < x.size
  · rw [getElem?_pos x i h, List.getElem?_eq_getElem (by rw [Array.length_toList]; exact h)]
    simp; rfl
  · rw [getElem?_neg x i h, List.getElem?_eq_none (by rw [Array.length_toList]; exact Nat.le_of_not_lt h)]
theorem ixs_out (hi : HInv R w hp ck dn) (he : EnvRep R w a e) {t : TypeId} {x y : Operand} {x' y' : Opd} (ho : o.op = .index t x y) (ht : P.underlying t = some .string)
    (hx : compOpd x = some x') (hy : compOpd y = some y') {r : V} (hr : ixs (x'.ev e) (y'.ev e) = some r) : Out P o a R w hp dn me r hp ck := by
  have rx := opd_rep he hx
  have ry := opd_rep he hy
  unfold ixs at hr
  split at hr
  · rename_i s n h1 hm
    obtain ⟨k, hy'⟩ := repV_isInt ry hm
    rw [h1] at rx
    obtain ⟨z, hz1, hz2⟩ := repV_s rx
    by_cases h0 : 0 ≤ n
    · rw [if_pos h0] at hr
      split at hr
      · rename_i b hb
        cases hr
        refine Out.pure hi (.int .u8 b.toNat) ?_ (.t (.i _ _))
        have : z[n.toNat]? = some b := by rw [bytes_get, hz2]; exact hb
        simp [execOp, ho, hy', hz1, Instr.index, asIntOf, run_underlying ht, h0, this]
      · cases hr
    · rw [if_neg h0] at hr
      cases hr
  · cases hr
theorem ixV_out (hi : HInv R w hp ck dn) (he : EnvRep R w a e) {t el : TypeId} {len : Nat} {x y : Operand} {x' y' : Opd} (ho : o.op = .index t x y) (ht : P.underlying t = some (.array len el)) {agg : Bool} {n : Nat} (ha : aggOf P el = some agg) (hn : szOf P el = some n)
    (hx : compOpd x = some x') (hy : compOpd y = some y') {r : V} (hr : ixV agg len n (x'.ev e) (y'.ev e) = some r) : Out P o a R w hp dn me r hp ck := by
  have rx := opd_rep he hx
  have ry := opd_rep he hy
  unfold ixV at hr
  split at hr
  · cases hr
  · rename_i m hm
    obtain ⟨k, hy'⟩ := repV_isInt ry hm
    by_cases h0 : 0 ≤ m ∧ m < (len : Int)
    · rw [if_pos h0] at hr
      split at hr
      · rename_i cs h1
        rw [h1] at rx
        cases hv : a.eval x <;> rw [hv] at rx <;> cases rx
        rename_i arr h1 hl h
        generalize hq : m.toNat * n = q at hr
        unfold loadOf at hr
        cases agg with
        | true =>
          simp only [if_true] at hr
          by_cases hlen : ((cs.drop q).take n).length = n
          · rw [if_pos hlen] at hr
            cases hr
            have hle : n = 0 ∨ q + n ≤ cs.length := by simp at hlen; omega
            have hsize : (arr.extract q (q + n)).size = n := by rw [Array.size_extract]; omega
            have hget : ∀ j, j < n → (arr.extract q (q + n)).getD j undef = arr.getD (q + j) undef := by
              intro j hj
              rw [Array.getD_eq_getD_getElem?, Array.getD_eq_getD_getElem?, Array.getElem?_extract, if_pos (by omega)]
            refine Out.pure hi (.agg (arr.extract q (q + n))) ?_ (.ag _ _ (by rw [hsize, hlen]) (fun j hj => ?_) (fun j v hv => ?_))
            · simp [execOp, ho, hv, hy', Instr.index, asIntOf, run_underlying ht, h0, part, run_aggOf ha, run_szOf hn, hq]
            · rw [hsize] at hj
              rw [hget j hj]
              exact h1 _ (by omega)
            · rw [List.getElem?_take] at hv
              by_cases hj : j < n
              · rw [if_pos hj, List.getElem?_drop] at hv
                rw [hget j hj]
                exact h _ _ hv
              · rw [if_neg hj] at hv
                cases hv
          · rw [if_neg hlen] at hr
            cases hr
        | false =>
          simp only [Bool.false_eq_true, if_false] at hr
          cases hd : cs.drop q with
          | nil => rw [hd] at hr; simp at hr
          | cons v r' =>
            rw [hd] at hr
            simp at hr
            subst hr
            have hg : cs[q]? = some v := by
              have := congrArg (·[0]?) hd
              simpa using this
            have hj : q < arr.size := by rw [hl]; exact (List.getElem?_eq_some_iff.1 hg).1
            refine Out.pure hi (arr.getD q undef) ?_ (h _ _ hg)
            have hg' := getD_of_getElem? hj
            generalize arr.getD q undef = z at hg' ⊢
            simp [execOp, ho, hv, hy', Instr.index, asIntOf, run_underlying ht, h0, part, run_aggOf ha, run_szOf hn, hq, hg']
      · cases hr
    · rw [if_neg h0] at hr
      cases hr
theorem part_one {t : TypeId} {cs : Array Value} {off : Nat} (ha : aggOf P t = some false) (hj : off < cs.size) : (part t cs off).run P w = .ok (cs.getD off undef) w := by
  have hg : cs[off]? = some (cs.getD off undef) := by rw [Array.getD_eq_getD_getElem?, Array.getElem?_eq_getElem hj]; rfl
  generalize cs.getD off undef = z at hg ⊢
  simp [part, run_aggOf ha, hg]
theorem drop_first {α : Type} {l : List α} {i : Nat} {c : α} {r : List α} (h : l.drop i = c :: r) : l[i]? = some c ∧ l.drop (i + 1) = r := by
  have hi : i < l.length := by
    apply Classical.byContradiction
    intro hn
    rw [List.drop_of_length_le (by omega)] at h
    cases h
  rw [List.drop_eq_getElem_cons hi] at h
  cases h
  exact ⟨List.getElem?_eq_getElem hi, rfl⟩
theorem eqFields_run {d : Nat} {xs ys : Array Value} {cs ds : List V} (hx : xs.size = cs.length) (hy : ys.size = ds.length) (rx : ∀ j v, cs[j]? = some v → RepV R w (xs.getD j undef) v) (ry : ∀ j v, ds[j]? = some v → RepV R w (ys.getD j undef) v) :
    ∀ (fs : List Field) (i : Nat) (ks : List Nat) {r : Bool}, eqKinds P fs i = some ks → cellsEq ks (cs.drop i) (ds.drop i) = some r → (Op.eqFields (d + 1) xs ys fs).run P w = .ok r w
  | [], i, ks, r, hk, h => by
    cases hk
    unfold cellsEq at h
    split at h
    · cases h; simp [Op.eqFields]
    all_goals first | (cases h; done) | (rename_i q _ _; cases q)
  | f :: fs, i, ks, r, hk, h => by
    unfold eqKinds at hk
    cases hk1 : eqKind P f i with
    | none => rw [hk1] at hk; cases hk
    | some k =>
    cases hk2 : eqKinds P fs (i + 1) with
    | none => rw [hk1, hk2] at hk; cases hk
    | some ks' =>
    rw [hk1, hk2] at hk
    cases hk
    unfold eqKind at hk1
    split at hk1
    · rename_i hno
      obtain ⟨hn, ho⟩ := hno
      have fin : ∀ {c e : V} {r1 r2 : List V} {b : Bool}, cs.drop i = c :: r1 → ds.drop i = e :: r2 → aggOf P f.type = some false → (∀ u v, RepV R w u c → RepV R w v e → (Op.equalIn (d + 1) f.type u v).run P w = .ok b w) → (if b then cellsEq ks' r1 r2 else some false) = some r → (Op.eqFields (d + 1) xs ys (f :: fs)).run P w = .ok r w := by
        intro c e r1 r2 b hc he ha hq hr
        obtain ⟨c1, c2⟩ := drop_first hc
        obtain ⟨e1, e2⟩ := drop_first he
        have p1 := part_one (P := P) (w := w) (cs := xs) (off := i) ha (by rw [hx]; exact (List.getElem?_eq_some_iff.1 c1).1)
        have p2 := part_one (P := P) (w := w) (cs := ys) (off := i) ha (by rw [hy]; exact (List.getElem?_eq_some_iff.1 e1).1)
        have hb := hq _ _ (rx i _ c1) (ry i _ e1)
        simp only [Op.eqFields, hn, ne_eq, not_false_eq_true, if_true, Sem.run_bind, ho, p1, p2, hb, Result.andThen_ok]
        cases b
        · simp at hr ⊢; exact hr
        · simp only [if_true] at hr
          have := eqFields_run (d := d) hx hy rx ry fs (i + 1) ks' hk2 (by rw [c2, e2]; exact hr)
          simpa using this
      have agg : ∀ {q : TypeDesc}, P.underlying f.type = some q → aggD q = false → aggOf P f.type = some false := fun h1 h2 => by
        unfold aggOf; rw [h1]; exact congrArg some h2
      unfold cellsEq at h
      split at h
      · rename_i q _ _; cases q
      · rename_i ks1 kk a r1 kk' b r2 q1 q2 q3
        cases q1
        split at hk1
        · rename_i k0 hu
          split at h
          · rename_i hkk
            refine fin (b := a == b) q2 q3 (agg hu rfl) (fun u v h1 h2 => ?_) ?_
            · rw [repV_i h1, repV_i h2]
              simp [Op.equalIn, run_underlying hu, hkk]
            · by_cases e : a = b
              · rw [if_pos e] at h; simpa [e] using h
              · rw [if_neg e] at h; simpa [e] using h
          · cases h
        · cases hk1
        · cases hk1
        · cases hk1
      · rename_i ks1 a r1 b r2 q1 q2 q3
        cases q1
        split at hk1
        · cases hk1
        · rename_i hu
          refine fin (b := a == b) q2 q3 (agg hu rfl) (fun u v h1 h2 => ?_) ?_
          · obtain ⟨x1, rfl, g1⟩ := repV_s h1
            obtain ⟨x2, rfl, g2⟩ := repV_s h2
            have := run_equalIn_string (P := P) w d f.type x1 x2 hu
            rw [this, (toList_eq x1).trans g1, (toList_eq x2).trans g2]
          · by_cases e : a = b
            · rw [if_pos e] at h; simpa [e] using h
            · rw [if_neg e] at h; simpa [e] using h
        · cases hk1
        · cases hk1
      · rename_i ks1 a r1 b r2 q1 q2 q3
        cases q1
        split at hk1
        · cases hk1
        · cases hk1
        · rename_i hu
          refine fin (b := a == b) q2 q3 (agg hu rfl) (fun u v h1 h2 => ?_) ?_
          · rw [repV_b h1, repV_b h2]
            simp [Op.equalIn, run_underlying hu]
          · by_cases e : a = b
            · rw [if_pos e] at h; simpa [e] using h
            · rw [if_neg e] at h; simpa [e] using h
        · cases hk1
      · cases h
    · cases hk1
theorem beqS_out (hi : HInv R w hp ck dn) (he : EnvRep R w a e) {neg : Bool} {t u : TypeId} {x y : Operand} {x' y' : Opd} {fs : Array Field} {ks : List Nat} (ho : o.op = .binOp (if neg then .neq else .eql) t x y u) (hd : P.underlying t = some (.struct fs)) (h1 : P.stoodInHeld t = false) (h2 : P.eqGuardType P.depth t = false) (h3 : eqKinds P fs.toList 0 = some ks)
    (hx : compOpd x = some x') (hy : compOpd y = some y') {r : V} (hr : beqS ks neg (x'.ev e) (y'.ev e) = some r) : Out P o a R w hp dn me r hp ck := by
  have rx := opd_rep he hx
  have ry := opd_rep he hy
  unfold beqS at hr
  split at hr
  · rename_i cs ds q1 q2
    rw [q1] at rx
    rw [q2] at ry
    cases hc : cellsEq ks cs ds with
    | none => rw [hc] at hr; cases hr
    | some b =>
    rw [hc] at hr
    cases hr
    have hfs : P.fieldsOf t = fs := by simp [Program.fieldsOf, hd]
    cases hv : a.eval x <;> rw [hv] at rx <;> cases rx
    rename_i arr g1 g2 g3
    cases hv2 : a.eval y <;> rw [hv2] at ry <;> cases ry
    rename_i arr2 g4 g5 g6
    have hE := eqFields_run (P := P) (d := 9998) g2 g5 g3 g6 fs.toList 0 ks h3 (by simpa using hc)
    have hS := run_equalIn_struct (P := P) w 9999 t arr arr2 (by rw [hfs]; exact hd) h1
    rw [hfs, hE] at hS
    refine Out.pure hi (.bool (if neg then !b else b)) ?_ (.t (.b _))
    cases neg
    · simp only [execOp, ho, hv, hv2, Sem.run_bind, run_eqGuard_agg (P := P) w _ t x y arr arr2 h2, Result.andThen_ok]
      have hB := run_eql_struct (P := P) w t arr arr2
      rw [hS] at hB
      simp [hB]
    · simp only [execOp, ho, hv, hv2, Sem.run_bind, run_eqGuard_agg (P := P) w _ t x y arr arr2 h2, Result.andThen_ok]
      have hB := run_neq_struct (P := P) w t arr arr2
      rw [hS] at hB
      simp [hB]
  · cases hr
end
end
section
section
variable {P : Program} {o : Oper} {a : Act} {R : Rl} {w : World} {hp : HP} {dn : Nat → Prop} {me ck : Nat} {e : Env}
theorem equal_nilI {t : TypeId} {ms : Array (String × TypeId)} (hd : P.underlying t = some (.interface ms)) : (Op.equal t .nilIface .nilIface).run P w = .ok true w ∧ ∀ q v, (Op.equal t (.iface q v) .nilIface).run P w = .ok false w := by
  refine ⟨?_, fun q v => ?_⟩
  · have : Op.equal t .nilIface .nilIface = Op.equalIn (9999 + 1) t .nilIface .nilIface := rfl
    rw [this]
    generalize 9999 = n
    simp [Op.equalIn, run_underlying hd]
  · have : Op.equal t (.iface q v) .nilIface = Op.equalIn (9999 + 1) t (.iface q v) .nilIface := rfl
    rw [this]
    generalize 9999 = n
    simp [Op.equalIn, run_underlying hd]
theorem equal_nilP {t q : TypeId} (hd : P.underlying t = some (.pointer q)) : (Op.equal t (.pointer none) (.pointer none)).run P w = .ok true w ∧ ∀ ad, (Op.equal t (.pointer (some ad)) (.pointer none)).run P w = .ok false w := by
  refine ⟨?_, fun ad => ?_⟩
  · have : Op.equal t (.pointer none) (.pointer none) = Op.equalIn (9999 + 1) t (.pointer none) (.pointer none) := rfl
    rw [this]
    generalize 9999 = n
    simp [Op.equalIn, run_underlying hd]
  · have : Op.equal t (.pointer (some ad)) (.pointer none) = Op.equalIn (9999 + 1) t (.pointer (some ad)) (.pointer none) := rfl
    rw [this]
    generalize 9999 = n
    simp [Op.equalIn, run_underlying hd]
theorem isnilI_out (hi : HInv R w hp ck dn) (he : EnvRep R w a e) {neg : Bool} {t u : TypeId} {ms : Array (String × TypeId)} {x : Operand} {x' : Opd} (ho : o.op = .binOp (if neg then .neq else .eql) t x (.const .nilIface) u) (hd : P.underlying t = some (.interface ms))
    (hx : compOpd x = some x') {r : V} (hr : isNilI neg (x'.ev e) = some r) : Out P o a R w hp dn me r hp ck := by
  have rx := opd_rep he hx
  obtain ⟨e1, e2⟩ := equal_nilI (P := P) (w := w) hd
  have hcc : a.eval (.const .nilIface) = .nilIface := rfl
  unfold isNilI at hr
  split at hr
  · rename_i h1
    rw [h1] at rx
    cases hr
    have hv : a.eval x = .nilIface := by generalize a.eval x = z at rx; cases repV_tl rx; rfl
    refine Out.pure hi (.bool (!neg)) ?_ (.t (.b _))
    cases neg <;> cases x <;> simp [execOp, ho, hv, hcc, eqGuard, binOp, e1]
  · rename_i h1
    rw [h1] at rx
    cases hr
    obtain ⟨q, v, hv⟩ : ∃ q v, a.eval x = .iface q v := by generalize a.eval x = z at rx; cases repV_tl rx; exact ⟨_, _, rfl⟩
    refine Out.pure hi (.bool neg) ?_ (.t (.b _))
    cases neg <;> simp [execOp, ho, hv, hcc, eqGuard, binOp, e2]
  · cases hr
theorem equal_nilS {t q : TypeId} (hd : P.underlying t = some (.slice q)) (A : Option Addr) (n c : Nat) : (Op.equal t (.slice A n c) (.slice none 0 0)).run P w = .ok A.isNone w := by
  have : Op.equal t (.slice A n c) (.slice none 0 0) = Op.equalIn (9999 + 1) t (.slice A n c) (.slice none 0 0) := rfl
  rw [this]
  generalize 9999 = n
  cases A <;> simp [Op.equalIn, run_underlying hd]
theorem isnilS_out (hi : HInv R w hp ck dn) (he : EnvRep R w a e) {neg : Bool} {t u q : TypeId} {x : Operand} {x' : Opd} (ho : o.op = .binOp (if neg then .neq else .eql) t x (.const (.slice none 0 0)) u) (hd : P.underlying t = some (.slice q))
    (hx : compOpd x = some x') {r : V} (hr : isNilS neg (x'.ev e) = some r) : Out P o a R w hp dn me r hp ck := by
  have rx := opd_rep he hx
  have hcc : a.eval (.const (.slice none 0 0)) = .slice none 0 0 := rfl
  have hrun : ∀ A n c, a.eval x = .slice A n c → (execOp a.eval o).run P w = .ok (.value (.bool (if neg then !A.isNone else A.isNone))) w := by
    intro A n c hv
    have e1 := equal_nilS (P := P) (w := w) hd A n c
    cases neg <;> simp [execOp, ho, hv, hcc, eqGuard, binOp, e1]
  have hyes : ∀ n c, a.eval x = .slice none n c → Out P o a R w hp dn me (.t (.b (!neg))) hp ck := by
    intro n c hv
    refine Out.pure hi _ (hrun none n c hv) ?_
    cases neg <;> exact .t (.b _)
  have hno : ∀ A n c, a.eval x = .slice (some A) n c → Out P o a R w hp dn me (.t (.b neg)) hp ck := by
    intro A n c hv
    refine Out.pure hi _ (hrun (some A) n c hv) ?_
    cases neg <;> exact .t (.b _)
  unfold isNilS at hr
  split at hr
  · rename_i h1
    rw [h1] at rx
    cases hr
    obtain ⟨n, c, hv⟩ : ∃ n c, a.eval x = .slice none n c := by generalize a.eval x = z at rx; cases rx; exact ⟨_, _, rfl⟩
    exact hyes _ _ hv
  · rename_i h1
    rw [h1] at rx
    cases hr
    obtain ⟨n, c, hv⟩ : ∃ n c, a.eval x = .slice none n c := by generalize a.eval x = z at rx; cases rx; exact ⟨_, _, rfl⟩
    exact hyes _ _ hv
  · rename_i h1
    rw [h1] at rx
    cases hr
    obtain ⟨A, n, c, hv⟩ : ∃ A n c, a.eval x = .slice (some A) n c := by generalize a.eval x = z at rx; cases rx; exact ⟨_, _, _, rfl⟩
    exact hno _ _ _ hv
  · rename_i y ys h1
    rw [h1] at rx
    cases hr
    obtain ⟨A, c, sz, g, q', f, hv, _, _, hA, _⟩ := repT_l0 (repV_tl rx)
    rw [hA (by simp)] at hv
    exact hno _ _ _ hv
  · rename_i k sz off n h1
    rw [h1] at rx
    cases hr
    rcases repV_ow rx with ⟨g, tot, A, cap, hv, _, hl, _, hA⟩ | ⟨_, _, _, h0⟩
    · rw [hA (by omega)] at hv
      exact hno _ _ _ hv
    · omega
  · cases hr
theorem isnilP_out (hi : HInv R w hp ck dn) (he : EnvRep R w a e) {neg : Bool} {t u q : TypeId} {x : Operand} {x' : Opd} (ho : o.op = .binOp (if neg then .neq else .eql) t x (.const (.pointer none)) u) (hd : P.underlying t = some (.pointer q))
    (hx : compOpd x = some x') {r : V} (hr : isNilP neg (x'.ev e) = some r) : Out P o a R w hp dn me r hp ck := by
  have rx := opd_rep he hx
  obtain ⟨e1, e2⟩ := equal_nilP (P := P) (w := w) hd
  have hcc : a.eval (.const (.pointer none)) = .pointer none := rfl
  unfold isNilP at hr
  split at hr
  · rename_i h1
    rw [h1] at rx
    cases hr
    have hv : a.eval x = .pointer none := by generalize a.eval x = z at rx; cases repV_tl rx; rfl
    refine Out.pure hi (.bool (!neg)) ?_ (.t (.b _))
    cases neg <;> simp [execOp, ho, hv, hcc, eqGuard, binOp, e1]
  · rename_i h1
    rw [h1] at rx
    cases hr
    obtain ⟨ad, hv⟩ : ∃ ad, a.eval x = .pointer (some ad) := by generalize a.eval x = z at rx; cases rx; exact ⟨_, rfl⟩
    refine Out.pure hi (.bool neg) ?_ (.t (.b _))
    cases neg <;> simp [execOp, ho, hv, hcc, eqGuard, binOp, e2]
  · cases hr
def RepO (R : Rl) (w : World) : Option Value → Option V → Prop
  | none, none => True
  | some u, some v => RepV R w u v
  | _, _ => False
theorem opt_rep (he : EnvRep R w a e) {x : Option Operand} {x' : Option Opd} (h : compOpt x = some x') : RepO R w (x.map a.eval) (opt e x') := by
  cases x with
  | none => simp [compOpt] at h; subst h; trivial
  | some x =>
    simp only [compOpt] at h
    cases h1 : compOpd x with
    | none => simp [h1] at h
    | some y => simp [h1] at h; subst h; exact opd_rep he h1
theorem bound_le {x : Option V} {dflt y n : Nat} (hd : dflt ≤ y) (h : bound x dflt y = some n) : n ≤ y := by
  unfold bound at h
  cases x with
  | none => simp at h; omega
  | some v =>
    simp only at h
    cases hm : isInt v with
    | none => simp [hm] at h
    | some m =>
      simp only [hm] at h
      by_cases hc : 0 ≤ m ∧ m ≤ (y : Int)
      · rw [if_pos hc] at h; cases h; omega
      · rw [if_neg hc] at h; cases h
theorem bounds_run {lo hi' : Option Value} {lo' hi2 : Option V} (hlo : RepO R w lo lo') (hhi : RepO R w hi' hi2) {len cap h l : Nat} (hc : len ≤ cap) (hh : bound hi2 len len = some h) (hl : bound lo' 0 h = some l) (isS : Bool) :
    (Instr.sliceBounds isS len cap lo hi' none).run P w = .ok (l, h, cap) w ∧ l ≤ h ∧ h ≤ len := by
  have h1 : h ≤ len := bound_le (Nat.le_refl _) hh
  have h2 : l ≤ h := bound_le (Nat.zero_le _) hl
  refine ⟨?_, h2, h1⟩
  have eh : (hi' = none ∧ h = len) ∨ ∃ v, hi' = some v ∧ ∀ code, (Instr.sliceBound v cap code).run P w = .ok h w := by
    cases hi' with
    | none =>
      cases hi2 with
      | none => simp [bound] at hh; exact .inl ⟨rfl, hh.symm⟩
      | some v => simp [RepO] at hhi
    | some u =>
      cases hi2 with
      | none => simp [RepO] at hhi
      | some v =>
        simp only [bound] at hh
        cases hm : isInt v with
        | none => simp [hm] at hh
        | some m =>
          obtain ⟨k, rfl⟩ := repV_isInt hhi hm
          simp only [hm] at hh
          by_cases hcc : 0 ≤ m ∧ m ≤ (len : Int)
          · rw [if_pos hcc] at hh
            cases hh
            have : m ≤ (cap : Int) := by omega
            exact .inr ⟨_, rfl, fun code => by simp [Instr.sliceBound, asIntOf, hcc.1, this]⟩
          · rw [if_neg hcc] at hh
            cases hh
  have el : (lo = none ∧ l = 0) ∨ ∃ v, lo = some v ∧ ∀ code, (Instr.sliceBound v h code).run P w = .ok l w := by
    cases lo with
    | none =>
      cases lo' with
      | none => simp [bound] at hl; exact .inl ⟨rfl, hl.symm⟩
      | some v => simp [RepO] at hlo
    | some u =>
      cases lo' with
      | none => simp [RepO] at hlo
      | some v =>
        simp only [bound] at hl
        cases hm : isInt v with
        | none => simp [hm] at hl
        | some m =>
          obtain ⟨k, rfl⟩ := repV_isInt hlo hm
          simp only [hm] at hl
          by_cases hcc : 0 ≤ m ∧ m ≤ (h : Int)
          · rw [if_pos hcc] at hl
            cases hl
            exact .inr ⟨_, rfl, fun code => by simp [Instr.sliceBound, asIntOf, hcc.1, hcc.2]⟩
          · rw [if_neg hcc] at hl
            cases hl
  unfold Instr.sliceBounds
  rcases eh with ⟨rfl, rfl⟩ | ⟨v, rfl, eh⟩ <;> rcases el with ⟨rfl, rfl⟩ | ⟨u, rfl, el⟩
  · simp
  · simp [el]
  · simp [eh]
  · simp [eh, el]
theorem extract_toList (x : ByteArray) (l h : Nat) (hh : h ≤ x.size) (hl : l ≤ h) : (x.extract l h).data.toList = (x.data.toList.take h).drop l := by
  rw [ByteArray.data_extract, Array.toList_extract]
  rw [List.extract_eq_take_drop, List.drop_take]
theorem slS_out (hi : HInv R w hp ck dn) (he : EnvRep R w a e) {t : TypeId} {x : Operand} {lo up : Option Operand} {x' : Opd} {lo' up' : Option Opd} (ho : o.op = .slice t x lo up none) (ht : P.underlying t = some .string)
    (hx : compOpd x = some x') (hlo : compOpt lo = some lo') (hup : compOpt up = some up') {r : V} (hr : slS (x'.ev e) (opt e lo') (opt e up') = some r) : Out P o a R w hp dn me r hp ck := by
  have rx := opd_rep he hx
  unfold slS at hr
  split at hr
  · rename_i s h1
    rw [h1] at rx
    obtain ⟨z, hz1, hz2⟩ := repV_s rx
    have hsz : z.size = s.length := by rw [← hz2, Array.length_toList]; rfl
    split at hr
    · rename_i h hh
      split at hr
      · rename_i l hl
        cases hr
        rw [← hsz] at hh
        obtain ⟨hb, h2, h3⟩ := bounds_run (P := P) (opt_rep he hlo) (opt_rep he hup) (Nat.le_refl z.size) hh hl false
        refine Out.pure hi (.string (z.extract l h)) ?_ (.t (.s _ _ ?_))
        · simp only [execOp, ho, hz1, Instr.sliceAt, Sem.run_bind, run_underlying ht, Result.andThen_ok, Option.map_none, Instr.slice]
          simp [hb]
        · rw [extract_toList z l h h3 h2, hz2]
      · cases hr
    · cases hr
  · cases hr
theorem sls_out (hi : HInv R w hp ck dn) (he : EnvRep R w a e) {t el : TypeId} {x : Operand} {lo up : Option Operand} {x' : Opd} {lo' up' : Option Opd} (ho : o.op = .slice t x lo up none) (ht : P.underlying t = some (.slice el)) {n : Nat} (hn : szOf P el = some n) (hn0 : 0 < n)
    (hx : compOpd x = some x') (hlo : compOpt lo = some lo') (hup : compOpt up = some up') {r : V} (hr : sls n (x'.ev e) (opt e lo') (opt e up') = some r) : Out P o a R w hp dn me r hp ck := by
  have rx := opd_rep he hx
  have hrun : ∀ (A : Option Addr) (len cap l h : Nat), a.eval x = .slice A len cap → (Instr.sliceBounds true len cap (lo.map a.eval) (up.map a.eval) none).run P w = .ok (l, h, cap) w →
      (execOp a.eval o).run P w = .ok (.value (.slice (if cap = l then A else A.map (·.add (l * n))) (h - l) (cap - l))) w := by
    intro A len cap l h hv hb
    simp only [execOp, ho, hv, Instr.sliceAt, Sem.run_bind, run_underlying ht, Result.andThen_ok, Option.map_none, Instr.slice]
    simp [hb, run_szOf hn]
  unfold sls at hr
  split at hr
  · rename_i k sz off len h1
    by_cases hs : sz = n
    · rw [if_pos hs] at hr
      subst hs
      rw [h1] at rx
      split at hr
      · rename_i h hh
        split at hr
        · rename_i l hl
          cases hr
          rcases repV_ow rx with ⟨g, tot, A, cap, hv, hμ, hlc, hcap, hA⟩ | ⟨hv, hμ, rfl, rfl⟩
          · obtain ⟨hb, h2, h3⟩ := bounds_run (P := P) (opt_rep he hlo) (opt_rep he hup) hlc hh hl true
            refine Out.pure hi _ (hrun _ _ _ _ _ hv hb) ?_
            refine .ow k sz (off + l) (h - l) g tot _ (cap - l) hμ (by omega) (by omega) (fun hp => ?_)
            rw [if_neg (by omega), hA (by omega)]
            simp only [Option.map_some, addr_add]
            rw [Nat.add_mul]
          · obtain ⟨hb, h2, h3⟩ := bounds_run (P := P) (opt_rep he hlo) (opt_rep he hup) (Nat.le_refl 0) hh hl true
            obtain rfl : h = 0 := by omega
            obtain rfl : l = 0 := by omega
            refine Out.pure hi _ (hrun _ _ _ _ _ hv hb) ?_
            simpa using RepV.owv (w := w) k sz hμ
        · cases hr
      · cases hr
    · rw [if_neg hs] at hr
      cases hr
  · rename_i xs h1
    rw [h1] at rx
    by_cases hs : (xs.all fun c => c.length == n) = true
    · rw [if_pos hs] at hr
      have hs' : ∀ c ∈ xs, c.length = n := by simpa using hs
      split at hr
      · rename_i h hh
        split at hr
        · rename_i l hl
          cases hr
          obtain ⟨A, cap, g, q, f, hv, hcap, hA, hS, hcell, hrep⟩ := repT_l (repV_tl rx) n hs'
          obtain ⟨hb, h2, h3⟩ := bounds_run (P := P) (opt_rep he hlo) (opt_rep he hup) hcap hh hl true
          refine Out.pure hi _ (hrun _ _ _ _ _ hv hb) ?_
          have hget : ∀ i j t, at2 ((xs.take h).drop l) i j = some t → at2 xs (l + i) j = some t ∧ l + i < h := by
            intro i j t ht
            obtain ⟨c, hc1, hc2⟩ := at2_elim ht
            rw [List.getElem?_drop, List.getElem?_take] at hc1
            by_cases hlt : l + i < h
            · rw [if_pos hlt] at hc1
              exact ⟨at2_some hc1 hc2, hlt⟩
            · rw [if_neg hlt] at hc1
              cases hc1
          refine .t (.l _ _ _ _ n g (q + l * n) (fun i j => f (l + i) j) (by simp; omega) (by omega) (fun hp => ?_) (fun hp => hS (by omega)) (fun c hc => ?_) (fun i j t ht => ?_) (fun i j t ht => hrep _ _ _ (hget i j t ht).1))
          · rw [if_neg (by omega), hA (by omega)]
            simp [addr_add]
          · exact hs' c (List.mem_of_mem_take (List.mem_of_mem_drop hc))
          · have := hcell _ _ _ (hget i j t ht).1
            rw [Nat.add_mul] at this
            rw [← this]
            congr 2
            omega
        · cases hr
      · cases hr
    · rw [if_neg hs] at hr
      cases hr
  · cases hr
theorem lenL_out (hi : HInv R w hp ck dn) (he : EnvRep R w a e) {as_ : Array Operand} {ts : Array TypeId} {t : TypeId} {x : Operand} {x' : Opd} (ho : o.op = .call { callee := .builtin .len, args := as_, argTypes := ts }) (ha : as_.toList = [x]) (hts : ts.toList = [t]) {el : TypeId} (ht : P.underlying t = some (.slice el))
    (hx : compOpd x = some x') {r : V} (hr : len (x'.ev e) = some r) : Out P o a R w hp dn me r hp ck := by
  have rx := opd_rep he hx
  have ha' : as_ = #[x] := by cases as_; simp at ha; simp [ha]
  have ht' : ts = #[t] := by cases ts; simp at hts; simp [hts]
  have hrun : ∀ (n : Nat) A c, a.eval x = .slice A n c → (execOp a.eval o).run P w = .ok (.value (.int .i64 n)) w := by
    intro n A c h
    simp [execOp, ho, ha', ht', resolve, invoke, builtin, h, Builtin.len_, run_underlying ht, goInt]
  unfold len at hr
  split at hr
  · rename_i k sz off n h1
    rw [h1] at rx
    cases hr
    rcases repV_ow rx with ⟨g, tot, A, cap, hv, _⟩ | ⟨hv, _, _, rfl⟩
    · exact Out.pure hi _ (hrun n _ _ hv) (.t (.i _ _))
    · exact Out.pure hi _ (hrun 0 _ _ hv) (.t (.i _ _))
  · rename_i h1
    rw [h1] at rx
    cases hr
    have hv : a.eval x = .slice none 0 0 := by generalize a.eval x = z at rx; cases rx; rfl
    exact Out.pure hi _ (hrun 0 _ _ hv) (.t (.i _ _))
  · rename_i xs h1
    rw [h1] at rx
    cases hr
    obtain ⟨A, c, sz, g, q, f, hv, _⟩ := repT_l0 (repV_tl rx)
    exact Out.pure hi _ (hrun xs.length _ _ hv) (.t (.i _ _))
  · cases hr
theorem lenS_out (hi : HInv R w hp ck dn) (he : EnvRep R w a e) {as_ : Array Operand} {ts : Array TypeId} {t : TypeId} {x : Operand} {x' : Opd} (ho : o.op = .call { callee := .builtin .len, args := as_, argTypes := ts }) (ha : as_.toList = [x]) (hts : ts.toList = [t]) (ht : P.underlying t = some .string)
    (hx : compOpd x = some x') {r : V} (hr : lenS (x'.ev e) = some r) : Out P o a R w hp dn me r hp ck := by
  have rx := opd_rep he hx
  have ha' : as_ = #[x] := by cases as_; simp at ha; simp [ha]
  have ht' : ts = #[t] := by cases ts; simp at hts; simp [hts]
  unfold lenS at hr
  split at hr
  · rename_i s h1
    rw [h1] at rx
    cases hr
    obtain ⟨z, hz1, hz2⟩ := repV_s rx
    have hsz : z.size = s.length := by rw [← hz2, Array.length_toList]; rfl
    rw [← hsz]
    exact Out.pure hi (.int .i64 z.size) (by simp [execOp, ho, ha', ht', resolve, invoke, builtin, hz1, Builtin.len_, run_underlying ht, goInt]) (.t (.i _ _))
  · cases hr
theorem lenc_out (hi : HInv R w hp ck dn) {as_ : Array Operand} {ts : Array TypeId} {t : TypeId} {x : Operand} (ho : o.op = .call { callee := .builtin .len, args := as_, argTypes := ts }) (ha : as_.toList = [x]) (hts : ts.toList = [t]) {n : Nat} {el : TypeId} (ht : P.underlying t = some (.array n el)) :
    Out P o a R w hp dn me (.t (.i .i64 n)) hp ck := by
  have ha' : as_ = #[x] := by cases as_; simp at ha; simp [ha]
  have ht' : ts = #[t] := by cases ts; simp at hts; simp [hts]
  exact Out.pure hi (.int .i64 n) (by simp [execOp, ho, ha', ht', resolve, invoke, builtin, Builtin.len_, run_underlying ht, goInt]) (.t (.i _ _))
theorem minmax_run (mx : Bool) : ∀ (vs : List Value) (xs : List V) (u : Value) (v : V), RepV R w u v → vs.length = xs.length → (∀ j x, xs[j]? = some x → RepV R w (vs.getD j undef) x) → ∀ {r : V}, minmax mx v xs = some r →
    ∃ z, (vs.foldlM (if mx then Builtin.max2 else Builtin.min2) u).run P w = .ok z w ∧ RepV R w z r
  | [], [], u, v, huv, _, _, r, hr => by
    simp [minmax] at hr
    subst hr
    exact ⟨u, rfl, huv⟩
  | c :: vs, x :: xs, u, v, huv, hl, h, r, hr => by
    unfold minmax at hr
    split at hr
    · rename_i heq; cases heq
    · rename_i k p k' q rest heq
      cases heq
      have h0 := h 0 _ rfl
      simp at h0
      have hu := repV_i huv
      have hc := repV_i h0
      subst hu hc
      by_cases hk : k = k'
      · rw [if_pos hk] at hr
        subst hk
        have hstep : ((if mx then Builtin.max2 else Builtin.min2) (.int k p) (.int k q)).run P w = .ok (.int k (if mx then (if p < q then q else p) else (if q < p then q else p))) w := by
          cases mx <;> simp [Builtin.min2, Builtin.max2]
        obtain ⟨z, h1, h2⟩ := minmax_run mx vs xs _ _ (.t (.i k (if mx then (if p < q then q else p) else (if q < p then q else p)))) (by simpa using hl) (fun j x hj => by simpa using h (j + 1) x (by simpa using hj)) hr
        refine ⟨z, ?_, h2⟩
        rw [List.foldlM_cons, Sem.run_bind, hstep]
        exact h1
      · rw [if_neg hk] at hr
        cases hr
    · cases hr
  | [], _ :: _, _, _, _, hl, _, _, _ => by simp at hl
  | _ :: _, [], _, _, _, hl, _, _, _ => by simp at hl
theorem mm_out (hi : HInv R w hp ck dn) (he : EnvRep R w a e) {mx : Bool} {as_ : Array Operand} {ts : Array TypeId} {xs : List Opd} (ho : o.op = .call { callee := .builtin (if mx then .max else .min), args := as_, argTypes := ts }) (hx : compOpds as_.toList = some xs) {v : V} {rest : List V} (hv : xs.map (·.ev e) = v :: rest) {r : V} (hr : minmax mx v rest = some r) :
    Out P o a R w hp dn me r hp ck := by
  obtain ⟨h1, h2⟩ := opds_rep he _ _ hx
  rw [hv] at h1 h2
  cases hl : as_.toList.map a.eval with
  | nil => rw [hl] at h1; simp at h1
  | cons u us =>
    rw [hl] at h1 h2
    obtain ⟨z, hz1, hz2⟩ := minmax_run (P := P) mx us rest u v (by simpa using h2 0 v rfl) (by simpa using h1) (fun j x hj => by simpa using h2 (j + 1) x (by simpa using hj)) hr
    refine Out.pure hi z ?_ hz2
    cases mx with
    | true =>
      simp only [if_true] at hz1
      simp [execOp, ho, resolve, invoke, builtin, Builtin.max_, hl, hz1]
    | false =>
      simp only [Bool.false_eq_true, if_false] at hz1
      simp [execOp, ho, resolve, invoke, builtin, Builtin.min_, hl, hz1]
end
end
section
theorem oneCell_repV {R : Rl} {w : World} {u : Value} {v : V} (h : RepV R w u v) {cs : List V} (hc : cells v = some cs) (hag : ∀ c, v ≠ .ag c) : u.oneCell' = true ∧ cs = [v] := by
  cases h with
  | t h => simp [cells] at hc; exact ⟨oneCell_repT h, hc.symm⟩
  | ow => simp [cells] at hc; exact ⟨rfl, hc.symm⟩
  | owv => simp [cells] at hc; exact ⟨rfl, hc.symm⟩
  | nl => simp [cells] at hc; exact ⟨rfl, hc.symm⟩
  | nn => simp [cells] at hc; exact ⟨rfl, hc.symm⟩
  | nz => simp [cells] at hc; exact ⟨rfl, hc.symm⟩
  | mp => simp [cells] at hc; exact ⟨rfl, hc.symm⟩
  | pt => simp [cells] at hc; exact ⟨rfl, hc.symm⟩
  | pr => simp [cells] at hc; exact ⟨rfl, hc.symm⟩
  | ag arr cs' => exact absurd rfl (hag cs')
  | tu => simp [cells] at hc
  | fn => simp [cells] at hc; exact ⟨rfl, hc.symm⟩
  | ud => simp [cells] at hc
  | un => simp [cells] at hc
theorem cells_rep {R : Rl} {w : World} {u : Value} {v : V} (h : RepV R w u v) {cs : List V} (hc : cells v = some cs) :
    u.cells.size = cs.length ∧ (∀ j, j < u.cells.size → (u.cells.getD j undef).oneCell' = true) ∧ ∀ j x, cs[j]? = some x → RepV R w (u.cells.getD j undef) x := by
  by_cases hag : ∃ c, v = .ag c
  · obtain ⟨c, rfl⟩ := hag
    simp [cells] at hc
    subst hc
    cases h with
    | ag arr _ hn h1 h => exact ⟨hn, h1, h⟩
  · obtain ⟨h1, rfl⟩ := oneCell_repV h hc (fun c e => hag ⟨c, e⟩)
    have hu : u.cells = #[u] := by cases u <;> first | rfl | simp [Value.oneCell'] at h1
    rw [hu]
    refine ⟨rfl, fun j hj => ?_, fun j x hx => ?_⟩
    · obtain rfl : j = 0 := by simp at hj; exact hj
      exact h1
    · cases j with
      | zero => simp at hx; subst hx; exact h
      | succ j => simp at hx
def vkeys : V → List Key
  | .ow k _ _ _ => [k]
  | _ => []
theorem treeOf_rep {R : Rl} {w : World} {hp : HP} {ck : Nat} {dn : Nat → Prop} (hi : HInv R w hp ck dn) {S' : Nat → Prop} (hS : ∀ g, R.S g → S' g) {u : Value} {v : V} (h : RepV R w u v) {t : T} (ht : treeOf hp v = some t) (hk : ∀ g, rowsAt R hp (vkeys v) g → S' g) : RepT S' w u t := by
  unfold treeOf at ht
  split at ht
  · cases ht
    exact (repV_tl h).mono hS (fun _ _ => rfl)
  · cases ht
    have : u = .slice none 0 0 := by cases h; rfl
    subst this
    exact .l none 0 0 [] 0 0 0 (fun _ _ => undef) rfl (Nat.le_refl _) (by omega) (by omega) (by simp) (by intro i j t h; simp [at2] at h) (by intro i j t h; simp [at2] at h)
  · cases ht
    cases h with
    | nn A c => exact .l (some A) 0 c [] 0 0 0 (fun _ _ => undef) rfl (Nat.zero_le _) (by omega) (by omega) (by simp) (by intro i j t h; simp [at2] at h) (by intro i j t h; simp [at2] at h)
  · rename_i k sz off len
    split at ht
    · rename_i ty sz' els fz hg
      by_cases hc : sz' = sz ∧ off + len ≤ els.length
      · rw [if_pos hc] at ht
        obtain ⟨rfl, hlen⟩ := hc
        cases ht
        have hob := hi.ob _ _ hg
        rcases repV_ow h with ⟨g, tot, A, cap, rfl, hμ, hl, hcap, hA⟩ | ⟨rfl, hμ, rfl, rfl⟩
        · rcases hob with ⟨h1, _⟩ | ⟨g', n', arr, h1, h2, h3, h4, h5, h6, h7, h8, h9⟩
          · rw [hμ] at h1; cases h1
          · rw [hμ] at h1
            cases h1
            have hget : ∀ i j t, at2 ((els.drop off).take len) i j = some t → at2 els (off + i) j = some t := by
              intro i j t ht
              obtain ⟨c, hc1, hc2⟩ := at2_elim ht
              rw [List.getElem?_take] at hc1
              by_cases hlt : i < len
              · rw [if_pos hlt, List.getElem?_drop] at hc1
                exact at2_some hc1 hc2
              · rw [if_neg hlt] at hc1; cases hc1
            refine .l _ _ _ _ sz' g (off * sz') (fun i j => arr.getD ((off + i) * sz' + j) undef) (by simp; omega) hl (fun hp' => hA (by omega)) (fun _ => hk g ⟨k, by simp [vkeys], ty, sz', els, fz, _, hg, hμ⟩) (fun c hc => ?_) (fun i j t ht => ?_) (fun i j t ht => ?_)
            · exact h6 c (List.mem_of_mem_drop (List.mem_of_mem_take hc))
            · obtain ⟨c, hc1, hc2⟩ := at2_elim (hget i j t ht)
              have hi1 := (List.getElem?_eq_some_iff.1 hc1).1
              have hj1 := (List.getElem?_eq_some_iff.1 hc2).1
              have hcs := h6 c (List.mem_of_getElem? hc1)
              have e1 : off * sz' + (i * sz' + j) = (off + i) * sz' + j := by rw [Nat.add_mul]; omega
              rw [e1, h2.cell]
              refine getD_of_getElem? ?_
              rw [h3]
              exact mul_lt (by omega) (by omega)
            · exact (h8 _ _ _ (hget i j t ht)).mono hS (fun _ _ => rfl)
        · exact .l none 0 0 _ 0 0 0 (fun _ _ => undef) (by simp) (Nat.le_refl _) (by omega) (by omega) (by simp) (by intro i j t h; simp [at2] at h) (by intro i j t h; simp [at2] at h)
      · rw [if_neg hc] at ht
        cases ht
    · cases ht
  · cases ht
theorem treesOf_rep {R : Rl} {w : World} {hp : HP} {ck : Nat} {dn : Nat → Prop} (hi : HInv R w hp ck dn) {S' : Nat → Prop} (hS : ∀ g, R.S g → S' g) {f : Nat → Value} : ∀ (cs : List V) (q : Nat), (∀ j v, cs[j]? = some v → RepV R w (f (q + j)) v) → ∀ {ts : List T}, treesOf hp cs = some ts → (∀ g, rowsAt R hp (cs.flatMap vkeys) g → S' g) →
    ts.length = cs.length ∧ ∀ j t, ts[j]? = some t → RepT S' w (f (q + j)) t
  | [], q, _, ts, ht, _ => by simp [treesOf] at ht; subst ht; simp
  | c :: cs, q, h, ts, ht, hk => by
    simp only [treesOf] at ht
    cases h1 : treeOf hp c with
    | none => simp [h1] at ht
    | some t =>
      cases h2 : treesOf hp cs with
      | none => simp [h1, h2] at ht
      | some ts' =>
        simp [h1, h2] at ht
        subst ht
        have hsub : ∀ g ks ks', (∀ k ∈ ks, k ∈ ks') → rowsAt R hp ks g → rowsAt R hp ks' g := fun g ks ks' hs ⟨k, hk, r⟩ => ⟨k, hs k hk, r⟩
        obtain ⟨l1, l2⟩ := treesOf_rep hi hS cs (q + 1) (fun j v hv => by have := h (j + 1) v (by simpa using hv); rwa [show q + (j + 1) = q + 1 + j by omega] at this) h2 (fun g hg => hk g (hsub g _ _ (fun k hk => by simp only [List.flatMap_cons, List.mem_append]; exact .inr hk) hg))
        refine ⟨by simp [l1], fun j t' hj => ?_⟩
        cases j with
        | zero =>
          simp at hj
          subst hj
          exact treeOf_rep hi hS (h 0 c rfl) h1 (fun g hg => hk g (hsub g _ _ (fun k hk => by simp only [List.flatMap_cons, List.mem_append]; exact .inl hk) hg))
        | succ j =>
          have := l2 j t' (by simpa using hj)
          rwa [show q + (j + 1) = q + 1 + j by omega]
theorem rowsAt_sub {R : Rl} {hp : HP} {ks ks' : List Key} (h : ∀ k ∈ ks, k ∈ ks') (g : Nat) (hg : rowsAt R hp ks g) : rowsAt R hp ks' g := by
  obtain ⟨k, hk, r⟩ := hg
  exact ⟨k, h k hk, r⟩
section
variable {P : Program} {o : Oper} {a : Act} {R : Rl} {w : World} {hp : HP} {dn : Nat → Prop} {me ck d : Nat} {e : Env}
theorem nilv_out (hi : HInv R w hp ck dn) (hd : ¬ dn me) (ho : o.op = .assign (.const (.slice none 0 0))) (ty sz : Nat) :
    Out P o a R w hp dn me (.ow ⟨d, ck, me⟩ sz 0 0) ((⟨d, ck, me⟩, .row ty sz [] false) :: hp) ck := by
  obtain ⟨h1, h2⟩ := alloc_step (w' := w) hi hd ⟨d, ck, me⟩ ⟨rfl, rfl⟩ none (.row ty sz [] false) rfl rfl rfl (Nat.le_refl _) (fun _ _ => rfl) (by intro g n h; cases h) (fun _ => .inl ⟨updμ_same _ _ _, rfl⟩)
  refine Out.of (.slice none 0 0) w _ (.inl ?_) (.owv _ _ (updμ_same _ _ _)) h1 h2
  simp [execOp, ho, Act.eval]
theorem new_var (hi : HInv R w hp ck dn) (hd : ¬ dn me) (ty : Nat) {u : Value} {cs : List V} (h1 : u.cells.size = cs.length) (h2 : ∀ j, j < u.cells.size → (u.cells.getD j undef).oneCell' = true) (h3 : ∀ j x, cs[j]? = some x → RepV R w (u.cells.getD j undef) x) (n : Nat)
    (hrun : (execOp a.eval o).run P w = .ok (.value (.pointer (some ⟨w.heap.size, 0, none⟩))) (w.alloc (.cells u.cells ty))) :
    Out P o a R w hp dn me (.pt ⟨d, ck, me⟩ n 0 0) ((⟨d, ck, me⟩, .box ty cs) :: hp) ck := by
  obtain ⟨g1, g2⟩ := alloc_step (w' := w.alloc (.cells u.cells ty)) hi hd ⟨d, ck, me⟩ ⟨rfl, rfl⟩ (some (w.heap.size, 0)) (.box ty cs) rfl rfl rfl (by simp) (fun g hg => heap_alloc_old w _ g hg) (by intro g n h; cases h; exact Nat.le_refl _)
    (fun ha => ⟨w.heap.size, 0, u.cells, updμ_same _ _ _, heap_alloc_new w _, h1, h2, fun j x hx => (h3 j x hx).mono ha⟩)
  refine Out.of _ _ _ (.inl hrun) ?_ g1 g2
  have := RepV.pt (R := { R with μ := updμ R.μ ⟨d, ck, me⟩ (some (w.heap.size, 0)) }) (w := w.alloc (.cells u.cells ty)) ⟨d, ck, me⟩ n 0 0 w.heap.size 0 (updμ_same _ _ _)
  simpa using this
theorem box_out (hi : HInv R w hp ck dn) (hd : ¬ dn me) (he : EnvRep R w a e) {ty n : Nat} {x : Operand} {x' : Opd} (ho : o.op = .box ty x) (hx : compOpd x = some x') {cs : List V} (hc : cells (x'.ev e) = some cs) :
    Out P o a R w hp dn me (.pt ⟨d, ck, me⟩ n 0 0) ((⟨d, ck, me⟩, .box ty cs) :: hp) ck := by
  obtain ⟨h1, h2, h3⟩ := cells_rep (opd_rep he hx) hc
  exact new_var hi hd ty h1 h2 h3 n (by simp [execOp, ho, Instr.box, newVar, newRow])
theorem alloc_out (hi : HInv R w hp ck dn) (hd : ¬ dn me) {ty n : Nat} (ho : o.op = .alloc ty) {z : Value} (hz : zeroOf P ty = some z) {zs : List V} (hzs : constCs z.cells.toList = some zs) :
    Out P o a R w hp dn me (.pt ⟨d, ck, me⟩ n 0 0) ((⟨d, ck, me⟩, .box ty zs) :: hp) ck := by
  obtain ⟨hl, hr⟩ := constCs_rep (R := R) (w := w) _ _ hzs
  have hl' : z.cells.size = zs.length := by simpa using hl
  refine new_var hi hd ty hl' (fun j hj => ?_) (fun j x hx => ?_) n ?_
  · have := (hr j _ (List.getElem?_eq_getElem (by omega))).2
    rwa [arr_getD] at this
  · have := (hr j x hx).1
    rwa [arr_getD] at this
  · simp [execOp, ho, Instr.alloc, run_zeroOf hz, newVar, newRow]
theorem rows_rep (hi : HInv R w hp ck dn) (he : EnvRep R w a e) {S' : Nat → Prop} (hS : ∀ g, R.S g → S' g) (sz : Nat) : ∀ (xs : List Operand) (ys : List Opd), compOpds xs = some ys → ∀ {rows : List (List T)}, rowsOf hp e sz ys = some rows → (∀ g, rowsAt R hp (keysOfs hp e ys) g → S' g) →
    rows.length = xs.length ∧ (∀ v ∈ xs.map a.eval, v.cells.size = sz) ∧ (∀ c ∈ rows, c.length = sz) ∧ (∀ v ∈ xs.map a.eval, ∀ j, j < v.cells.size → (v.cells.getD j undef).oneCell' = true) ∧
    ∀ i j t, at2 rows i j = some t → RepT S' w (((xs.map a.eval).getD i undef).cells.getD j undef) t
  | [], ys, h, rows, hr, _ => by
    simp [compOpds] at h
    subst h
    simp [rowsOf] at hr
    subst hr
    exact ⟨rfl, by simp, by simp, by simp, by intro i j t ht; simp [at2] at ht⟩
  | x :: xs, ys, h, rows, hr, hk => by
    simp only [compOpds] at h
    cases h1 : compOpd x with
    | none => simp [h1] at h
    | some y =>
      cases h2 : compOpds xs with
      | none => simp [h1, h2] at h
      | some ys' =>
        simp [h1, h2] at h
        subst h
        simp only [rowsOf] at hr
        cases h3 : treesC hp (y.ev e) with
        | none => simp [h3] at hr
        | some c =>
          cases h4 : rowsOf hp e sz ys' with
          | none => simp [h3, h4] at hr
          | some rows' =>
            simp only [h3, h4] at hr
            by_cases hl : c.length = sz
            · rw [if_pos hl] at hr
              cases hr
              have hrep := opd_rep he h1
              unfold treesC at h3
              cases h5 : cells (y.ev e) with
              | none => simp [h5] at h3
              | some cs =>
                simp only [h5] at h3
                obtain ⟨c1, c2, c3⟩ := cells_rep hrep h5
                obtain ⟨t1, t2⟩ := treesOf_rep hi hS (f := fun j => (a.eval x).cells.getD j undef) cs 0 (fun j v hv => by simpa using c3 j v hv) h3 (fun g hg => by
                  refine hk g (rowsAt_sub (fun k hk => ?_) g hg)
                  simp only [keysOfs, List.mem_append]
                  refine .inl ?_
                  obtain ⟨v, hv1, hv2⟩ := List.mem_flatMap.1 hk
                  cases hy : y.ev e with
                  | ow k' s' o' l' =>
                    rw [hy] at h5
                    simp [cells] at h5
                    subst h5
                    simp at hv1
                    subst hv1
                    simpa [vkeys] using hv2
                  | ag cs' =>
                    rw [hy] at h5
                    simp [cells] at h5
                    subst h5
                    refine List.mem_flatMap.2 ⟨v, hv1, ?_⟩
                    cases v <;> simp [vkeys] at hv2 <;> simpa [keysOf1] using hv2
                  | t _ => rw [hy] at h5; simp [cells] at h5; subst h5; simp at hv1; subst hv1; simp [vkeys] at hv2
                  | nl => rw [hy] at h5; simp [cells] at h5; subst h5; simp at hv1; subst hv1; simp [vkeys] at hv2
                  | mp _ => rw [hy] at h5; simp [cells] at h5; subst h5; simp at hv1; subst hv1; simp [vkeys] at hv2
                  | nn => rw [hy] at h5; simp [cells] at h5; subst h5; simp at hv1; subst hv1; simp [vkeys] at hv2
                  | nz => rw [hy] at h5; simp [cells] at h5; subst h5; simp at hv1; subst hv1; simp [vkeys] at hv2
                  | pt _ _ _ _ => rw [hy] at h5; simp [cells] at h5; subst h5; simp at hv1; subst hv1; simp [vkeys] at hv2
                  | pr _ => rw [hy] at h5; simp [cells] at h5; subst h5; simp at hv1; subst hv1; simp [vkeys] at hv2
                  | fn _ _ => rw [hy] at h5; simp [cells] at h5; subst h5; simp at hv1; subst hv1; simp [vkeys] at hv2
                  | tu _ => rw [hy] at h5; simp [cells] at h5
                  | ud => rw [hy] at h5; simp [cells] at h5
                  | un => rw [hy] at h5; simp [cells] at h5)
                obtain ⟨r1, r2, r3, r4, r5⟩ := rows_rep hi he hS sz xs ys' h2 h4 (fun g hg => hk g (rowsAt_sub (fun k hk => by simp only [keysOfs, List.mem_append]; exact .inr hk) g hg))
                refine ⟨by simp [r1], fun v hv => ?_, fun q hq => ?_, fun v hv => ?_, fun i j t ht => ?_⟩
                · rcases List.mem_cons.1 hv with rfl | hv
                  · omega
                  · exact r2 v hv
                · rcases List.mem_cons.1 hq with rfl | hq
                  · exact hl
                  · exact r3 q hq
                · rcases List.mem_cons.1 hv with rfl | hv
                  · exact c2
                  · exact r4 v hv
                · obtain ⟨q, hq1, hq2⟩ := at2_elim ht
                  cases i with
                  | zero =>
                    simp at hq1
                    subst hq1
                    have := t2 j t hq2
                    simpa using this
                  | succ i =>
                    have := r5 i j t (at2_some (by simpa using hq1) hq2)
                    simpa using this
            · rw [if_neg hl] at hr
              cases hr
theorem zip_range (xs : List Operand) (ps : List (Nat × Operand)) (n : Nat) (h1 : ps.map (·.1) = List.range n) (h2 : ps.map (·.2) = xs) (f : Operand → Value) : ps.map (fun p => (p.1, f p.2)) = ((xs.map f).zipIdx 0).map fun x => (x.2, x.1) := by
  subst h2
  apply List.ext_getElem?
  intro i
  have hl : ps.length = n := by have := congrArg List.length h1; simpa using this
  by_cases hi : i < ps.length
  · have h3 := congrArg (·[i]?) h1
    simp [hi, show i < n by omega] at h3
    simp [hi, h3]
  · simp [hi]
theorem lit_run (hi : HInv R w hp ck dn) (he : EnvRep R w a e) {t el : TypeId} {len n : Nat} {ps : Array (Nat × Operand)} (ho : o.op = .buildSlice t len ps) (ht : P.underlying t = some (.slice el)) (hn : szOf P el = some n) {z : Value} (hz : zeroOf P el = some z) {xs : List Opd} (hx : compOpds (ps.toList.map (·.2)) = some xs)
    (hps : ps.toList.map (·.1) = List.range len) (hsm : len * n ≤ 16777216) (hn0 : 0 < n) (hzs : z.cells.size = n) {S' : Nat → Prop} (hS : ∀ g, R.S g → S' g) {rows : List (List T)} (hr : rowsOf hp e n xs = some rows) (hk : ∀ g, rowsAt R hp (keysOfs hp e xs) g → S' g) :
    ∃ arr : Array Value, (execOp a.eval o).run P w = .ok (.value (.slice (some ⟨w.heap.size, 0, none⟩) rows.length rows.length)) (w.alloc (.cells arr el)) ∧ arr.size = rows.length * n ∧ (∀ c ∈ rows, c.length = n) ∧ (∀ j, j < arr.size → (arr.getD j undef).oneCell' = true) ∧
      (∀ i j t, at2 rows i j = some t → RepT S' w (arr.getD (i * n + j) undef) t) ∧ rows.length ≤ 16777216 := by
  obtain ⟨r1, r2, r3, r4, r5⟩ := rows_rep hi he hS n _ _ hx hr hk
  have hlen : rows.length = len := by rw [r1]; have := congrArg List.length hps; simpa using this
  have hinfo : ∃ ie, P.info? el = some ie ∧ ie.size = n := by
    unfold szOf at hn
    cases hie : P.info? el with
    | none => simp [hie] at hn
    | some ie => simp [hie] at hn; exact ⟨ie, rfl, hn⟩
  obtain ⟨ie, hie, hsz⟩ := hinfo
  have hz' : ie.zero = some z := by simpa [zeroOf, hie] using hz
  generalize hus : (ps.toList.map (·.2)).map a.eval = us at r2 r4 r5
  have hul : us.length = len := by rw [← hus, List.length_map, ← r1, hlen]
  have hflat : (us.flatMap fun v => v.cells.toList).length = len * n := by
    rw [← hul]
    clear hus r5 hul r4
    induction us with
    | nil => simp
    | cons u us ih =>
      rw [List.flatMap_cons, List.length_append, ih (fun v hv => r2 v (List.mem_cons_of_mem _ hv)), List.length_cons, Nat.add_mul, Nat.one_mul]
      have := r2 u List.mem_cons_self
      simp [this]
      omega
  have hgetf : ∀ i j, i < len → j < n → (us.flatMap fun v => v.cells.toList).getD (i * n + j) undef = ((us.getD i undef).cells.getD j undef) := by
    intro i j hi' hj
    rw [List.getD_eq_getElem?_getD, Great.flat_get hn0 us r2]
    have e1 : (i * n + j) / n = i := by rw [Nat.mul_comm, Nat.mul_add_div hn0, Nat.div_eq_of_lt hj]; omega
    have e2 : (i * n + j) % n = j := by rw [Nat.mul_comm, Nat.mul_add_mod]; exact Nat.mod_eq_of_lt hj
    rw [e1, e2, List.getElem?_eq_getElem (show i < us.length by omega)]
    simp [List.getD_eq_getElem?_getD, Array.getD_eq_getD_getElem?, List.getElem?_eq_getElem (show i < us.length by omega)]
  refine ⟨(us.flatMap fun v => v.cells.toList).toArray, ?_, by simpa [hlen] using hflat, r3, fun j hj => ?_, fun i j t ht => ?_, ?_⟩
  · have hsz0 : (us.flatMap fun v => v.cells.toList).toArray = #[] ∨ 0 < len := by
      rcases Nat.eq_zero_or_pos len with h | h
      · left
        have : us = [] := List.eq_nil_of_length_eq_zero (by omega)
        subst this
        rfl
      · exact .inr h
    rcases Nat.eq_zero_or_pos len with h0 | h0
    · subst h0
      have hu0 : us = [] := List.eq_nil_of_length_eq_zero hul
      have hps0 : ps = #[] := by
        have : ps.toList = [] := by simpa using hps
        cases ps; simp at this; simp [this]
      subst hu0
      rw [hlen]
      simp [execOp, ho, hps0, Instr.buildSlice, run_underlying ht, run_szOf hn, Instr.fill, newRow]
      congr 2
      exact Array.eq_empty_of_size_eq_zero (by simp)
    · have hpos : ¬ len * ie.size = 0 := by rw [hsz]; exact Nat.ne_of_gt (Nat.mul_pos h0 hn0)
      have hfill : Instr.fill (fun i => some (i * ie.size, ie.size)) ((Array.range (len * ie.size)).map (z.cells[· % z.cells.size]!)) (ps.map fun p => (p.1, a.eval p.2)).toList = some (us.flatMap fun v => v.cells.toList).toArray := by
        rw [hsz, Array.toList_map, zip_range _ ps.toList len hps rfl, hus]
        exact Great.fill_whole hn0 us _ r2 (by simp [hul])
      have hrun := run_buildSlice (P := P) w t el len (ps.map fun p => (p.1, a.eval p.2)) _ ie z ht hie hz' (by rw [hsz]; omega) hpos hfill
      rw [hlen]
      simp only [execOp, ho]
      rw [Sem.run_bind, hrun]
      rfl
  · have hj' : j < len * n := by simpa [hflat] using hj
    have hd : j / n < len := (Nat.div_lt_iff_lt_mul hn0).2 hj'
    have hm : j % n < n := Nat.mod_lt _ hn0
    have e1 : j = j / n * n + j % n := by rw [Nat.mul_comm]; exact (Nat.div_add_mod j n).symm
    have : (us.flatMap fun v => v.cells.toList).toArray.getD j undef = (us.flatMap fun v => v.cells.toList).getD j undef := by simp [List.getD_eq_getElem?_getD, Array.getD_eq_getD_getElem?]
    rw [this, e1, hgetf _ _ hd hm]
    have hmem : us.getD (j / n) undef ∈ us := by rw [List.getD_eq_getElem?_getD, List.getElem?_eq_getElem (by omega)]; exact List.getElem_mem _
    exact r4 _ hmem _ (by rw [r2 _ hmem]; exact hm)
  · obtain ⟨c, hc1, hc2⟩ := at2_elim ht
    have hi1 := (List.getElem?_eq_some_iff.1 hc1).1
    have hj1 := (List.getElem?_eq_some_iff.1 hc2).1
    have hcs := r3 c (List.mem_of_getElem? hc1)
    have : (us.flatMap fun v => v.cells.toList).toArray.getD (i * n + j) undef = (us.flatMap fun v => v.cells.toList).getD (i * n + j) undef := by simp [List.getD_eq_getElem?_getD, Array.getD_eq_getD_getElem?]
    rw [this, hgetf i j (by omega) (by omega)]
    exact r5 i j t ht
  · rw [hlen]
    have : len * 1 ≤ len * n := Nat.mul_le_mul_left _ hn0
    omega
end
end
end Go.Pev
namespace Go.Pev
open Go
section
structure HPe (h h' : HP) : Prop where
  get : ∀ k, h.get k = h'.get k
  perm : (h.map Prod.fst).Perm (h'.map Prod.fst)
theorem HPe.refl (h : HP) : HPe h h := ⟨fun _ => rfl, .refl _⟩
theorem HPe.symm {h h' : HP} (e : HPe h h') : HPe h' h := ⟨fun k => (e.get k).symm, e.perm.symm⟩
theorem HPe.trans {a b c : HP} (e : HPe a b) (f : HPe b c) : HPe a c := ⟨fun k => (e.get k).trans (f.get k), e.perm.trans f.perm⟩
theorem HPe.cons {h h' : HP} (e : HPe h h') (k : Key) (o : Ob) : HPe ((k, o) :: h) ((k, o) :: h') :=
  ⟨fun q => by simp only [HP.get, e.get], by simp only [List.map_cons]; exact e.perm.cons k⟩
theorem HPe.swap (h : HP) {k1 k2 : Key} (hne : k1 ≠ k2) (o1 o2 : Ob) : HPe ((k1, o1) :: (k2, o2) :: h) ((k2, o2) :: (k1, o1) :: h) :=
  ⟨fun q => by
    simp only [HP.get]
    by_cases e1 : k1 = q
    · subst e1; rw [if_pos rfl, if_neg (Ne.symm hne), if_pos rfl]
    · rw [if_neg e1]
      by_cases e2 : k2 = q
      · rw [if_pos e2, if_pos e2]
      · rw [if_neg e2, if_neg e2, if_neg e1], by simp only [List.map_cons]; exact .swap _ _ _⟩
theorem get_put1 (h : HP) (k : Key) (o : Ob) (q : Key) : (h.put k k o).get q = if q = k then (h.get k).map (fun _ => o) else h.get q := by
  induction h with
  | nil => simp [HP.put, HP.get]
  | cons p r ih =>
    obtain ⟨k', o'⟩ := p
    simp only [HP.put]
    by_cases e : k' = k
    · subst e
      rw [if_pos rfl]
      simp only [HP.get, if_true]
      by_cases e2 : k' = q
      · subst e2; simp
      · rw [if_neg e2, if_neg (Ne.symm e2), if_neg e2]
    · rw [if_neg e]
      simp only [HP.get, if_neg e]
      by_cases e2 : k' = q
      · subst e2; rw [if_pos rfl, if_neg e, if_pos rfl]
      · rw [if_neg e2, if_neg e2, ih]
theorem keys_put1 (h : HP) (k : Key) (o : Ob) : (h.put k k o).map Prod.fst = h.map Prod.fst := by
  induction h with
  | nil => rfl
  | cons p r ih =>
    obtain ⟨k', o'⟩ := p
    simp only [HP.put]
    by_cases e : k' = k
    · subst e; rw [if_pos rfl]; rfl
    · rw [if_neg e]; simp only [List.map_cons, ih]
theorem HPe.put {h h' : HP} (e : HPe h h') (k : Key) (o : Ob) : HPe (h.put k k o) (h'.put k k o) :=
  ⟨fun q => by rw [get_put1, get_put1, e.get, e.get], by rw [keys_put1, keys_put1]; exact e.perm⟩
theorem HPe.freeze1 {h h' : HP} (e : HPe h h') (k : Key) : HPe (freeze1 h k) (freeze1 h' k) := by
  unfold Go.Pev.freeze1
  rw [← e.get]
  cases h.get k with
  | none => exact e
  | some o => cases o with
    | box ty cs => exact e
    | mp es => exact e
    | bls _ _ _ => exact e
    | row ty sz els fz => exact e.put _ _
theorem HPe.freezeAll : ∀ (ks : List Key) {h h' : HP} (e : HPe h h'), HPe (freezeAll h ks) (freezeAll h' ks)
  | [], _, _, e => e
  | k :: ks, _, _, e => HPe.freezeAll ks (e.freeze1 k)
section
variable {h h' : HP} (e : HPe h h')
include e
theorem treeOf_e (v : V) : treeOf h v = treeOf h' v := by
  cases v <;> try rfl
  simp only [treeOf, e.get]
theorem treesOf_e : ∀ (vs : List V), treesOf h vs = treesOf h' vs
  | [] => rfl
  | v :: r => by simp only [treesOf, treeOf_e e v, treesOf_e r]
theorem capOf_e (v : V) : capOf h v = capOf h' v := by
  cases v <;> try rfl
  · simp only [capOf, treeOf_e e]
  · rename_i q sz i j
    rcases i with _ | i <;> try rfl
    rcases j with _ | j <;> try rfl
    simp only [capOf, e.get]
    cases h'.get q with
    | none => rfl
    | some o => cases o with
      | row _ _ _ _ => rfl
      | mp es => rfl
      | bls _ _ _ => rfl
      | box ty cs => simp only [treesOf_e e]
theorem capsOf_e : ∀ (vs : List V), capsOf h vs = capsOf h' vs
  | [] => rfl
  | v :: r => by simp only [capsOf, capOf_e e v, capsOf_e r]
theorem pureOf_e (v : V) : pureOf h v = pureOf h' v := by
  cases v <;> try rfl
  · simp only [pureOf, treeOf_e e]
  · exact capOf_e e _
  · simp only [pureOf, treesOf_e e]
  · simp only [pureOf, capsOf_e e]
theorem puresOf_e : ∀ (vs : List V), puresOf h vs = puresOf h' vs
  | [] => rfl
  | v :: r => by simp only [puresOf, pureOf_e e v, puresOf_e r]
theorem keysOf1_e (v : V) : keysOf1 h v = keysOf1 h' v := by
  cases v <;> try rfl
  rename_i q sz i j
  rcases i with _ | i <;> try rfl
  rcases j with _ | j <;> try rfl
  simp only [keysOf1, e.get]
theorem keysOf1_ef : keysOf1 h = keysOf1 h' := funext (keysOf1_e e)
theorem keysOf_e (v : V) : keysOf h v = keysOf h' v := by
  cases v <;> simp only [keysOf, keysOf1_ef e]
theorem keysOf_ef : keysOf h = keysOf h' := funext (keysOf_e e)
theorem load_e (agg : Bool) (n : Nat) (v : V) : load h agg n v = load h' agg n v := by
  cases v <;> simp only [load, e.get]
theorem treesC_e (v : V) : treesC h v = treesC h' v := by
  unfold treesC
  cases cells v with
  | none => rfl
  | some cs => exact treesOf_e e cs
theorem elsOf_e (sz : Nat) (v : V) : elsOf h sz v = elsOf h' sz v := by
  unfold elsOf
  rw [treeOf_e e]
theorem callQ_e (run : Run) (f : Nat) (as : List V) : callQ run f as h = callQ run f as h' := by
  unfold callQ
  rw [puresOf_e e, keysOf_ef e]
theorem rowsOf_e (env : Env) (sz : Nat) : ∀ (xs : List Opd), rowsOf h env sz xs = rowsOf h' env sz xs
  | [] => rfl
  | x :: r => by simp only [rowsOf, treesC_e e, rowsOf_e env sz r]
theorem keysOfs_e (env : Env) : ∀ (xs : List Opd), keysOfs h env xs = keysOfs h' env xs
  | [] => rfl
  | x :: r => by simp only [keysOfs, keysOf1_ef e, keysOfs_e env r]
theorem store_e {n : Nat} {v a : V} {h1 : HP} (hs : store h n v a = some h1) : ∃ h1', store h' n v a = some h1' ∧ HPe h1 h1' := by
  cases a <;> try (simp [store] at hs; done)
  rename_i k sz i j
  simp only [store] at hs ⊢
  rw [← e.get]
  cases ho : h.get k with
  | none => rw [ho] at hs; cases hs
  | some o =>
    rw [ho] at hs
    cases o with
    | mp es => cases hs
    | bls _ _ _ => cases hs
    | box ty cs =>
      simp only at hs ⊢
      cases hc : cells v with
      | none => rw [hc] at hs; cases hs
      | some vs =>
        rw [hc] at hs
        simp only at hs ⊢
        split at hs
        · rename_i hcond
          cases hs
          rw [if_pos hcond]
          exact ⟨_, rfl, e.put _ _⟩
        · cases hs
    | row ty sz2 els fz =>
      simp only at hs ⊢
      rw [← treesC_e e, ← keysOf_e e]
      have ef := e.freezeAll (keysOf h v)
      cases ht : treesC h v with
      | none => rw [ht] at hs; cases hs
      | some ts =>
        rw [ht] at hs
        simp only at hs ⊢
        rw [← ef.get]
        cases hg : (Go.Pev.freezeAll h (keysOf h v)).get k with
        | none => rw [hg] at hs; cases hs
        | some o2 =>
          rw [hg] at hs
          cases o2 with
          | box _ _ => cases hs
          | mp _ => cases hs
          | bls _ _ _ => cases hs
          | row ty3 sz3 els3 fz3 =>
            cases fz3 with
            | true => cases hs
            | false =>
              simp only at hs ⊢
              split at hs
              · rename_i hsz
                rw [if_pos hsz]
                cases hel : els3[i]? with
                | none => rw [hel] at hs; cases hs
                | some c =>
                  rw [hel] at hs
                  simp only at hs ⊢
                  split at hs
                  · rename_i hcond
                    cases hs
                    rw [if_pos hcond]
                    exact ⟨_, rfl, ef.put _ _⟩
                  · cases hs
              · cases hs
end
theorem load_put {h : HP} {k q : Key} (hq : q ≠ k) (o : Ob) (agg : Bool) (m sz i j : Nat) : load (h.put k k o) agg m (.pt q sz i j) = load h agg m (.pt q sz i j) := by
  simp only [load, get_put1, if_neg hq]
theorem load_freeze1 (h : HP) (k : Key) (agg : Bool) (m : Nat) (p : V) : load (freeze1 h k) agg m p = load h agg m p := by
  cases p <;> try rfl
  rename_i q sz i j
  unfold freeze1
  cases hk : h.get k with
  | none => rfl
  | some o => cases o with
    | box ty cs => rfl
    | mp es => rfl
    | bls _ _ _ => rfl
    | row ty sz els fz =>
      by_cases e : q = k
      · subst e
        simp only [load, get_put1, hk, if_true, Option.map_some]
      · exact load_put e _ _ _ _ _ _
theorem load_freezeAll (agg : Bool) (m : Nat) (p : V) : ∀ (ks : List Key) (h : HP), load (freezeAll h ks) agg m p = load h agg m p
  | [], h => rfl
  | k :: ks, h => by
    show load (freezeAll (freeze1 h k) ks) agg m p = _
    rw [load_freezeAll agg m p ks, load_freeze1]
theorem freeze1_box (h : HP) (k q : Key) (ty : Nat) (cs : List V) : (freeze1 h k).get q = some (.box ty cs) ↔ h.get q = some (.box ty cs) := by
  unfold freeze1
  cases hk : h.get k with
  | none => exact Iff.rfl
  | some o => cases o with
    | box ty cs => exact Iff.rfl
    | mp es => exact Iff.rfl
    | bls _ _ _ => exact Iff.rfl
    | row ty sz els fz =>
      simp only [get_put1, hk]
      by_cases e : q = k
      · subst e; simp [hk]
      · rw [if_neg e]
theorem freezeAll_box (q : Key) (ty : Nat) (cs : List V) : ∀ (ks : List Key) (h : HP), (freezeAll h ks).get q = some (.box ty cs) ↔ h.get q = some (.box ty cs)
  | [], h => Iff.rfl
  | k :: ks, h => (freezeAll_box q ty cs ks (freeze1 h k)).trans (freeze1_box h k q ty cs)
theorem store_box {h h' : HP} {n : Nat} {v a : V} (hs : store h n v a = some h') (hr : isRow h a = true) (q : Key) (ty : Nat) (cs : List V) : h'.get q = some (.box ty cs) ↔ h.get q = some (.box ty cs) := by
  cases a <;> try (simp [store] at hs; done)
  rename_i k sz i j
  simp only [store, isRow] at hs hr
  cases ho : h.get k with
  | none => rw [ho] at hs; cases hs
  | some o =>
    rw [ho] at hs hr
    cases o with
    | box ty cs => cases hr
    | mp es => cases hr
    | bls _ _ _ => cases hr
    | row ty sz2 els fz =>
      simp only at hs
      cases ht : treesC h v with
      | none => rw [ht] at hs; cases hs
      | some ts =>
        rw [ht] at hs
        simp only at hs
        cases hg : (Go.Pev.freezeAll h (keysOf h v)).get k with
        | none => rw [hg] at hs; cases hs
        | some o2 =>
          rw [hg] at hs
          cases o2 with
          | box _ _ => cases hs
          | mp _ => cases hs
          | bls _ _ _ => cases hs
          | row ty3 sz3 els3 fz3 =>
            cases fz3 with
            | true => cases hs
            | false =>
              simp only at hs
              split at hs
              · cases hel : els3[i]? with
                | none => rw [hel] at hs; cases hs
                | some c =>
                  rw [hel] at hs
                  simp only at hs
                  split at hs
                  · cases hs
                    rw [get_put1, hg]
                    by_cases e : q = k
                    · subst e; rw [ho]; simp
                    · rw [if_neg e]; exact freezeAll_box q _ _ _ h
                  · cases hs
              · cases hs
theorem load_kept {h h' : HP} {p : V} (hk : ∀ q ty cs, h.get q = some (.box ty cs) → h'.get q = some (.box ty cs)) (hb : isBox h p = true) (agg : Bool) (m : Nat) : isBox h' p = true ∧ load h' agg m p = load h agg m p := by
  cases p <;> try (simp [isBox] at hb; done)
  · rename_i k sz i j
    simp only [isBox] at hb ⊢
    cases ho : h.get k with
    | none => rw [ho] at hb; cases hb
    | some o => cases o with
      | row _ _ _ _ => rw [ho] at hb; cases hb
      | mp es => rw [ho] at hb; cases hb
      | bls _ _ _ => rw [ho] at hb; cases hb
      | box ty cs => simp only [load, hk _ _ _ ho, ho, and_self]
  · exact ⟨rfl, rfl⟩
theorem isBox_e {h h' : HP} (e : HPe h h') (v : V) : isBox h v = isBox h' v := by
  cases v <;> simp only [isBox, e.get]
theorem isRow_e {h h' : HP} (e : HPe h h') (v : V) : isRow h v = isRow h' v := by
  cases v <;> simp only [isRow, e.get]
theorem callO_e {h h' : HP} (e : HPe h h') (C : Cfg) (run : Run) (f : Nat) (as : List V) (k : Key) : callO C run f as h k = callO C run f as h' k := by
  unfold callO
  rw [keysOf_ef e, puresOf_e e]
theorem store_load {h h' : HP} {n : Nat} {v a p : V} (hs : store h n v a = some h') (hap : apart a p = true) (agg : Bool) (m : Nat) : load h' agg m p = load h agg m p := by
  cases a <;> try (simp [store] at hs; done)
  rename_i k sz i j
  cases p <;> try rfl
  rename_i q sz' i' j'
  have hne : q ≠ k := by simpa [apart] using hap
  simp only [store] at hs
  cases ho : h.get k with
  | none => rw [ho] at hs; cases hs
  | some o =>
    rw [ho] at hs
    cases o with
    | mp es => cases hs
    | bls _ _ _ => cases hs
    | box ty cs =>
      simp only at hs
      cases hc : cells v with
      | none => rw [hc] at hs; cases hs
      | some vs =>
        rw [hc] at hs
        simp only at hs
        split at hs
        · cases hs
          exact load_put hne _ _ _ _ _ _
        · cases hs
    | row ty sz2 els fz =>
      simp only at hs
      cases ht : treesC h v with
      | none => rw [ht] at hs; cases hs
      | some ts =>
        rw [ht] at hs
        simp only at hs
        cases hg : (Go.Pev.freezeAll h (keysOf h v)).get k with
        | none => rw [hg] at hs; cases hs
        | some o2 =>
          rw [hg] at hs
          cases o2 with
          | box _ _ => cases hs
          | mp _ => cases hs
          | bls _ _ _ => cases hs
          | row ty3 sz3 els3 fz3 =>
            cases fz3 with
            | true => cases hs
            | false =>
              simp only at hs
              split at hs
              · cases hel : els3[i]? with
                | none => rw [hel] at hs; cases hs
                | some c =>
                  rw [hel] at hs
                  simp only at hs
                  split at hs
                  · cases hs
                    rw [load_put hne, load_freezeAll]
                  · cases hs
              · cases hs
theorem HInv.hpe {R : Rl} {w : World} {hp hp' : HP} {ck : Nat} {dn : Nat → Prop} (hi : HInv R w hp ck dn) (e : HPe hp hp') : HInv R w hp' ck dn where
  ob := fun k o h => hi.ob k o (by rw [e.get]; exact h)
  sep := fun k1 k2 o1 o2 g n1 n2 h1 h2 => hi.sep k1 k2 o1 o2 g n1 n2 (by rw [e.get]; exact h1) (by rw [e.get]; exact h2)
  own := fun g ⟨k, o, n, h1, h2, h3⟩ => hi.own g ⟨k, o, n, by rw [e.get]; exact h1, h2, h3⟩
  sS := hi.sS
  sB := hi.sB
  fr := hi.fr
  nd := e.perm.nodup_iff.1 hi.nd
  gl := hi.gl
theorem Grow.hpe {R R' : Rl} {w w' : World} {hp hp1 hp2 : HP} (g : Grow R w hp R' w' hp1) (e : HPe hp1 hp2) : Grow R w hp R' w' hp2 :=
  ⟨g.os, g.tape, g.output, g.size, g.keep, g.S, g.B, g.μ, g.S', fun q ⟨k, o, n, h1, h2, h3⟩ => g.own q ⟨k, o, n, by rw [e.get]; exact h1, h2, h3⟩⟩
end
end Go.Pev
